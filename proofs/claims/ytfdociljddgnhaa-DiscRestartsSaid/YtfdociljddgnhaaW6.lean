/- The wide numbers' functions do what their contracts say, part 4. -/
import Derived.Test.YtfdociljddgnhaaW5
set_option linter.all false
set_option maxRecDepth 100000
namespace Go.Tb.W
open Go Go.Proofs
variable {I : Interp O}
theorem g2 : GOk I P (Gm E2) := by
  refine Gm.consP ?_ k_less
  refine Gm.consP ?_ k_int
  refine Gm.consP ?_ k_parted
  exact g1
theorem ov_eq {K : AV → Prop} {x : Int} (h : K (ov x)) : (fit x = true → K (.tup [.agg [.int .i64 (hi x), .int .u64 (lo x)], .int .i64 0])) ∧ (fit x = false → K (.tup [.agg [.int .i64 0, .int .u64 0], .int .i64 6])) := by
  unfold ov at h
  constructor <;> (intro hf; rw [hf] at h; exact h)
theorem k_add : ∀ (args : List AV) (K : AV → Prop), c_add args K → ∀ hp, ACall I P 24 args hp (fun v hp' => K v ∧ hp' = hp) := by
  intro args K h hp
  unfold c_add at h; split at h
  · rename_i a b c d
    refine pcall mix g2 (fn := Try.f24) (by kernel_rfl) (by kernel_rfl) (by kernel_rfl) rfl rfl (fun hr => ?_) hp
    refine (t_add I (fun v => K v ∧ cl v = true) a b c d).mpr ?_
    simp only [rgs, rg, Bool.and_eq_true] at hr
    obtain ⟨⟨ha, hb, _⟩, ⟨hc, hd, _⟩, _⟩ := hr
    have ha := r_i64 ha; have hb := r_u64 hb; have hc := r_i64 hc; have hd := r_u64 hd
    obtain ⟨h1, h2⟩ := ov_eq h
    refine bsplit_both (fun hx => bsplit_both (fun hy => ⟨h2 ?_, rfl⟩) (fun hy => ⟨h1 ?_, rfl⟩)) (fun hx => ⟨h1 ?_, rfl⟩)
    · rw [← Bool.not_eq_true, fit_iff]
      rcases Int.lt_or_le a 0 with h | h <;> rcases Int.lt_or_le c 0 with h' | h' <;> rcases Int.lt_or_le (hi (vl a b + vl c d)) 0 with h'' | h'' <;> simp [h, h', h'', Int.not_lt.2 h, Int.not_lt.2 h', Int.not_lt.2 h''] at hx hy <;> unfold hi vl at h'' <;> unfold vl <;> omega
    · rw [fit_iff]
      rcases Int.lt_or_le a 0 with h | h <;> rcases Int.lt_or_le c 0 with h' | h' <;> rcases Int.lt_or_le (hi (vl a b + vl c d)) 0 with h'' | h'' <;> simp [h, h', h'', Int.not_lt.2 h, Int.not_lt.2 h', Int.not_lt.2 h''] at hx hy <;> unfold hi vl at h'' <;> unfold vl <;> omega
    · rw [fit_iff]
      rcases Int.lt_or_le a 0 with h | h <;> rcases Int.lt_or_le c 0 with h' | h' <;> simp [h, h', Int.not_lt.2 h, Int.not_lt.2 h'] at hx <;> unfold vl <;> omega
  · exact h.elim
theorem hi_less (x a c d : Int) : hi (x + vl (hi (-vl c d)) (lo (-vl c d))) = hi (x - vl c d) := by unfold hi lo vl; omega
theorem lo_less (x a c d : Int) : lo (x + vl (hi (-vl c d)) (lo (-vl c d))) = lo (x - vl c d) := by unfold hi lo vl; omega
theorem k_sub : ∀ (args : List AV) (K : AV → Prop), c_sub args K → ∀ hp, ACall I P 33 args hp (fun v hp' => K v ∧ hp' = hp) := by
  intro args K h hp
  unfold c_sub at h; split at h
  · rename_i a b c d
    refine pcall mix g2 (fn := Try.f33) (by kernel_rfl) (by kernel_rfl) (by kernel_rfl) rfl rfl (fun hr => ?_) hp
    refine (t_sub I (fun v => K v ∧ cl v = true) a b c d).mpr ?_
    simp only [rgs, rg, Bool.and_eq_true] at hr
    obtain ⟨⟨ha, hb, _⟩, ⟨hc, hd, _⟩, _⟩ := hr
    have ha := r_i64 ha; have hb := r_u64 hb; have hc := r_i64 hc; have hd := r_u64 hd
    obtain ⟨h1, h2⟩ := ov_eq h
    rw [hi_less _ a c d, lo_less _ a c d]
    refine bsplit_both (fun hx => bsplit_both (fun hy => ⟨h2 ?_, rfl⟩) (fun hy => ⟨h1 ?_, rfl⟩)) (fun hx => ⟨h1 ?_, rfl⟩)
    · rw [← Bool.not_eq_true, fit_iff]
      rcases Int.lt_or_le a 0 with h | h <;> rcases Int.lt_or_le c 0 with h' | h' <;> rcases Int.lt_or_le (hi (vl a b - vl c d)) 0 with h'' | h'' <;> simp [h, h', h'', Int.not_lt.2 h, Int.not_lt.2 h', Int.not_lt.2 h''] at hx hy <;> unfold hi vl at h'' <;> unfold vl <;> omega
    · rw [fit_iff]
      rcases Int.lt_or_le a 0 with h | h <;> rcases Int.lt_or_le c 0 with h' | h' <;> rcases Int.lt_or_le (hi (vl a b - vl c d)) 0 with h'' | h'' <;> simp [h, h', h'', Int.not_lt.2 h, Int.not_lt.2 h', Int.not_lt.2 h''] at hx hy <;> unfold hi vl at h'' <;> unfold vl <;> omega
    · rw [fit_iff]
      rcases Int.lt_or_le a 0 with h | h <;> rcases Int.lt_or_le c 0 with h' | h' <;> simp [h, h', Int.not_lt.2 h, Int.not_lt.2 h'] at hx <;> unfold vl <;> omega
  · exact h.elim
theorem sgn_lex (a b c d : Int) (hb : 0 ≤ b ∧ b ≤ 18446744073709551615) (hd : 0 ≤ d ∧ d ≤ 18446744073709551615) : ifB (decide (sgn a c = 0)) (sgn b d) (sgn a c) = sgn (vl a b) (vl c d) := by
  have s3 : ∀ x y : Int, (x < y ∧ sgn x y = -1) ∨ (x = y ∧ sgn x y = 0) ∨ (y < x ∧ sgn x y = 1) := fun x y => by
    unfold sgn
    rcases Int.lt_trichotomy x y with h | h | h
    · exact .inl ⟨h, by simp [h, ifB]⟩
    · subst h; exact .inr (.inl ⟨rfl, by simp [ifB]⟩)
    · refine .inr (.inr ⟨h, ?_⟩)
      have h1 : ¬ x < y := by omega
      have h2 : x ≠ y := by omega
      simp [h1, h2, ifB]
  rcases s3 a c with ⟨h, e⟩ | ⟨h, e⟩ | ⟨h, e⟩ <;> rcases s3 b d with ⟨h', e'⟩ | ⟨h', e'⟩ | ⟨h', e'⟩ <;> rcases s3 (vl a b) (vl c d) with ⟨h'', e''⟩ | ⟨h'', e''⟩ | ⟨h'', e''⟩ <;> rw [e, e', e''] <;> first | rfl | (exfalso; unfold vl at h''; omega)
end Go.Tb.W
