/- The wide numbers' functions do what their contracts say, part 2. -/
import Derived.Test.YtfdociljddgnhaaW3
set_option linter.all false
set_option maxRecDepth 100000
namespace Go.Tb.W
open Go Go.Proofs
variable {I : Interp O}
theorem k_less : ∀ (args : List AV) (K : AV → Prop), c_less args K → ∀ hp, ACall I P 31 args hp (fun v hp' => K v ∧ hp' = hp) := by
  intro args K h hp
  unfold c_less at h; split at h
  · rename_i a b
    refine pcall mix g1 (fn := Try.f31) (by kernel_rfl) (by kernel_rfl) (by kernel_rfl) rfl rfl (fun hr => ?_) hp
    refine (t_less I (fun v => K v ∧ cl v = true) a b).mpr ⟨?_, rfl⟩
    simp only [rgs, rg, Bool.and_eq_true] at hr
    obtain ⟨⟨ha, hb, _⟩, _⟩ := hr
    have ha := r_i64 ha; have hb := r_u64 hb
    rw [not_i64 a ha, not_u64 b hb]
    rw [wd_eq (x := -(vl a b))]
    · exact h
    · unfold hi vl; omega
    · unfold lo vl; omega
  · exact h.elim
theorem fit64_iff {x : Int} : fit64 x = true ↔ -9223372036854775808 ≤ x ∧ x < 9223372036854775808 := by
  unfold fit64; rw [Bool.and_eq_true, decide_eq_true_iff, decide_eq_true_iff]
theorem fit_iff {x : Int} : fit x = true ↔ -170141183460469231731687303715884105728 ≤ x ∧ x < 170141183460469231731687303715884105728 := by
  unfold fit; rw [Bool.and_eq_true, decide_eq_true_iff, decide_eq_true_iff]
theorem k_int : ∀ (args : List AV) (K : AV → Prop), c_int args K → ∀ hp, ACall I P 26 args hp (fun v hp' => K v ∧ hp' = hp) := by
  intro args K h hp
  unfold c_int at h; split at h
  · rename_i a b
    refine pcall mix g1 (fn := Try.f26) (by kernel_rfl) (by kernel_rfl) (by kernel_rfl) rfl rfl (fun hr => ?_) hp
    refine (t_int I (fun v => K v ∧ cl v = true) a b).mpr ?_
    simp only [rgs, rg, Bool.and_eq_true] at hr
    obtain ⟨⟨ha, hb, _⟩, _⟩ := hr
    have ha := r_i64 ha; have hb := r_u64 hb
    have hw : (b < 9223372036854775808 ∧ IntKind.i64.wrap b = b ∧ hi b = 0) ∨ (9223372036854775808 ≤ b ∧ IntKind.i64.wrap b = b - 18446744073709551616 ∧ hi (b - 18446744073709551616) = -1) := by
      rcases Int.lt_or_le b 9223372036854775808 with hlt | hle
      · exact .inl ⟨hlt, by rw [w_i64]; omega, by unfold hi; omega⟩
      · exact .inr ⟨hle, by rw [w_i64]; omega, by unfold hi; omega⟩
    have key : (hi (IntKind.i64.wrap b) == a && (lo (IntKind.i64.wrap b) == b && true)) = fit64 (vl a b) ∧ (fit64 (vl a b) = true → IntKind.i64.wrap b = vl a b) := by
      rcases hw with ⟨h1, h2, h3⟩ | ⟨h1, h2, h3⟩
      · rw [h2, h3]
        have : lo b = b := by unfold lo; omega
        rw [this]
        constructor
        · rw [Bool.eq_iff_iff, fit64_iff]; simp only [Bool.and_eq_true, beq_iff_eq, beq_self_eq_true, and_true, vl]; omega
        · rw [fit64_iff]; unfold vl; omega
      · rw [h2, h3]
        have : lo (b - 18446744073709551616) = b := by unfold lo; omega
        rw [this]
        constructor
        · rw [Bool.eq_iff_iff, fit64_iff]; simp only [Bool.and_eq_true, beq_iff_eq, beq_self_eq_true, and_true, vl]; omega
        · rw [fit64_iff]; unfold vl; omega
    rw [key.1]
    refine bsplit_both (fun hx => ⟨?_, rfl⟩) (fun hx => ⟨?_, rfl⟩)
    · have : fit64 (vl a b) = false := by simpa using hx
      rw [this] at h; exact h
    · have hf : fit64 (vl a b) = true := by simpa using hx
      rw [hf] at h; rw [key.2 hf]; exact h
  · exact h.elim
theorem sgn_cases {K : AV → Prop} {a b : Int} (h : K (.int .i64 (sgn a b))) : bsplit (decide (a < b)) fun | true => (K (.int .i64 (-1)) ∧ cl (.int .i64 (-1)) = true) | false => bsplit (decide (a > b)) fun | true => (K (.int .i64 1) ∧ cl (.int .i64 1) = true) | false => (K (.int .i64 0) ∧ cl (.int .i64 0) = true) := by
  unfold sgn at h
  refine bsplit_both (fun hx => ⟨?_, rfl⟩) (fun hx => bsplit_both (fun hy => ⟨?_, rfl⟩) (fun hy => ⟨?_, rfl⟩))
  · rw [hx] at h; exact h
  · rw [hx, show decide (a = b) = false by simp at hy ⊢; omega] at h; exact h
  · rw [hx, show decide (a = b) = true by simp at hx hy ⊢; omega] at h; exact h
end Go.Tb.W
