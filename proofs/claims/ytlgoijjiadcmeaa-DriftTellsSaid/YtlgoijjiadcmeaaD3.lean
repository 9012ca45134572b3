/- The clocks' functions do what their contracts say. -/
import Derived.Test.YtlgoijjiadcmeaaU2
import Derived.Test.YtlgoijjiadcmeaaD2
set_option linter.all false
set_option maxRecDepth 100000
namespace Go.Tb.W
open Go Go.Proofs
variable {I : Interp O}
theorem k_may : ∀ (args : List AV) (K : AV → Prop), c_may args K → ∀ hp, ACall I P 32 args hp (fun v hp' => K v ∧ hp' = hp) := by
  intro args K h hp
  unfold c_may at h; split at h
  · rename_i r
    refine pcall mix gu (fn := Try.f32) (by kernel_rfl) (by kernel_rfl) (by kernel_rfl) rfl rfl (fun hr => ?_) hp
    refine (t_may I (fun v => K v ∧ cl v = true) r).mpr ?_
    unfold mayB at h
    refine bsplit_both (fun hx => ⟨?_, rfl⟩) (fun hx => ⟨?_, rfl⟩)
    · have : decide (-100000000 ≤ r) = true := by simpa using hx
      rw [this] at h; exact h
    · have : decide (-100000000 ≤ r) = false := by simpa using hx
      rw [this] at h; exact h
  · exact h.elim
theorem k_plus : ∀ (args : List AV) (K : AV → Prop), c_plus args K → ∀ hp, ACall I P 46 args hp (fun v hp' => K v ∧ hp' = hp) := by
  intro args K h hp
  unfold c_plus at h; split at h
  · rename_i a b
    refine pcall mix gu (fn := Try.f46) (by kernel_rfl) (by kernel_rfl) (by kernel_rfl) rfl rfl (fun hr => ?_) hp
    simp only [rgs, rg, Bool.and_eq_true] at hr
    have ha := r_i64 hr.1; have hb := r_i64 hr.2.1
    refine (t_plus I (fun v => K v ∧ cl v = true) a b).mpr ?_
    intro h0 l0 m0 h1 l1 m1 h2 l2 e2 m2 n e m3
    refine ⟨h _ _ ?_, rfl⟩
    simp only [Nm, AddR, I64R, true_and] at *
    omega
  · exact h.elim
theorem k_since : ∀ (args : List AV) (K : AV → Prop), c_since args K → ∀ hp, ACall I P 20 args hp (fun v hp' => K v ∧ hp' = hp) := by
  intro args K h hp
  unfold c_since at h; split at h
  · rename_i a b c d
    refine pcall mix gu (fn := Try.f20) (by kernel_rfl) (by kernel_rfl) (by kernel_rfl) rfl rfl (fun hr => ?_) hp
    refine (t_since I (fun v => K v ∧ cl v = true) a b c d).mpr ?_
    intro h0 l0 e0 m0
    refine bsplit_both (fun hx => ⟨h _ _ ?_, rfl⟩) (fun hx => ?_)
    · have : e0 ≠ 0 := by simpa using hx
      simp only [Nm, AddR, I64R, true_and] at *
      omega
    · have : e0 = 0 := by simpa using hx
      intro n e m1
      refine ⟨h _ _ ?_, rfl⟩
      simp only [Nm, AddR, I64R, true_and] at *
      omega
  · exact h.elim
theorem gf3 : GOk I P (Gm F3) := by
  refine Gm.consP ?_ k_may
  refine Gm.consP ?_ k_plus
  refine Gm.consP ?_ k_since
  exact gu
theorem mayB_iff {r : Int} : mayB r = true ↔ -100000000 ≤ r ∧ r ≤ 100000000 := by simp [mayB]
theorem k_new : ∀ (args : List AV) (K : AV → Prop), c_new args K → ∀ hp, ACall I P 19 args hp (fun v hp' => K v ∧ hp' = hp) := by
  intro args K h hp
  unfold c_new at h; split at h
  · rename_i a b r
    refine pcall mix gf3 (fn := Try.f19) (by kernel_rfl) (by kernel_rfl) (by kernel_rfl) rfl rfl (fun hr => ?_) hp
    refine (t_new I (fun v => K v ∧ cl v = true) a b r).mpr ?_
    refine bsplit_both (fun hx => ⟨h _ _ _ _ (.inr ⟨?_, rfl, rfl, rfl, rfl⟩), rfl⟩) (fun hx => ⟨h _ _ _ _ (.inl ⟨?_, rfl, rfl, rfl, rfl⟩), rfl⟩)
    · have := mt (mayB_iff (r := r)).2 (by simpa using hx); omega
    · exact mayB_iff.1 (by simpa using hx)
  · exact h.elim
theorem k_read : ∀ (args : List AV) (K : AV → Prop), c_read args K → ∀ hp, ACall I P 11 args hp (fun v hp' => K v ∧ hp' = hp) := by
  intro args K h hp
  unfold c_read at h; split at h
  · rename_i f s r t
    refine pcall mix gf3 (fn := Try.f11) (by kernel_rfl) (by kernel_rfl) (by kernel_rfl) rfl rfl (fun hr => ?_) hp
    simp only [rgs, rg, Bool.and_eq_true] at hr
    obtain ⟨⟨hf, hs, hq, _⟩, ht, _⟩ := hr
    have hf := r_i64 hf; have hs := r_i64 hs; have hq := r_i64 hq; have ht := r_i64 ht
    refine (t_read I (fun v => K v ∧ cl v = true) f s r t).mpr ?_
    refine bsplit_both (fun hx => ⟨h _ _ (.inl ⟨by simpa using hx, rfl, rfl⟩), rfl⟩) (fun hx => ?_)
    have hx : f ≤ t := by simpa using hx
    intro h0 l0 m0 h1 l1 m1 n e m2
    refine bsplit_both (fun hy => ⟨h _ _ (.inr (.inl ?_)), rfl⟩) (fun hy => ?_)
    · have : e ≠ 0 := by simpa using hy
      simp only [Nm, I64R, true_and] at *; omega
    have : e = 0 := by simpa using hy
    have hn : n = t - f ∧ t - f ≤ 9223372036854775807 := by simp only [Nm, I64R, true_and] at *; omega
    obtain ⟨rfl, hn⟩ := hn
    have hm := mul_bd (a := t - f) (b := r) (by omega) hq
    intro h3 l3 m3 h4 l4 r4 e4 m4 h5 l5 m5 h6 l6 e6 m6 h7 l7 m7 h8 l8 e8 m8 n9 e9 m9
    refine ⟨h _ _ (.inr (.inr ⟨hx, hn, ?_⟩)), rfl⟩
    have : vl h8 l8 = shw f s r t := by
      unfold shw
      simp only [Nm, AddR, DivR] at *
      rw [m3.2.2] at m4
      generalize (t - f) * r = x at *
      omega
    rw [this] at m9; exact m9
  · exact h.elim
theorem gf4 : GOk I P (Gm F4) := by
  refine Gm.consP ?_ k_new
  refine Gm.consP ?_ k_read
  exact gf3
theorem k_shown : ∀ (args : List AV) (K : AV → Prop), c_shown args K → ∀ hp, ACall I P 33 args hp (fun v hp' => K v ∧ hp' = hp) := by
  intro args K h hp
  unfold c_shown at h; split at h
  · rename_i f s r t y
    refine pcall mix gf4 (fn := Try.f33) (by kernel_rfl) (by kernel_rfl) (by kernel_rfl) rfl rfl (fun hr => ?_) hp
    refine (t_shown I (fun v => K v ∧ cl v = true) f s r t y).mpr ?_
    intro n e m
    refine bsplit_both (fun hx => ⟨h _ _ ⟨n, e, m, .inl ⟨by simpa using hx, rfl, rfl⟩⟩, rfl⟩) (fun hx n' e' m' => ⟨h _ _ ⟨n, e, m, .inr ⟨by simpa using hx, m'⟩⟩, rfl⟩)
  · exact h.elim
theorem gf5 : GOk I P (Gm F5) := by
  refine Gm.consP ?_ k_shown
  exact gf4
theorem k_turn : ∀ (args : List AV) (K : AV → Prop), c_turn args K → ∀ hp, ACall I P 13 args hp (fun v hp' => K v ∧ hp' = hp) := by
  intro args K h hp
  unfold c_turn at h; split at h
  · rename_i f s r t q
    refine pcall mix gf5 (fn := Try.f13) (by kernel_rfl) (by kernel_rfl) (by kernel_rfl) rfl rfl (fun hr => ?_) hp
    refine (t_turn I (fun v => K v ∧ cl v = true) f s r t q).mpr ?_
    refine bsplit_both (fun hx => ⟨h _ _ _ _ (.inl ⟨?_, rfl, rfl, rfl, rfl⟩), rfl⟩) (fun hx n e m => bsplit_both (fun hy => ⟨h _ _ _ _ (.inr ⟨?_, n, m, .inl ⟨by simpa using hy, rfl, rfl, rfl⟩⟩), rfl⟩) (fun hy => ⟨h _ _ _ _ (.inr ⟨?_, n, ?_, .inr ⟨rfl, rfl, rfl, rfl⟩⟩), rfl⟩))
    · have := mt (mayB_iff (r := q)).2 (by simpa using hx); omega
    · exact mayB_iff.1 (by simpa using hx)
    · exact mayB_iff.1 (by simpa using hx)
    · have : e = 0 := by simpa using hy
      subst this; exact m
  · exact h.elim
theorem k_step : ∀ (args : List AV) (K : AV → Prop), c_step args K → ∀ hp, ACall I P 15 args hp (fun v hp' => K v ∧ hp' = hp) := by
  intro args K h hp
  unfold c_step at h; split at h
  · rename_i f s r t y
    refine pcall mix gf5 (fn := Try.f15) (by kernel_rfl) (by kernel_rfl) (by kernel_rfl) rfl rfl (fun hr => ?_) hp
    refine (t_step I (fun v => K v ∧ cl v = true) f s r t y).mpr ?_
    refine fun n e m => bsplit_both (fun hy => ⟨h _ _ _ _ ⟨n, m, .inl ⟨by simpa using hy, rfl, rfl, rfl⟩⟩, rfl⟩) (fun hy => ⟨h _ _ _ _ ⟨n, ?_, .inr ⟨rfl, rfl, rfl, rfl⟩⟩, rfl⟩)
    have : e = 0 := by simpa using hy
    subst this; exact m
  · exact h.elim
theorem k_grown : ∀ (args : List AV) (K : AV → Prop), c_grown args K → ∀ hp, ACall I P 17 args hp (fun v hp' => K v ∧ hp' = hp) := by
  intro args K h hp
  unfold c_grown at h; split at h
  · rename_i s r
    refine pcall mix gf5 (fn := Try.f17) (by kernel_rfl) (by kernel_rfl) (by kernel_rfl) rfl rfl (fun hr => ?_) hp
    simp only [rgs, rg, Bool.and_eq_true] at hr
    have hs := r_i64 hr.1; have hq := r_i64 hr.2.1
    refine (t_grown I (fun v => K v ∧ cl v = true) s r).mpr ?_
    refine bsplit_both (fun hx => ⟨h _ _ (.inl ⟨.inl (by simpa using hx), rfl, rfl⟩), rfl⟩) (fun hx => ?_)
    refine bsplit_both (fun hy => ⟨h _ _ (.inl ⟨.inr (by simpa using hy), rfl, rfl⟩), rfl⟩) (fun hy => ?_)
    have hx : 0 ≤ s := by simpa using hx
    have hy : 0 ≤ r := by simpa using hy
    have hm := mul_bd hs hq
    have hm0 := Int.mul_nonneg hx hy
    intro h0 l0 m0 h1 l1 r1 e1 m1
    have e0 := m0.2.2
    rw [e0] at m1
    refine bsplit_both (fun hz => ?_) (fun hz => ?_)
    · intro h2 l2 m2 h3 l3 e3 m3 n e m4
      refine ⟨h _ _ (.inr ⟨hx, hy, ?_⟩), rfl⟩
      have : vl h3 l3 = gro s r := by
        unfold gro
        have hz : r1 > 0 := by simpa using hz
        simp only [Nm, AddR, DivR] at *
        generalize s * r = x at *
        omega
      rw [this] at m4; exact m4
    · intro n e m4
      refine ⟨h _ _ (.inr ⟨hx, hy, ?_⟩), rfl⟩
      have : vl h1 l1 = gro s r := by
        unfold gro
        have hz : r1 ≤ 0 := by simpa using hz
        simp only [Nm, DivR] at *
        generalize s * r = x at *
        omega
      rw [this] at m4; exact m4
  · exact h.elim
theorem gf6 : GOk I P (Gm F6) := by
  refine Gm.consP ?_ k_turn
  refine Gm.consP ?_ k_step
  refine Gm.consP ?_ k_grown
  exact gf5
end Go.Tb.W
