/- The clocks' functions do what their contracts say. -/
import Derived.Test.YtfdociljddgnhaaU2
import Derived.Test.YtfdociljddgnhaaD2
set_option linter.all false
set_option maxRecDepth 100000
namespace Go.Tb.W
open Go Go.Proofs
variable {I : Interp O}
theorem gf3 : GOk I P (Gm F3) := by
  exact gu
theorem mayB_iff {r : Int} : mayB r = true ↔ -100000000 ≤ r ∧ r ≤ 100000000 := by simp [mayB]
theorem gf4 : GOk I P (Gm F4) := by
  exact gf3
theorem gf5 : GOk I P (Gm F5) := by
  exact gf4
theorem k_grown : ∀ (args : List AV) (K : AV → Prop), c_grown args K → ∀ hp, ACall I P 12 args hp (fun v hp' => K v ∧ hp' = hp) := by
  intro args K h hp
  unfold c_grown at h; split at h
  · rename_i s r
    refine pcall mix gf5 (fn := Try.f12) (by kernel_rfl) (by kernel_rfl) (by kernel_rfl) rfl rfl (fun hr => ?_) hp
    simp only [rgs, rg, Bool.and_eq_true] at hr
    have hs := r_i64 hr.1; have hq := r_i64 hr.2.1
    refine (t_grown I (fun v => K v ∧ cl v = true) s r).mpr ?_
    refine bsplit_both (fun hx => ⟨h _ _ (.inl ⟨.inl (by simpa using hx), rfl, rfl⟩), rfl⟩) (fun hx => ?_)
    refine bsplit_both (fun hy => ⟨h _ _ (.inl ⟨.inr (by simpa using hy), rfl, rfl⟩), rfl⟩) (fun hy => ?_)
    have hx : 0 ≤ s := by simpa using hx
    have hy : 0 ≤ r := by simpa using hy
    have hm := mul_bd hs hq
    have hm0 := Int.mul_nonneg hx hy
    intro h0 l0 m0 h1 l1 r1 e1 m1
    have e0 := m0.2.2
    rw [e0] at m1
    refine bsplit_both (fun hz => ?_) (fun hz => ?_)
    · intro h2 l2 m2 h3 l3 e3 m3 n e m4
      refine ⟨h _ _ (.inr ⟨hx, hy, ?_⟩), rfl⟩
      have : vl h3 l3 = gro s r := by
        unfold gro
        have hz : r1 > 0 := by simpa using hz
        simp only [Nm, AddR, DivR] at *
        generalize s * r = x at *
        omega
      rw [this] at m4; exact m4
    · intro n e m4
      refine ⟨h _ _ (.inr ⟨hx, hy, ?_⟩), rfl⟩
      have : vl h1 l1 = gro s r := by
        unfold gro
        have hz : r1 ≤ 0 := by simpa using hz
        simp only [Nm, DivR] at *
        generalize s * r = x at *
        omega
      rw [this] at m4; exact m4
  · exact h.elim
theorem gf6 : GOk I P (Gm F6) := by
  refine Gm.consP ?_ k_grown
  exact gf5
end Go.Tb.W
