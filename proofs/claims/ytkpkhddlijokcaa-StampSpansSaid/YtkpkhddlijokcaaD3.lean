/- The clocks' functions do what their contracts say. -/
import Derived.Test.YtkpkhddlijokcaaU2
import Derived.Test.YtkpkhddlijokcaaD2
set_option linter.all false
set_option maxRecDepth 100000
namespace Go.Tb.W
open Go Go.Proofs
variable {I : Interp O}
theorem k_since : ∀ (args : List AV) (K : AV → Prop), c_since args K → ∀ hp, ACall I P 17 args hp (fun v hp' => K v ∧ hp' = hp) := by
  intro args K h hp
  unfold c_since at h; split at h
  · rename_i a b c d
    refine pcall mix gu (fn := Try.f17) (by kernel_rfl) (by kernel_rfl) (by kernel_rfl) rfl rfl (fun hr => ?_) hp
    refine (t_since I (fun v => K v ∧ cl v = true) a b c d).mpr ?_
    intro h0 l0 e0 m0
    refine bsplit_both (fun hx => ⟨h _ _ ?_, rfl⟩) (fun hx => ?_)
    · have : e0 ≠ 0 := by simpa using hx
      simp only [Nm, AddR, I64R, true_and] at *
      omega
    · have : e0 = 0 := by simpa using hx
      intro n e m1
      refine ⟨h _ _ ?_, rfl⟩
      simp only [Nm, AddR, I64R, true_and] at *
      omega
  · exact h.elim
theorem gf3 : GOk I P (Gm F3) := by
  refine Gm.consP ?_ k_since
  exact gu
theorem mayB_iff {r : Int} : mayB r = true ↔ -100000000 ≤ r ∧ r ≤ 100000000 := by simp [mayB]
theorem gf4 : GOk I P (Gm F4) := by
  exact gf3
theorem gf5 : GOk I P (Gm F5) := by
  exact gf4
theorem gf6 : GOk I P (Gm F6) := by
  exact gf5
end Go.Tb.W
