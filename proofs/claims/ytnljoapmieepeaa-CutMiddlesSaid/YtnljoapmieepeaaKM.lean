/- Claims: the law of middles. -/
import Derived.Test.YtnljoapmieepeaaKL
set_option linter.all false
set_option maxRecDepth 100000
set_option maxHeartbeats 1000000
namespace Go.Tb.W
open Go Go.Proofs
variable {I : Interp O}
theorem l_mid (a b : Int) (hp : Tr (AO O)) : ACall I P 3 [.int .i64 a, .int .i64 b] hp (fun v hp' => v = .bool true ∧ hp' = hp) := by
  refine pcall mix gB2 (fn := Try.f3) (by kernel_rfl) (by kernel_rfl) (by kernel_rfl) (K := fun v => v = .bool true) rfl rfl (fun hr => ?_) hp
  simp only [rgs, rg, Bool.and_eq_true] at hr
  have ha := r_i64 hr.1
  have hb := r_i64 hr.2.1
  refine (t_lmid I (fun v => v = .bool true ∧ cl v = true) a b).mpr (bsplit_both (fun _ => bsplit_both (fun _ => bsplit_both (fun _ => ⟨?_, rfl⟩) (fun h => absurd h ?_)) (fun h => absurd h ?_)) (fun h => absurd h ?_))
  · rw [mid_eq, mid_eq, Int.add_comm b a, beq_self_eq_true]
  · rw [mid_eq]
    have : (a + b) / 2 ≤ if b > a then b else a := by split <;> omega
    simp only [decide_eq_true this]; decide
  · rw [mid_eq]
    have : (a + b) / 2 ≥ if b < a then b else a := by split <;> omega
    simp only [decide_eq_true this]; decide
  · rw [beq_self_eq_true]; decide
end Go.Tb.W
