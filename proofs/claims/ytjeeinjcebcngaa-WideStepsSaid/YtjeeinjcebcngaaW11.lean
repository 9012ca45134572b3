/- The laws of wide numbers: each is told true, part 3. -/
import Derived.Test.YtjeeinjcebcngaaW10
set_option linter.all false
namespace Go.Tb.W
open Go Go.Proofs
variable {I : Interp O}
theorem l_steps (a b c d : Int) (hp : Tr (AO O)) : ACall I P 10 [.agg [.int .i64 a, .int .u64 b], .int .u32 c, .int .u32 d] hp (fun v hp' => v = .bool true ∧ hp' = hp) := by
  refine pcall mix g5 (fn := Try.f10) (by kernel_rfl) (by kernel_rfl) (by kernel_rfl) rfl rfl (fun hr => ?_) hp
  simp only [rgs, rg, Bool.and_eq_true] at hr
  obtain ⟨⟨ha, hb, _⟩, hc, hd, _⟩ := hr
  have ha := r_i64 ha; have hb := r_u64 hb; have hc := r_u32 hc; have hd := r_u32 hd
  refine (t_steps I Tru a b c d).mpr ?_
  have ex : IntKind.i64.wrap (IntKind.i64.wrap (c.tmod 2147483648) + 1) = c % 2147483648 + 1 := by
    rw [Int.tmod_eq_emod_of_nonneg hc.1, s_i64 (n := c % 2147483648) (by omega), s_i64 (by omega)]
  have ey : IntKind.i64.wrap (IntKind.i64.wrap (d.tmod 2147483648) + 1) = d % 2147483648 + 1 := by
    rw [Int.tmod_eq_emod_of_nonneg hd.1, s_i64 (n := d % 2147483648) (by omega), s_i64 (by omega)]
  rw [ex, ey]
  have hx : 1 ≤ c % 2147483648 + 1 ∧ c % 2147483648 + 1 ≤ 2147483648 := by omega
  have hy : 1 ≤ d % 2147483648 + 1 ∧ d % 2147483648 + 1 ≤ 2147483648 := by omega
  generalize c % 2147483648 + 1 = x at *
  generalize d % 2147483648 + 1 = y at *
  have hxy : 1 * 1 ≤ x * y := Int.mul_le_mul hx.1 hy.1 (by omega) (by omega)
  have hxy' : x * y ≤ 2147483648 * 2147483648 := Int.mul_le_mul hx.2 hy.2 (by omega) (by omega)
  rw [s_i64 (n := x * y) (by omega)]
  have f1 : decide (x < 1) = false := by simp; omega
  have f2 : decide (y < 1) = false := by simp; omega
  have f3 : decide (x * y < 1) = false := by simp; omega
  simp only [ifB_false f1, ifB_false f2, ifB_false f3]
  have hq : -170141183460469231731687303715884105728 ≤ vl a b / x ∧ vl a b / x < 170141183460469231731687303715884105728 := by
    have hvl : -170141183460469231731687303715884105728 ≤ vl a b ∧ vl a b < 170141183460469231731687303715884105728 := by unfold vl; omega
    constructor
    · rw [Int.le_ediv_iff_mul_le (by omega)]
      have := Int.mul_le_mul_of_nonpos_left (show (-170141183460469231731687303715884105728 : Int) ≤ 0 by decide) hx.1
      omega
    · rcases Int.le_total 0 (vl a b) with h0 | h0
      · exact Int.lt_of_le_of_lt (Int.ediv_le_self x h0) hvl.2
      · have := Int.ediv_le_ediv (show 0 < x by omega) h0; rw [Int.zero_ediv] at this; omega
  rw [vl_hl hq, Int.ediv_ediv_of_nonneg (by omega)]
  refine bsplit_both (fun _ => ?_) (fun hx => absurd hx (by simp))
  refine bsplit_both (fun _ => ?_) (fun hx => absurd hx (by simp))
  exact bsplit_both (fun _ => tru (by simp)) (fun hx => absurd hx (by simp))
end Go.Tb.W
