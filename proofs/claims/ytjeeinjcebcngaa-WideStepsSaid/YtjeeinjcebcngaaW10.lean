/- The laws of wide numbers: each is told true, part 2. -/
import Derived.Test.YtjeeinjcebcngaaW9
set_option linter.all false
namespace Go.Tb.W
open Go Go.Proofs
variable {I : Interp O}
theorem l_turned (a b c d : Int) (hp : Tr (AO O)) : ACall I P 6 [.agg [.int .i64 a, .int .u64 b], .agg [.int .i64 c, .int .u64 d]] hp (fun v hp' => v = .bool true ∧ hp' = hp) := by
  refine pcall mix g5 (fn := Try.f6) (by kernel_rfl) (by kernel_rfl) (by kernel_rfl) rfl rfl (fun hr => ?_) hp
  simp only [rgs, rg, Bool.and_eq_true] at hr
  obtain ⟨⟨ha, hb, _⟩, ⟨hc, hd, _⟩, _⟩ := hr
  have ha := r_i64 ha; have hb := r_u64 hb; have hc := r_i64 hc; have hd := r_u64 hd
  refine (t_turned I Tru a b c d).mpr ?_
  rw [Int.add_comm (vl c d) (vl a b)]
  refine bsplit_both (fun hx => absurd hx (by simp)) (fun _ => bsplit_both (fun hx => absurd hx (by simp)) (fun _ => ?_))
  cases hf : fit (vl a b + vl c d) with
  | true =>
    refine bsplit_both (fun _ => ?_) (fun hx => absurd hx (by simp [ifB]))
    have hf := fit_iff.1 hf
    simp only [ifB_true rfl]
    have e : vl (hi (vl a b + vl c d)) (lo (vl a b + vl c d)) - vl c d = vl a b := by rw [vl_hl hf]; omega
    have hf2 : fit (vl a b) = true := fit_iff.2 (by unfold vl; omega)
    have e1 : hi (vl a b) = a := by unfold hi vl; omega
    have e2 : lo (vl a b) = b := by unfold lo vl; omega
    rw [e, hf2]
    simp only [ifB_true rfl]
    rw [e1, e2]
    exact bsplit_both (fun _ => tru (by simp)) (fun hx => absurd hx (by simp))
  | false =>
    refine bsplit_both (fun hx => absurd hx (by simp [ifB])) (fun _ => tru ?_)
    have hf : ¬ (fit (vl a b + vl c d) = true) := by rw [hf]; simp
    rw [fit_iff] at hf
    unfold vl at hf
    rcases Int.lt_or_le a 0 with h | h <;> rcases Int.lt_or_le c 0 with h' | h' <;> simp [h, h', Int.not_lt.2 h, Int.not_lt.2 h'] <;> omega
theorem l_back (a y c d : Int) (hp : Tr (AO O)) : ACall I P 7 [.int .i64 a, .int .i64 y, .agg [.int .i64 c, .int .u64 d]] hp (fun v hp' => v = .bool true ∧ hp' = hp) := by
  refine pcall mix g5 (fn := Try.f7) (by kernel_rfl) (by kernel_rfl) (by kernel_rfl) rfl rfl (fun hr => ?_) hp
  simp only [rgs, rg, Bool.and_eq_true] at hr
  obtain ⟨ha, hy, ⟨hc, hd, _⟩, _⟩ := hr
  have ha := r_i64 ha; have hy := r_i64 hy; have hc := r_i64 hc; have hd := r_u64 hd
  refine (t_back I Tru a y c d).mpr ?_
  refine bsplit_both (fun _ => tru rfl) (fun hx => ?_)
  simp only [ifB_false hx]
  have hy1 : 1 ≤ y := by simpa using hx
  rw [vl_64 ha]
  have hq : -9223372036854775808 ≤ a / y ∧ a / y ≤ 9223372036854775807 := by
    constructor
    · rw [Int.le_ediv_iff_mul_le (by omega)]
      have := Int.mul_le_mul_of_nonpos_left (show (-9223372036854775808 : Int) ≤ 0 by decide) hy1
      omega
    · rcases Int.le_total 0 a with h0 | h0
      · exact Int.le_trans (Int.ediv_le_self y h0) ha.2
      · have := Int.ediv_le_ediv (show 0 < y by omega) h0; rw [Int.zero_ediv] at this; omega
  have hm0 := Int.emod_nonneg a (show y ≠ 0 by omega)
  have hm1 := Int.emod_lt_of_pos a (show 0 < y by omega)
  rw [vl_64 hq, fit64_iff.2 (show -9223372036854775808 ≤ a / y ∧ a / y < 9223372036854775808 by omega)]
  simp only [ifB_true rfl]
  have hprod := mul_bound hq hy
  rw [vl_hl (x := a / y * y) (by omega), vl_64 (x := a % y) (by omega)]
  have hsum : a / y * y + a % y = a := by have := Int.emod_add_mul_ediv a y; rw [Int.mul_comm] at this; omega
  rw [hsum, fit_iff.2 (show _ ∧ _ by omega)]
  simp only [ifB_true rfl]
  refine bsplit_both (fun hx => absurd hx (by simp)) (fun _ => bsplit_both (fun hx => absurd hx (by simp)) (fun _ => bsplit_both (fun hx => ?_) (fun _ => bsplit_both (fun hx => ?_) (fun _ => bsplit_both (fun _ => ?_) (fun hx => absurd hx (by simp))))))
  · have : a % y < 0 := by simpa using hx
    omega
  · have : a % y ≥ y := by simpa using hx
    omega
  refine bsplit_both (fun _ => ?_) (fun hx => absurd hx (by simp))
  refine bsplit_both (fun _ => ?_) (fun hx => absurd hx (by simp))
  have hv0 := Int.emod_nonneg (vl c d) (show y ≠ 0 by omega)
  have hv1 := Int.emod_lt_of_pos (vl c d) (show 0 < y by omega)
  refine bsplit_both (fun _ => ?_) (fun hx => absurd hx (by simp; omega))
  refine bsplit_both (fun _ => tru ?_) (fun hx => absurd hx (by simp; omega))
  have hvl : -170141183460469231731687303715884105728 ≤ vl c d ∧ vl c d < 170141183460469231731687303715884105728 := by unfold vl; omega
  have hvq : -170141183460469231731687303715884105728 ≤ vl c d / y ∧ vl c d / y < 170141183460469231731687303715884105728 := by
    constructor
    · rw [Int.le_ediv_iff_mul_le (by omega)]
      have := Int.mul_le_mul_of_nonpos_left (show (-170141183460469231731687303715884105728 : Int) ≤ 0 by decide) hy1
      omega
    · rcases Int.le_total 0 (vl c d) with h0 | h0
      · exact Int.lt_of_le_of_lt (Int.ediv_le_self y h0) hvl.2
      · have := Int.ediv_le_ediv (show 0 < y by omega) h0; rw [Int.zero_ediv] at this; omega
  rw [vl_hl hvq, vl_64 (x := 0) (by decide)]
  have hsign : vl c d / y < 0 ↔ c < 0 := by
    rw [Int.ediv_lt_iff_lt_mul (by omega), Int.zero_mul]
    unfold vl; omega
  rcases sgn3 (vl c d / y) 0 with ⟨h1, e1⟩ | ⟨h1, e1⟩ | ⟨h1, e1⟩ <;> rw [e1]
  · have := hsign.1 h1; simp [this]
  · have : ¬ c < 0 := fun h => by have := hsign.2 h; omega
    simp [this]
  · have : ¬ c < 0 := fun h => by have := hsign.2 h; omega
    simp [this]
end Go.Tb.W
