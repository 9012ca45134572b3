/- The wide numbers' functions do what their contracts say, part 6: division, and what is fixed. -/
import Derived.Test.YtfdociljddgnhaaW7
set_option linter.all false
set_option maxRecDepth 100000
namespace Go.Tb.W
open Go Go.Proofs
variable {I : Interp O}
theorem ifB_true {b : Bool} (h : b = true) (x y : Int) : ifB b x y = x := by subst h; rfl
theorem ifB_false {b : Bool} (h : b = false) (x y : Int) : ifB b x y = y := by subst h; rfl
/-- Division that goes down, of what is below 0: by the other number, -x - 1. -/
theorem div_neg' (x y : Int) (hy : 0 < y) : x / y = -((-x - 1) / y) - 1 ∧ x % y = y - 1 - (-x - 1) % y := by
  have h1 := Int.emod_add_mul_ediv (-x - 1) y
  have h2 := Int.emod_nonneg (-x - 1) (show y ≠ 0 by omega)
  have h3 := Int.emod_lt_of_pos (-x - 1) hy
  have e : x = (y - 1 - (-x - 1) % y) + y * (-((-x - 1) / y) - 1) := by
    rw [Int.mul_sub, Int.mul_neg, Int.mul_one]; omega
  have hr : 0 ≤ y - 1 - (-x - 1) % y ∧ y - 1 - (-x - 1) % y < y := by omega
  constructor
  · have h := Int.add_mul_ediv_left (y - 1 - (-x - 1) % y) (-((-x - 1) / y) - 1) (show y ≠ 0 by omega)
    rw [← e, Int.ediv_eq_zero_of_lt hr.1 hr.2] at h
    omega
  · have h := Int.add_mul_emod_self_left (y - 1 - (-x - 1) % y) y (-((-x - 1) / y) - 1)
    rw [← e, Int.emod_eq_of_lt hr.1 hr.2] at h
    exact h
theorem k_div : ∀ (args : List AV) (K : AV → Prop), c_div args K → ∀ hp, ACall I P 22 args hp (fun v hp' => K v ∧ hp' = hp) := by
  intro args K h hp
  unfold c_div at h; split at h
  · rename_i a b y
    refine pcall mix g2 (fn := Try.f22) (by kernel_rfl) (by kernel_rfl) (by kernel_rfl) rfl rfl (fun hr => ?_) hp
    refine (t_div I (fun v => K v ∧ cl v = true) a b y).mpr ?_
    simp only [rgs, rg, Bool.and_eq_true] at hr
    obtain ⟨⟨ha, hb, _⟩, hy, _⟩ := hr
    have ha := r_i64 ha; have hb := r_u64 hb; have hy := r_i64 hy
    refine bsplit_both (fun hx => ⟨?_, rfl⟩) (fun hx => ?_)
    · simp only [ifB_true hx] at h; exact h
    · simp only [ifB_false hx] at h
      have hy1 : 1 ≤ y := by simpa using hx
      have hwy : IntKind.u64.wrap y = y := s_u64 (by omega)
      have hyz : y ≠ 0 := by omega
      rw [hwy]
      refine bsplit_both (fun hp => must_mk (by simp; omega) ?_) (fun hn => must_mk (by simp; omega) ?_)
      · have ha0 : 0 ≤ a := by simpa using hp
        have : a % 18446744073709551616 = a := by omega
        rw [this]
        have h1 := Int.emod_nonneg (vl a b) hyz
        have h2 := Int.emod_lt_of_pos (vl a b) (show 0 < y by omega)
        rw [s_i64 (n := vl a b % y) (by omega)]
        exact ⟨h, rfl⟩
      · have ha0 : a < 0 := by simpa using hn
        rw [not_i64 a ha, not_u64 b hb]
        have : (-a - 1) % 18446744073709551616 = -a - 1 := by omega
        rw [this]
        have hvl : vl (-a - 1) (18446744073709551615 - b) = -(vl a b) - 1 := by unfold vl; omega
        rw [hvl]
        obtain ⟨e1, e2⟩ := div_neg' (vl a b) y (by omega)
        have h1 := Int.emod_nonneg (-(vl a b) - 1) hyz
        have h2 := Int.emod_lt_of_pos (-(vl a b) - 1) (show 0 < y by omega)
        rw [s_i64 (n := (-(vl a b) - 1) % y) (by omega), s_i64 (n := y - 1) (by omega), s_i64 (by omega), ← e2]
        have b1 : -9223372036854775808 ≤ hi ((-(vl a b) - 1) / y) ∧ hi ((-(vl a b) - 1) / y) ≤ 9223372036854775807 := by unfold hi; omega
        have b2 : 0 ≤ lo ((-(vl a b) - 1) / y) ∧ lo ((-(vl a b) - 1) / y) ≤ 18446744073709551615 := by unfold lo; omega
        rw [not_i64 _ b1, not_u64 _ b2]
        rw [e1] at h
        generalize (-(vl a b) - 1) / y = q at *
        have e3 : -hi q - 1 = hi (-q - 1) := by unfold hi; omega
        have e4 : 18446744073709551615 - lo q = lo (-q - 1) := by unfold lo; omega
        rw [e3, e4]
        exact ⟨h, rfl⟩
  · exact h.elim
theorem g3 : GOk I P (Gm E3) := by
  refine Gm.consP ?_ k_add
  refine Gm.consP ?_ k_sub
  refine Gm.consP ?_ k_times
  refine Gm.consP ?_ k_div
  exact g2
theorem k_part : ∀ (args : List AV) (K : AV → Prop), c_part args K → ∀ hp, ACall I P 28 args hp (fun v hp' => K v ∧ hp' = hp) := by
  intro args K h hp
  unfold c_part at h; split at h
  · rename_i a b y
    refine pcall mix g3 (fn := Try.f28) (by kernel_rfl) (by kernel_rfl) (by kernel_rfl) rfl rfl (fun hr => ?_) hp
    refine (t_part I (fun v => K v ∧ cl v = true) a b y).mpr ?_
    simp only [rgs, rg, Bool.and_eq_true] at hr
    obtain ⟨ha, hb, hy, _⟩ := hr
    have ha := r_i64 ha; have hb := r_i64 hb; have hy := r_i64 hy
    cases hx : decide (y < 1) with
    | true =>
      rw [hx] at h
      exact ⟨h, rfl⟩
    | false =>
      rw [hx] at h
      have hy1 : 1 ≤ y := by simpa using hx
      -- the product, and its part, fit into 128 bits
      have hab : -85070591730234615865843651857942052864 ≤ a * b ∧ a * b ≤ 85070591730234615865843651857942052864 := by
        have h1 : (a * b).natAbs ≤ 9223372036854775808 * 9223372036854775808 := by rw [Int.natAbs_mul]; exact Nat.mul_le_mul (by omega) (by omega)
        omega
      have v1 : vl (hi (a * b)) (lo (a * b)) = a * b := by unfold vl hi lo; omega
      have hq : -85070591730234615865843651857942052864 ≤ a * b / y ∧ a * b / y ≤ 85070591730234615865843651857942052864 := by
        constructor
        · rw [Int.le_ediv_iff_mul_le (by omega)]
          have := Int.mul_le_mul_of_nonpos_left (show (-85070591730234615865843651857942052864 : Int) ≤ 0 by decide) hy1
          omega
        · rcases Int.le_total 0 (a * b) with h0 | h0
          · exact Int.le_trans (Int.ediv_le_self y h0) hab.2
          · have := Int.ediv_le_ediv (show 0 < y by omega) h0; rw [Int.zero_ediv] at this; omega
      have v2 : vl (hi (a * b / y)) (lo (a * b / y)) = a * b / y := by unfold vl hi lo; omega
      rw [v1]
      simp only [ifB_false rfl] at h ⊢
      rw [v2]
      exact ⟨h, rfl⟩
  · exact h.elim
theorem g4 : GOk I P (Gm E4) := by
  refine Gm.consP ?_ k_part
  exact g3
end Go.Tb.W
