/- The wide numbers' functions do what their contracts say, part 5: products, division, and what is fixed. -/
import Derived.Test.YtfdociljddgnhaaW6
set_option linter.all false
set_option maxRecDepth 100000
namespace Go.Tb.W
open Go Go.Proofs
variable {I : Interp O}
def q32 (x : Int) : Int := x.fdiv (2 ^ min (Int.toNat 32) IntKind.u64.bits)
def m32 (x : Int) : Int := bits BinOp.and IntKind.u64 x 4294967295
def tLow (x y : Int) : Int := IntKind.u64.wrap (m32 x * m32 y)
def tMid (x y : Int) : Int := IntKind.u64.wrap (IntKind.u64.wrap (q32 x * m32 y) + q32 (tLow x y))
def tMore (x y : Int) : Int := IntKind.u64.wrap (IntKind.u64.wrap (m32 x * q32 y) + m32 (tMid x y))
def tHigh (x y : Int) : Int := IntKind.i64.wrap (IntKind.u64.wrap (IntKind.u64.wrap (IntKind.u64.wrap (q32 x * q32 y) + q32 (tMid x y)) + q32 (tMore x y)))
def tL (x y : Int) : Int := bits BinOp.or IntKind.u64 (IntKind.u64.wrap (tMore x y * 2 ^ min (Int.toNat 32) IntKind.u64.bits)) (m32 (tLow x y))
theorem q32_eq (x : Int) : q32 x = x / 4294967296 := shr_eq (b := 4294967296) x 32 _ (by decide) (by decide)
theorem school (x y : Int) (hx : 0 ≤ x ∧ x ≤ 9223372036854775808) (hy : 0 ≤ y ∧ y ≤ 9223372036854775808) : tHigh x y = x * y / 18446744073709551616 ∧ tL x y = x * y % 18446744073709551616 := by
  have mx : m32 x = x % 4294967296 := and_half x (by omega)
  have my : m32 y = y % 4294967296 := and_half y (by omega)
  have hx1 : 0 ≤ x / 4294967296 ∧ x / 4294967296 ≤ 2147483648 := by omega
  have hy1 : 0 ≤ y / 4294967296 ∧ y / 4294967296 ≤ 2147483648 := by omega
  have hx0 : 0 ≤ x % 4294967296 ∧ x % 4294967296 ≤ 4294967295 := by omega
  have hy0 : 0 ≤ y % 4294967296 ∧ y % 4294967296 ≤ 4294967295 := by omega
  have bound : ∀ {u v p q : Int}, 0 ≤ u ∧ u ≤ p → 0 ≤ v ∧ v ≤ q → 0 ≤ u * v ∧ u * v ≤ p * q := fun {u v p q} hu hv =>
    ⟨Int.mul_nonneg hu.1 hv.1, Int.mul_le_mul hu.2 hv.2 hv.1 (Int.le_trans hu.1 hu.2)⟩
  have p00 := bound hx0 hy0
  have p10 := bound hx1 hy0
  have p01 := bound hx0 hy1
  have p11 := bound hx1 hy1
  have hxy : x * y = (x / 4294967296) * (y / 4294967296) * 18446744073709551616 + ((x / 4294967296) * (y % 4294967296) + (x % 4294967296) * (y / 4294967296)) * 4294967296 + (x % 4294967296) * (y % 4294967296) := by
    have ex : x = (x / 4294967296) * 4294967296 + x % 4294967296 := by omega
    have ey : y = (y / 4294967296) * 4294967296 + y % 4294967296 := by omega
    generalize x / 4294967296 = a at *
    generalize x % 4294967296 = b at *
    generalize y / 4294967296 = c at *
    generalize y % 4294967296 = d at *
    subst ex; subst ey
    rw [Int.add_mul, Int.mul_add, Int.mul_add, Int.mul_assoc a, Int.mul_comm 4294967296 (c * _), Int.mul_assoc c, ← Int.mul_assoc a, Int.mul_assoc a 4294967296 d, Int.mul_comm 4294967296 d, ← Int.mul_assoc a d, ← Int.mul_assoc b c]
    omega
  have hlow : tLow x y = (x % 4294967296) * (y % 4294967296) := by unfold tLow; rw [mx, my]; exact s_u64 (by omega)
  have hmid : tMid x y = (x / 4294967296) * (y % 4294967296) + (x % 4294967296) * (y % 4294967296) / 4294967296 := by
    unfold tMid; rw [hlow, q32_eq, q32_eq, my, s_u64 (n := x / 4294967296 * (y % 4294967296)) (by omega)]; exact s_u64 (by omega)
  have hmore : tMore x y = (x % 4294967296) * (y / 4294967296) + tMid x y % 4294967296 := by
    unfold tMore
    have : m32 (tMid x y) = tMid x y % 4294967296 := and_half _ (by rw [hmid]; omega)
    rw [this, q32_eq, mx, s_u64 (n := x % 4294967296 * (y / 4294967296)) (by omega)]; exact s_u64 (by omega)
  have hbl : tL x y = tMore x y % 4294967296 * 4294967296 + (x % 4294967296) * (y % 4294967296) % 4294967296 := by
    unfold tL
    have e1 : m32 (tLow x y) = (x % 4294967296) * (y % 4294967296) % 4294967296 := by rw [hlow]; exact and_half _ (by omega)
    have e2 : IntKind.u64.wrap (tMore x y * 2 ^ min (Int.toNat 32) IntKind.u64.bits) = tMore x y % 4294967296 * 4294967296 := by
      rw [show (2 : Int) ^ min (Int.toNat 32) IntKind.u64.bits = 4294967296 by decide, w_u64]; omega
    rw [e1, e2, or_add 32 _ _ (by omega) (by omega) (by omega) (by omega)]
  have hhigh : tHigh x y = (x / 4294967296) * (y / 4294967296) + tMid x y / 4294967296 + tMore x y / 4294967296 := by
    unfold tHigh
    rw [q32_eq, q32_eq, q32_eq, q32_eq, s_u64 (n := x / 4294967296 * (y / 4294967296)) (by omega), s_u64 (n := _ + tMid x y / 4294967296) (by omega), s_u64 (by omega)]
    exact s_i64 (by omega)
  rw [hhigh, hbl, hmore, hmid, hxy]
  generalize (x / 4294967296) * (y / 4294967296) = A at *
  generalize (x / 4294967296) * (y % 4294967296) = B at *
  generalize (x % 4294967296) * (y / 4294967296) = C at *
  generalize (x % 4294967296) * (y % 4294967296) = D at *
  constructor <;> omega
theorem k_times : ∀ (args : List AV) (K : AV → Prop), c_times args K → ∀ hp, ACall I P 23 args hp (fun v hp' => K v ∧ hp' = hp) := by
  intro args K h hp
  unfold c_times at h; split at h
  · rename_i a b
    refine pcall mix g2 (fn := Try.f23) (by kernel_rfl) (by kernel_rfl) (by kernel_rfl) rfl rfl (fun hr => ?_) hp
    refine (t_times I (fun v => K v ∧ cl v = true) a b).mpr ?_
    simp only [rgs, rg, Bool.and_eq_true] at hr
    obtain ⟨ha, hb, _⟩ := hr
    have ha := r_i64 ha; have hb := r_i64 hb
    have aa : (a < 0 ∧ absI a = -a) ∨ (0 ≤ a ∧ absI a = a) := by
      rcases Int.lt_or_le a 0 with h | h
      · exact .inl ⟨h, by simp [absI, h, ifB]⟩
      · exact .inr ⟨h, by simp [absI, Int.not_lt.2 h, ifB]⟩
    have bb : (b < 0 ∧ absI b = -b) ∨ (0 ≤ b ∧ absI b = b) := by
      rcases Int.lt_or_le b 0 with h | h
      · exact .inl ⟨h, by simp [absI, h, ifB]⟩
      · exact .inr ⟨h, by simp [absI, Int.not_lt.2 h, ifB]⟩
    have hs := school (absI a) (absI b) (by omega) (by omega)
    have hp : 0 ≤ absI a * absI b := Int.mul_nonneg (by omega) (by omega)
    have hpu : absI a * absI b ≤ 9223372036854775808 * 9223372036854775808 := Int.mul_le_mul (by omega) (by omega) (by omega) (by omega)
    show bsplit (!decide (a < 0) == decide (b < 0)) fun
      | true => (K (.agg [.int .i64 (hi (-vl (tHigh (absI a) (absI b)) (tL (absI a) (absI b)))), .int .u64 (lo (-vl (tHigh (absI a) (absI b)) (tL (absI a) (absI b))))]) ∧ cl (.agg [.int .i64 (hi (-vl (tHigh (absI a) (absI b)) (tL (absI a) (absI b)))), .int .u64 (lo (-vl (tHigh (absI a) (absI b)) (tL (absI a) (absI b))))]) = true)
      | false => (K (.agg [.int .i64 (tHigh (absI a) (absI b)), .int .u64 (tL (absI a) (absI b))]) ∧ cl (.agg [.int .i64 (tHigh (absI a) (absI b)), .int .u64 (tL (absI a) (absI b))]) = true)
    rw [hs.1, hs.2]
    refine bsplit_both (fun hx => ⟨?_, rfl⟩) (fun hx => ⟨?_, rfl⟩)
    · have e : -(vl (absI a * absI b / 18446744073709551616) (absI a * absI b % 18446744073709551616)) = a * b := by
        have : vl (absI a * absI b / 18446744073709551616) (absI a * absI b % 18446744073709551616) = absI a * absI b := by unfold vl; omega
        rw [this]
        rcases aa with ⟨h1, e1⟩ | ⟨h1, e1⟩ <;> rcases bb with ⟨h2, e2⟩ | ⟨h2, e2⟩ <;> rw [e1, e2]
        · simp [h1, h2] at hx
        · rw [Int.neg_mul, Int.neg_neg]
        · rw [Int.mul_neg, Int.neg_neg]
        · simp [Int.not_lt.2 h1, Int.not_lt.2 h2] at hx
      rw [e]; exact h
    · have e : absI a * absI b = a * b := by
        rcases aa with ⟨h1, e1⟩ | ⟨h1, e1⟩ <;> rcases bb with ⟨h2, e2⟩ | ⟨h2, e2⟩ <;> rw [e1, e2]
        · rw [Int.neg_mul_neg]
        · simp [h1, Int.not_lt.2 h2] at hx
        · simp [Int.not_lt.2 h1, h2] at hx
      rw [wd_eq (x := a * b)]
      · exact h
      · rw [e] at hp hpu ⊢; unfold hi; omega
      · rw [e]; rfl
  · exact h.elim
end Go.Tb.W
