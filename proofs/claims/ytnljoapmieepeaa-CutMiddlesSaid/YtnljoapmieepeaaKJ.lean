/- Middles: what bits come to. -/
import Derived.Test.YtnljoapmieepeaaKC
set_option linter.all false
namespace Go.Tb.W
open Go Go.Proofs
theorem add_and_xor : ∀ (n x y : Nat), x < 2 ^ n → y < 2 ^ n → x + y = 2 * (x &&& y) + (x ^^^ y)
  | 0, x, y, hx, hy => by
    obtain rfl : x = 0 := by simpa using hx
    obtain rfl : y = 0 := by simpa using hy
    rfl
  | n + 1, x, y, hx, hy => by
    have ih := add_and_xor n (x / 2) (y / 2) (by omega) (by omega)
    have a1 : (x &&& y) / 2 = x / 2 &&& y / 2 := Nat.and_div_two
    have a2 : (x ^^^ y) / 2 = x / 2 ^^^ y / 2 := Nat.xor_div_two
    have a3 : (x &&& y) % 2 = 1 ↔ x % 2 = 1 ∧ y % 2 = 1 := Nat.and_mod_two_eq_one
    have a4 : (x ^^^ y) % 2 = (x + y) % 2 := by
      have h := @Nat.xor_mod_two_eq_one x y
      by_cases h3 : (x ^^^ y) % 2 = 1
      · have h4 := h.1 h3
        by_cases h1 : x % 2 = 1 <;> by_cases h2 : y % 2 = 1
        · exact absurd ⟨fun _ => h2, fun _ => h1⟩ h4
        · omega
        · omega
        · exact absurd ⟨fun e => absurd e h1, fun e => absurd e h2⟩ h4
      · have h4 : (x % 2 = 1 ↔ y % 2 = 1) := Classical.not_not.1 (fun e => h3 (h.2 e))
        by_cases h1 : x % 2 = 1
        · have := h4.1 h1; omega
        · have h2 : ¬ y % 2 = 1 := fun e => h1 (h4.2 e)
          omega
    rw [← a1, ← a2] at ih
    by_cases h1 : x % 2 = 1 <;> by_cases h2 : y % 2 = 1
    · have := a3.2 ⟨h1, h2⟩; omega
    · have : ¬ (x &&& y) % 2 = 1 := fun e => h2 (a3.1 e).2
      omega
    · have : ¬ (x &&& y) % 2 = 1 := fun e => h1 (a3.1 e).1
      omega
    · have : ¬ (x &&& y) % 2 = 1 := fun e => h1 (a3.1 e).1
      omega
theorem tn (n : Int) : ((BitVec.ofInt 64 n).toNat : Int) = n % 18446744073709551616 := by
  rw [BitVec.toNat_ofInt]
  have : (0 : Int) ≤ n % 18446744073709551616 := Int.emod_nonneg _ (by decide)
  show (((n % (2 ^ 64 : Nat)).toNat : Nat) : Int) = _
  rw [show ((2 ^ 64 : Nat) : Int) = 18446744073709551616 from rfl, Int.toNat_of_nonneg this]
theorem and_xor {a b : Int} (ha : -9223372036854775808 ≤ a ∧ a ≤ 9223372036854775807) (hb : -9223372036854775808 ≤ b ∧ b ≤ 9223372036854775807) :
    a + b = 2 * bits .and .i64 a b + bits .xor .i64 a b ∧ (-9223372036854775808 ≤ bits .and .i64 a b ∧ bits .and .i64 a b ≤ 9223372036854775807) ∧ (-9223372036854775808 ≤ bits .xor .i64 a b ∧ bits .xor .i64 a b ≤ 9223372036854775807) := by
  have e1 : bits .and .i64 a b = IntKind.i64.wrap ((((BitVec.ofInt 64 a).toNat &&& (BitVec.ofInt 64 b).toNat : Nat)) : Int) := rfl
  have e2 : bits .xor .i64 a b = IntKind.i64.wrap ((((BitVec.ofInt 64 a).toNat ^^^ (BitVec.ofInt 64 b).toNat : Nat)) : Int) := rfl
  rw [e1, e2, w_i64, w_i64]
  have ta := tn a
  have tb := tn b
  have la : (BitVec.ofInt 64 a).toNat < 2 ^ 64 := (BitVec.ofInt 64 a).isLt
  have lb : (BitVec.ofInt 64 b).toNat < 2 ^ 64 := (BitVec.ofInt 64 b).isLt
  generalize (BitVec.ofInt 64 a).toNat = x at ta la
  generalize (BitVec.ofInt 64 b).toNat = y at tb lb
  have h := add_and_xor 64 x y la lb
  have l1 : (x &&& y) < 2 ^ 64 := Nat.and_lt_two_pow x lb
  have l2 : (x ^^^ y) < 2 ^ 64 := Nat.xor_lt_two_pow la lb
  have s1 : (x &&& y) >>> 63 = x >>> 63 &&& y >>> 63 := Nat.shiftRight_and_distrib
  have s2 : (x ^^^ y) >>> 63 = x >>> 63 ^^^ y >>> 63 := Nat.shiftRight_xor_distrib
  simp only [Nat.shiftRight_eq_div_pow] at s1 s2
  have hx : x / 2 ^ 63 = 0 ∨ x / 2 ^ 63 = 1 := by omega
  have hy : y / 2 ^ 63 = 0 ∨ y / 2 ^ 63 = 1 := by omega
  generalize (x &&& y) = p at *
  generalize (x ^^^ y) = q at *
  rcases hx with hx | hx <;> rcases hy with hy | hy <;> rw [hx, hy] at s1 s2 <;> simp at s1 s2 <;> refine ⟨?_, by omega, by omega⟩ <;> omega
theorem and_one_i {a : Int} (ha : -9223372036854775808 ≤ a ∧ a ≤ 9223372036854775807) : bits .and .i64 a 1 = a % 2 := by
  have e1 : bits .and .i64 a 1 = IntKind.i64.wrap ((((BitVec.ofInt 64 a).toNat &&& 1 : Nat)) : Int) := rfl
  rw [e1, Nat.and_one_is_mod, w_i64]
  have ta := tn a
  generalize (BitVec.ofInt 64 a).toNat = x at ta
  omega
theorem half (a : Int) : a.fdiv (2 ^ min (Int.toNat 1) IntKind.i64.bits) = a / 2 := by
  rw [show ((2 : Int) ^ min (Int.toNat 1) IntKind.i64.bits) = 2 from by decide, Int.fdiv_eq_ediv_of_nonneg _ (by decide)]
theorem mid_eq (a b : Int) : midI a b = (a + b) / 2 := by unfold midI; rw [Int.fdiv_eq_ediv_of_nonneg _ (by decide)]
theorem mid_own {a b : Int} (ha : -9223372036854775808 ≤ a ∧ a ≤ 9223372036854775807) (hb : -9223372036854775808 ≤ b ∧ b ≤ 9223372036854775807) :
    IntKind.i64.wrap (bits BinOp.and IntKind.i64 a b + (bits BinOp.xor IntKind.i64 a b).fdiv (2 ^ min (Int.toNat 1) IntKind.i64.bits)) = midI a b := by
  obtain ⟨h1, h2, h3⟩ := and_xor ha hb
  rw [half, mid_eq, w_i64]
  omega
theorem mid_ref {a b : Int} (ha : -9223372036854775808 ≤ a ∧ a ≤ 9223372036854775807) (hb : -9223372036854775808 ≤ b ∧ b ≤ 9223372036854775807) :
    IntKind.i64.wrap (IntKind.i64.wrap (a.fdiv (2 ^ min (Int.toNat 1) IntKind.i64.bits) + b.fdiv (2 ^ min (Int.toNat 1) IntKind.i64.bits)) + IntKind.i64.wrap ((IntKind.i64.wrap (bits BinOp.and IntKind.i64 a 1 + bits BinOp.and IntKind.i64 b 1)).tdiv 2)) = midI a b := by
  rw [half, half, and_one_i ha, and_one_i hb, mid_eq, w_i64 (a % 2 + b % 2)]
  have : (a % 2 + b % 2 + 9223372036854775808) % 18446744073709551616 - 9223372036854775808 = a % 2 + b % 2 := by omega
  rw [this, Int.tdiv_eq_ediv_of_nonneg (by omega), w_i64, w_i64, w_i64]
  omega
end Go.Tb.W
