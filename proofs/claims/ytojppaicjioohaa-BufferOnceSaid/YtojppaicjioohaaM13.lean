/- Numbers of so many bits: wrapped, shifted, masked. -/
import Derived.Laws.BitsAllLaws
import Derived.Test.YtojppaicjioohaaM12
set_option linter.all false
namespace Go.Tb
open Go
theorem w_i64 (n : Int) : IntKind.i64.wrap n = (n + 9223372036854775808) % 18446744073709551616 - 9223372036854775808 := by
  simp only [IntKind.wrap, IntKind.bits, IntKind.signed]; simp; split <;> omega
theorem w_u64 (n : Int) : IntKind.u64.wrap n = n % 18446744073709551616 := by
  simp only [IntKind.wrap, IntKind.bits, IntKind.signed]; simp
theorem w_u32 (n : Int) : IntKind.u32.wrap n = n % 4294967296 := by
  simp only [IntKind.wrap, IntKind.bits, IntKind.signed]; simp
theorem w_u16 (n : Int) : IntKind.u16.wrap n = n % 65536 := by
  simp only [IntKind.wrap, IntKind.bits, IntKind.signed]; simp
theorem w_u8 (n : Int) : IntKind.u8.wrap n = n % 256 := by
  simp only [IntKind.wrap, IntKind.bits, IntKind.signed]; simp
theorem w_i32 (n : Int) : IntKind.i32.wrap n = (n + 2147483648) % 4294967296 - 2147483648 := by
  simp only [IntKind.wrap, IntKind.bits, IntKind.signed]; simp; split <;> omega
theorem r_i64 {n : Int} (h : inK .i64 n = true) : -9223372036854775808 ≤ n ∧ n ≤ 9223372036854775807 := by simpa [inK_iff, loK, hiK] using h
theorem r_u64 {n : Int} (h : inK .u64 n = true) : 0 ≤ n ∧ n ≤ 18446744073709551615 := by simpa [inK_iff, loK, hiK] using h
theorem r_u32 {n : Int} (h : inK .u32 n = true) : 0 ≤ n ∧ n ≤ 4294967295 := by simpa [inK_iff, loK, hiK] using h
theorem r_u16 {n : Int} (h : inK .u16 n = true) : 0 ≤ n ∧ n ≤ 65535 := by simpa [inK_iff, loK, hiK] using h
theorem r_u8 {n : Int} (h : inK .u8 n = true) : 0 ≤ n ∧ n ≤ 255 := by simpa [inK_iff, loK, hiK] using h
theorem r_i32 {n : Int} (h : inK .i32 n = true) : -2147483648 ≤ n ∧ n ≤ 2147483647 := by simpa [inK_iff, loK, hiK] using h
/-- A number that fits stays. -/
theorem s_i64 {n : Int} (h : -9223372036854775808 ≤ n ∧ n ≤ 9223372036854775807) : IntKind.i64.wrap n = n := by rw [w_i64]; omega
theorem s_u64 {n : Int} (h : 0 ≤ n ∧ n ≤ 18446744073709551615) : IntKind.u64.wrap n = n := by rw [w_u64]; omega

theorem not_i64 (n : Int) (h : -9223372036854775808 ≤ n ∧ n ≤ 9223372036854775807) : bits BinOp.xor IntKind.i64 (if IntKind.i64.signed = true then -1 else IntKind.i64.max) n = -n - 1 := by
  have e : (BitVec.ofInt 64 (-1) ^^^ BitVec.ofInt 64 n).toNat = 18446744073709551615 - (n % 18446744073709551616).toNat := by
    rw [show BitVec.ofInt 64 (-1) = BitVec.allOnes 64 from rfl, BitVec.allOnes_xor, BitVec.toNat_not, BitVec.toNat_ofInt]; rfl
  show IntKind.i64.wrap (((BitVec.ofInt 64 (-1) ^^^ BitVec.ofInt 64 n).toNat : Nat) : Int) = _
  rw [e, w_i64]; omega
theorem not_u64 (n : Int) (h : 0 ≤ n ∧ n ≤ 18446744073709551615) : bits BinOp.xor IntKind.u64 (if IntKind.u64.signed = true then -1 else IntKind.u64.max) n = 18446744073709551615 - n := by
  have e : (BitVec.ofInt 64 IntKind.u64.max ^^^ BitVec.ofInt 64 n).toNat = 18446744073709551615 - (n % 18446744073709551616).toNat := by
    rw [show BitVec.ofInt 64 IntKind.u64.max = BitVec.allOnes 64 by decide, BitVec.allOnes_xor, BitVec.toNat_not, BitVec.toNat_ofInt]; rfl
  show IntKind.u64.wrap (((BitVec.ofInt 64 IntKind.u64.max ^^^ BitVec.ofInt 64 n).toNat : Nat) : Int) = _
  rw [e, w_u64]; omega
theorem and_mask (k : Nat) (m : Int) (hm : m = ((2 ^ k - 1 : Nat) : Int)) (hk : k ≤ 64) (n : Int) (h : 0 ≤ n ∧ n ≤ 18446744073709551615) : bits BinOp.and IntKind.u64 n m = n % ((2 ^ k : Nat) : Int) := by
  have hp : 2 ^ k ≤ 2 ^ 64 := Nat.pow_le_pow_right (by decide) hk
  have hp' : 2 ^ k ≤ 18446744073709551616 := hp
  have h0 : 0 < 2 ^ k := Nat.two_pow_pos k
  subst hm
  rw [u64_and n _ h.1 (by omega) (by omega) (by omega), Int.toNat_natCast, Nat.and_two_pow_sub_one_eq_mod]
  generalize 2 ^ k = p at *
  have : ((n.toNat : Nat) : Int) = n := Int.toNat_of_nonneg h.1
  rw [Int.natCast_emod, this]
theorem and_half (n : Int) (h : 0 ≤ n ∧ n ≤ 18446744073709551615) : bits BinOp.and IntKind.u64 n 4294967295 = n % 4294967296 := and_mask 32 _ (by decide) (by decide) n h
theorem and_one (n : Int) (h : 0 ≤ n ∧ n ≤ 18446744073709551615) : bits BinOp.and IntKind.u64 n 1 = n % 2 := and_mask 1 _ (by decide) (by decide) n h
/-- What has no bit in common is added. -/
theorem or_add (k : Nat) (x y : Int) (hx : 0 ≤ x ∧ x ≤ 18446744073709551615) (hk : x % ((2 ^ k : Nat) : Int) = 0) (hy : 0 ≤ y ∧ y < ((2 ^ k : Nat) : Int)) (hs : y ≤ 18446744073709551615) : bits BinOp.or IntKind.u64 x y = x + y := by
  rw [u64_or x y hx.1 (by omega) hy.1 (by omega)]
  obtain ⟨q, hq⟩ : ∃ q : Nat, x.toNat = 2 ^ k * q := by
    refine ⟨x.toNat / 2 ^ k, ?_⟩
    have : x.toNat % 2 ^ k = 0 := by
      generalize 2 ^ k = p at *
      have h1 : ((x.toNat : Nat) : Int) = x := Int.toNat_of_nonneg hx.1
      have h2 : ((x.toNat % p : Nat) : Int) = 0 := by rw [Int.natCast_emod, h1]; exact hk
      omega
    have := Nat.div_add_mod x.toNat (2 ^ k)
    omega
  have hy' : y.toNat < 2 ^ k := by generalize 2 ^ k = p at *; omega
  rw [hq, ← Nat.two_pow_add_eq_or_of_lt hy' q, ← hq]
  omega
theorem shr_eq {b : Nat} (x : Int) (n : Nat) (k : IntKind) (hb : n ≤ k.bits) (hp : ((2 : Int) ^ n) = ((b : Nat) : Int)) : x.fdiv (2 ^ min n k.bits) = x / (b : Int) := by
  rw [Nat.min_eq_left hb, hp, Int.fdiv_eq_ediv_of_nonneg _ (by omega)]
end Go.Tb
