/- The document's numbers: from halves. -/
import Derived.Test.YtlgoijjiadcmeaaN8
set_option linter.all false
set_option maxRecDepth 100000
namespace Go.Tb.W
open Go Go.Proofs
variable {I : Interp O}
theorem bv_rep (n : Nat) : bv (List.replicate n (rwA [.bool false])) = 0 := by
  induction n with
  | zero => rfl
  | succ n ih => rw [List.replicate_succ, bv_cons, ih]; simp [rwA, nb]
theorem fbit (m i : Nat) (hi : i < 64) : (((m : Int).fdiv (2 ^ min ((i : Int)).toNat IntKind.u64.bits)).tmod 2 == 1) = ((m / 2 ^ i) % 2 == 1) := by
  have h1 : min ((i : Int)).toNat IntKind.u64.bits = i := by
    have : IntKind.u64.bits = 64 := rfl
    omega
  rw [h1]
  have h2 : (m : Int).fdiv (2 ^ i) = ((m / 2 ^ i : Nat) : Int) := by
    rw [Int.fdiv_eq_ediv_of_nonneg _ (Int.pow_nonneg (by decide))]
    rw [Int.natCast_ediv, Int.natCast_pow]; rfl
  rw [h2, Int.tmod_eq_emod_of_nonneg (Int.natCast_nonneg _)]
  have h3 : ((m / 2 ^ i : Nat) : Int) % 2 = ((m / 2 ^ i % 2 : Nat) : Int) := by omega
  rw [h3]
  generalize m / 2 ^ i % 2 = y
  cases hy : (y == 1)
  · have : y ≠ 1 := by simpa using hy
    simp; omega
  · have : y = 1 := by simpa using hy
    subst this; rfl
theorem mod_step (m i : Nat) : m % 2 ^ (i + 1) = m % 2 ^ i + 2 ^ i * nb ((m / 2 ^ i) % 2 == 1) := by
  rw [Nat.pow_succ, Nat.mod_mul]
  congr 2
  have := Nat.mod_lt (m / 2 ^ i) (show 0 < 2 by omega)
  generalize m / 2 ^ i % 2 = y at *
  rcases (show y = 0 ∨ y = 1 by omega) with rfl | rfl <;> rfl
end Go.Tb.W
