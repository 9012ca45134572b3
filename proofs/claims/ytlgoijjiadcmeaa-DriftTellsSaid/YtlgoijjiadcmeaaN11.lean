/- The document's numbers: Part; the lists of what the laws' texts call. -/
import Derived.Test.YtlgoijjiadcmeaaN8
import Derived.Test.YtlgoijjiadcmeaaN9
import Derived.Test.YtlgoijjiadcmeaaN10
import Derived.Test.YtlgoijjiadcmeaaU2
set_option linter.all false
set_option maxRecDepth 100000
namespace Go.Tb.W
open Go Go.Proofs
variable {I : Interp O}
theorem gq3 : GOk I P (Gm Q3) := by
  refine Gm.consH ?_ k_fits
  refine Gm.consH ?_ k_rwide
  refine Gm.consH ?_ k_rtimes
  refine Gm.consH ?_ k_rdiv
  exact gq2
/-- A number of few bits. -/
theorem nrp {s : Bool} {xs : List Rw} {k : Nat} {v : Int} (m : Nat) (h : NR s xs k v) (hm : m ≤ 800) (hv : v.natAbs < 2 ^ m) : Pre s xs k ∧ k ≤ m := by
  have := nr_len h hv
  exact ⟨pre_of h (by omega), this⟩
theorem nr64 {s : Bool} {xs : List Rw} {k : Nat} {v : Int} (h : NR s xs k v) (hv : -9223372036854775808 ≤ v ∧ v ≤ 9223372036854775807) : Pre s xs k ∧ k ≤ 64 := nrp 64 h (by decide) (by omega)
theorem nr128 {s : Bool} {xs : List Rw} {k : Nat} {v : Int} (h : NR s xs k v) (hv : -170141183460469231731687303715884105728 ≤ v ∧ v ≤ 170141183460469231731687303715884105727) : Pre s xs k ∧ k ≤ 128 := nrp 128 h (by decide) (by omega)
theorem nr256 {s : Bool} {xs : List Rw} {k : Nat} {v : Int} (h : NR s xs k v) (hv : -340282366920938463463374607431768211456 ≤ v ∧ v ≤ 340282366920938463463374607431768211456) : Pre s xs k ∧ k ≤ 130 := nrp 130 h (by decide) (by omega)
theorem fits63 {v : Int} {b : Bool} (h : FitsR v 63 b) : b = true ↔ -9223372036854775808 ≤ v ∧ v ≤ 9223372036854775807 := by
  have h : b = true ↔ -(9223372036854775808 : Int) ≤ v ∧ v < 9223372036854775808 := h
  rw [h]; omega
theorem fits127 {v : Int} {b : Bool} (h : FitsR v 127 b) : b = true ↔ -170141183460469231731687303715884105728 ≤ v ∧ v ≤ 170141183460469231731687303715884105727 := by
  have h : b = true ↔ -(170141183460469231731687303715884105728 : Int) ≤ v ∧ v < 170141183460469231731687303715884105728 := h
  rw [h]; omega
/-- The low half, as a signed number. -/
theorem wide_low {v h l : Int} (w : WideR v h l) (hv : -9223372036854775808 ≤ v ∧ v ≤ 9223372036854775807) : IntKind.i64.wrap l = v := by
  obtain ⟨h1, h2, h3, _⟩ := w
  rw [w_i64]; omega
end Go.Tb.W
