/-
  No cell of these rows narrows 'for every input' (looked for: loops, veiled, ifaces, maps, wideKeys, modest, calm, conditions, laid).
  DERIVED. THE GIVEN ROWS OF THIS SEAT. 6 by the template 'for every input the law returns true; each argument reads behind the call as it read before'; 0 by the template 'total and deterministic' (their statements: YtcabackgkjhmeaaTotals.lean).
  GIVEN WITH THE SEED: the statements are not yours to turn. If you find one false, say at which input.
  Laid BY PROGRAM, IN A SANDBOX (cutbox-rows.mjs): the forced cells as the released guide's own fill.sh prints them over the translation 14eb3436e6c49a77… (all of the seat's roots in one cut). By AI agents, Wed Nov 11 2026. No macro, syntax, notation, axiom, sorry.
-/
import Derived.Test.YtcabackgkjhmeaaChecked
import GoSem.Claim
import GoSem.ClaimJoined
import GoSem.ClaimMapViews
import Derived.JoinedTies
import Derived.KernelRfl
namespace Go.Proofs.Ytcabackgkjhmeaa
/- THE CELL 'sum', in the pinned program and in every row, IS THE sha256 OF THE DUMP (.gsa) THAT YtcabackgkjhmeaaProg.lean LOADS. Nothing in Lean hashes anything: it is a label: what it is worth is what the hold of that sum in a sandbox is worth. -/
noncomputable def Try.pinned : Pinned := { name := "ytcabackgkjhmeaa", sum := "14eb3436e6c49a771b44573c02fe54a39552ef1839a7c6366e56ad485b90e607", checked := Try.checked }
namespace Rows
def none {H : Type} : Left H := { results := [], args := [] }

/-- 'timeballlaw19.QueueDoes': WHATEVER THE INPUT: true; the input reads as it did. -/
def queueDoesSpec : ChangeSpec := { name := "queueDoes", fn := fun _ => fun
  | [d] => { results := [.lit (.bool true)], args := [d] }
  | _ => none }
def queueDoesRow : OpenClaim := { program := "ytcabackgkjhmeaa", sum := "14eb3436e6c49a771b44573c02fe54a39552ef1839a7c6366e56ad485b90e607", func := "timeball/timeballlaw19.QueueDoes", spec := "queueDoes", unfollowed := true, recurses := true, apart := false }
def QueueDoesSaid : Prop := queueDoesRow.holds Try.pinned (OpenSpec.ofChange queueDoesSpec)

/-- ITS FALSE NEIGHBOUR: 'it returns false'. Refute it at one input. -/
def queueDoesWrong : ChangeSpec := { name := "queueDoes", fn := fun _ => fun
  | [d] => { results := [.lit (.bool false)], args := [d] }
  | _ => none }
def QueueDoesWrongFalsely : Prop := queueDoesRow.holds Try.pinned (OpenSpec.ofChange queueDoesWrong)

/-- 'timeballlaw19.QueueSorts': WHATEVER THE INPUT: true; the input reads as it did. -/
def queueSortsSpec : ChangeSpec := { name := "queueSorts", fn := fun _ => fun
  | [d] => { results := [.lit (.bool true)], args := [d] }
  | _ => none }
def queueSortsRow : OpenClaim := { program := "ytcabackgkjhmeaa", sum := "14eb3436e6c49a771b44573c02fe54a39552ef1839a7c6366e56ad485b90e607", func := "timeball/timeballlaw19.QueueSorts", spec := "queueSorts", unfollowed := true, recurses := true, apart := false }
def QueueSortsSaid : Prop := queueSortsRow.holds Try.pinned (OpenSpec.ofChange queueSortsSpec)

/-- ITS FALSE NEIGHBOUR: 'it returns false'. Refute it at one input. -/
def queueSortsWrong : ChangeSpec := { name := "queueSorts", fn := fun _ => fun
  | [d] => { results := [.lit (.bool false)], args := [d] }
  | _ => none }
def QueueSortsWrongFalsely : Prop := queueSortsRow.holds Try.pinned (OpenSpec.ofChange queueSortsWrong)

/-- 'timeballlaw19.QueueUntil': WHATEVER THE INPUT: true; the input reads as it did. -/
def queueUntilSpec : ChangeSpec := { name := "queueUntil", fn := fun _ => fun
  | [d1, d2, d3] => { results := [.lit (.bool true)], args := [d1, d2, d3] }
  | _ => none }
def queueUntilRow : OpenClaim := { program := "ytcabackgkjhmeaa", sum := "14eb3436e6c49a771b44573c02fe54a39552ef1839a7c6366e56ad485b90e607", func := "timeball/timeballlaw19.QueueUntil", spec := "queueUntil", unfollowed := true, recurses := true, apart := false }
def QueueUntilSaid : Prop := queueUntilRow.holds Try.pinned (OpenSpec.ofChange queueUntilSpec)

/-- ITS FALSE NEIGHBOUR: 'it returns false'. Refute it at one input. -/
def queueUntilWrong : ChangeSpec := { name := "queueUntil", fn := fun _ => fun
  | [d1, d2, d3] => { results := [.lit (.bool false)], args := [d1, d2, d3] }
  | _ => none }
def QueueUntilWrongFalsely : Prop := queueUntilRow.holds Try.pinned (OpenSpec.ofChange queueUntilWrong)

/-- 'timeballlaw19.QueueFull': WHATEVER THE INPUT: true; the input reads as it did. -/
def queueFullSpec : ChangeSpec := { name := "queueFull", fn := fun _ => fun
  | [d] => { results := [.lit (.bool true)], args := [d] }
  | _ => none }
def queueFullRow : OpenClaim := { program := "ytcabackgkjhmeaa", sum := "14eb3436e6c49a771b44573c02fe54a39552ef1839a7c6366e56ad485b90e607", func := "timeball/timeballlaw19.QueueFull", spec := "queueFull", unfollowed := true, recurses := true, apart := false }
def QueueFullSaid : Prop := queueFullRow.holds Try.pinned (OpenSpec.ofChange queueFullSpec)

/-- ITS FALSE NEIGHBOUR: 'it returns false'. Refute it at one input. -/
def queueFullWrong : ChangeSpec := { name := "queueFull", fn := fun _ => fun
  | [d] => { results := [.lit (.bool false)], args := [d] }
  | _ => none }
def QueueFullWrongFalsely : Prop := queueFullRow.holds Try.pinned (OpenSpec.ofChange queueFullWrong)

/-- 'timeballlaw19.QueueDrops': WHATEVER THE INPUT: true; the input reads as it did. -/
def queueDropsSpec : ChangeSpec := { name := "queueDrops", fn := fun _ => fun
  | [d1, d2] => { results := [.lit (.bool true)], args := [d1, d2] }
  | _ => none }
def queueDropsRow : OpenClaim := { program := "ytcabackgkjhmeaa", sum := "14eb3436e6c49a771b44573c02fe54a39552ef1839a7c6366e56ad485b90e607", func := "timeball/timeballlaw19.QueueDrops", spec := "queueDrops", unfollowed := true, recurses := true, apart := false }
def QueueDropsSaid : Prop := queueDropsRow.holds Try.pinned (OpenSpec.ofChange queueDropsSpec)

/-- ITS FALSE NEIGHBOUR: 'it returns false'. Refute it at one input. -/
def queueDropsWrong : ChangeSpec := { name := "queueDrops", fn := fun _ => fun
  | [d1, d2] => { results := [.lit (.bool false)], args := [d1, d2] }
  | _ => none }
def QueueDropsWrongFalsely : Prop := queueDropsRow.holds Try.pinned (OpenSpec.ofChange queueDropsWrong)

/-- 'timeballlaw19.QueueLater': WHATEVER THE INPUT: true; the input reads as it did. -/
def queueLaterSpec : ChangeSpec := { name := "queueLater", fn := fun _ => fun
  | [d] => { results := [.lit (.bool true)], args := [d] }
  | _ => none }
def queueLaterRow : OpenClaim := { program := "ytcabackgkjhmeaa", sum := "14eb3436e6c49a771b44573c02fe54a39552ef1839a7c6366e56ad485b90e607", func := "timeball/timeballlaw19.QueueLater", spec := "queueLater", unfollowed := true, recurses := true, apart := false }
def QueueLaterSaid : Prop := queueLaterRow.holds Try.pinned (OpenSpec.ofChange queueLaterSpec)

/-- ITS FALSE NEIGHBOUR: 'it returns false'. Refute it at one input. -/
def queueLaterWrong : ChangeSpec := { name := "queueLater", fn := fun _ => fun
  | [d] => { results := [.lit (.bool false)], args := [d] }
  | _ => none }
def QueueLaterWrongFalsely : Prop := queueLaterRow.holds Try.pinned (OpenSpec.ofChange queueLaterWrong)

/- THE SECOND FORM. 'bulk': how many values and letters a reading holds, each counted each time it is reached (what is shared counts as often as it is met; a slice's spare places count too). A statement '..UptoSaid' is the law's where the arguments, and the package variables that the reading takes, are together of bulk at most 1048576: NARROWER than '..Said'. Prove '..Said' where nothing that the law and all that it calls make is longer than what came in: it says more and counts as full. Else prove '..UptoSaid'. A law counts once. -/
mutual
def uptoBulk {H : Type} : DataW H → Nat
  | .lit (.string bytes) => bytes.length + 1
  | .lit _ => 1
  | .nil => 1
  | .ptr d => uptoBulk d + 1
  | .slice elems spare => uptoBulkAll elems + uptoBulkAll spare + 1
  | .agg parts => uptoBulkAll parts + 1
  | .iface _ d => uptoBulk d + 1
  | .map entries => uptoBulkEntries entries + 1
  | .held _ => 1
def uptoBulkAll {H : Type} : List (DataW H) → Nat
  | [] => 0
  | d :: r => uptoBulk d + uptoBulkAll r
def uptoBulkEntries {H : Type} : List (Lit × DataW H) → Nat
  | [] => 0
  | x :: r => uptoBulkEntry x + uptoBulkEntries r
def uptoBulkEntry {H : Type} : Lit × DataW H → Nat
  | (.string bytes, d) => bytes.length + uptoBulk d + 1
  | (_, d) => uptoBulk d + 1
 end
def uptoSmall : (H : Type) → List (DataW H) → Bool := fun _ ds => decide (uptoBulkAll ds ≤ 1048576)
def OpenSpec.upto (s : _root_.Go.ChangeSpec) : _root_.Go.OpenSpec := { _root_.Go.OpenSpec.ofChange s with cond := some uptoSmall }

/-- 'timeballlaw19.QueueDoes', WHERE WHAT IT READS IS OF BULK AT MOST 1048576: true; the input reads as it did. -/
def queueDoesUptoRow : OpenClaim := { program := "ytcabackgkjhmeaa", sum := "14eb3436e6c49a771b44573c02fe54a39552ef1839a7c6366e56ad485b90e607", func := "timeball/timeballlaw19.QueueDoes", spec := "queueDoes", unfollowed := true, recurses := true, apart := false, narrowed := true }
def QueueDoesUptoSaid : Prop := queueDoesUptoRow.holds Try.pinned (OpenSpec.upto queueDoesSpec)

/-- 'timeballlaw19.QueueSorts', WHERE WHAT IT READS IS OF BULK AT MOST 1048576: true; the input reads as it did. -/
def queueSortsUptoRow : OpenClaim := { program := "ytcabackgkjhmeaa", sum := "14eb3436e6c49a771b44573c02fe54a39552ef1839a7c6366e56ad485b90e607", func := "timeball/timeballlaw19.QueueSorts", spec := "queueSorts", unfollowed := true, recurses := true, apart := false, narrowed := true }
def QueueSortsUptoSaid : Prop := queueSortsUptoRow.holds Try.pinned (OpenSpec.upto queueSortsSpec)

/-- 'timeballlaw19.QueueUntil', WHERE WHAT IT READS IS OF BULK AT MOST 1048576: true; the input reads as it did. -/
def queueUntilUptoRow : OpenClaim := { program := "ytcabackgkjhmeaa", sum := "14eb3436e6c49a771b44573c02fe54a39552ef1839a7c6366e56ad485b90e607", func := "timeball/timeballlaw19.QueueUntil", spec := "queueUntil", unfollowed := true, recurses := true, apart := false, narrowed := true }
def QueueUntilUptoSaid : Prop := queueUntilUptoRow.holds Try.pinned (OpenSpec.upto queueUntilSpec)

/-- 'timeballlaw19.QueueFull', WHERE WHAT IT READS IS OF BULK AT MOST 1048576: true; the input reads as it did. -/
def queueFullUptoRow : OpenClaim := { program := "ytcabackgkjhmeaa", sum := "14eb3436e6c49a771b44573c02fe54a39552ef1839a7c6366e56ad485b90e607", func := "timeball/timeballlaw19.QueueFull", spec := "queueFull", unfollowed := true, recurses := true, apart := false, narrowed := true }
def QueueFullUptoSaid : Prop := queueFullUptoRow.holds Try.pinned (OpenSpec.upto queueFullSpec)

/-- 'timeballlaw19.QueueDrops', WHERE WHAT IT READS IS OF BULK AT MOST 1048576: true; the input reads as it did. -/
def queueDropsUptoRow : OpenClaim := { program := "ytcabackgkjhmeaa", sum := "14eb3436e6c49a771b44573c02fe54a39552ef1839a7c6366e56ad485b90e607", func := "timeball/timeballlaw19.QueueDrops", spec := "queueDrops", unfollowed := true, recurses := true, apart := false, narrowed := true }
def QueueDropsUptoSaid : Prop := queueDropsUptoRow.holds Try.pinned (OpenSpec.upto queueDropsSpec)

/-- 'timeballlaw19.QueueLater', WHERE WHAT IT READS IS OF BULK AT MOST 1048576: true; the input reads as it did. -/
def queueLaterUptoRow : OpenClaim := { program := "ytcabackgkjhmeaa", sum := "14eb3436e6c49a771b44573c02fe54a39552ef1839a7c6366e56ad485b90e607", func := "timeball/timeballlaw19.QueueLater", spec := "queueLater", unfollowed := true, recurses := true, apart := false, narrowed := true }
def QueueLaterUptoSaid : Prop := queueLaterUptoRow.holds Try.pinned (OpenSpec.upto queueLaterSpec)

end Rows
end Go.Proofs.Ytcabackgkjhmeaa
