/-
  No cell of these rows narrows 'for every input' (looked for: loops, veiled, ifaces, maps, wideKeys, modest, calm, conditions, laid).
  DERIVED. THE GIVEN ROWS OF THIS SEAT. 7 by the template 'for every input the law returns true; each argument reads behind the call as it read before'; 0 by the template 'total and deterministic' (their statements: YtojppaicjioohaaTotals.lean).
  GIVEN WITH THE SEED: the statements are not yours to turn. If you find one false, say at which input.
  Laid BY PROGRAM, IN A SANDBOX (cutbox-rows.mjs): the forced cells as the released guide's own fill.sh prints them over the translation ed3ee1fdeb4515b1… (all of the seat's roots in one cut). By AI agents, Wed Nov 11 2026. No macro, syntax, notation, axiom, sorry.
-/
import Derived.Test.YtojppaicjioohaaChecked
import GoSem.Claim
import GoSem.ClaimJoined
import GoSem.ClaimMapViews
import Derived.JoinedTies
import Derived.KernelRfl
namespace Go.Proofs.Ytojppaicjioohaa
/- THE CELL 'sum', in the pinned program and in every row, IS THE sha256 OF THE DUMP (.gsa) THAT YtojppaicjioohaaProg.lean LOADS. Nothing in Lean hashes anything: it is a label: what it is worth is what the hold of that sum in a sandbox is worth. -/
noncomputable def Try.pinned : Pinned := { name := "ytojppaicjioohaa", sum := "ed3ee1fdeb4515b15f473e6cf4e10405462a3d369cd57baa8691af579561b01d", checked := Try.checked }
namespace Rows
def none {H : Type} : Left H := { results := [], args := [] }

/-- 'timeballlaw11.BufferDoes': WHATEVER THE INPUT: true; the input reads as it did. -/
def bufferDoesSpec : ChangeSpec := { name := "bufferDoes", fn := fun _ => fun
  | [d1, d2, d3] => { results := [.lit (.bool true)], args := [d1, d2, d3] }
  | _ => none }
def bufferDoesRow : OpenClaim := { program := "ytojppaicjioohaa", sum := "ed3ee1fdeb4515b15f473e6cf4e10405462a3d369cd57baa8691af579561b01d", func := "timeball/timeballlaw11.BufferDoes", spec := "bufferDoes", unfollowed := true, recurses := true, apart := false }
def BufferDoesSaid : Prop := bufferDoesRow.holds Try.pinned (OpenSpec.ofChange bufferDoesSpec)

/-- ITS FALSE NEIGHBOUR: 'it returns false'. Refute it at one input. -/
def bufferDoesWrong : ChangeSpec := { name := "bufferDoes", fn := fun _ => fun
  | [d1, d2, d3] => { results := [.lit (.bool false)], args := [d1, d2, d3] }
  | _ => none }
def BufferDoesWrongFalsely : Prop := bufferDoesRow.holds Try.pinned (OpenSpec.ofChange bufferDoesWrong)

/-- 'timeballlaw11.BufferOnce': WHATEVER THE INPUT: true; the input reads as it did. -/
def bufferOnceSpec : ChangeSpec := { name := "bufferOnce", fn := fun _ => fun
  | [d1, d2, d3] => { results := [.lit (.bool true)], args := [d1, d2, d3] }
  | _ => none }
def bufferOnceRow : OpenClaim := { program := "ytojppaicjioohaa", sum := "ed3ee1fdeb4515b15f473e6cf4e10405462a3d369cd57baa8691af579561b01d", func := "timeball/timeballlaw11.BufferOnce", spec := "bufferOnce", unfollowed := true, recurses := true, apart := false }
def BufferOnceSaid : Prop := bufferOnceRow.holds Try.pinned (OpenSpec.ofChange bufferOnceSpec)

/-- ITS FALSE NEIGHBOUR: 'it returns false'. Refute it at one input. -/
def bufferOnceWrong : ChangeSpec := { name := "bufferOnce", fn := fun _ => fun
  | [d1, d2, d3] => { results := [.lit (.bool false)], args := [d1, d2, d3] }
  | _ => none }
def BufferOnceWrongFalsely : Prop := bufferOnceRow.holds Try.pinned (OpenSpec.ofChange bufferOnceWrong)

/-- 'timeballlaw11.BufferRoom': WHATEVER THE INPUT: true; the input reads as it did. -/
def bufferRoomSpec : ChangeSpec := { name := "bufferRoom", fn := fun _ => fun
  | [d1, d2, d3] => { results := [.lit (.bool true)], args := [d1, d2, d3] }
  | _ => none }
def bufferRoomRow : OpenClaim := { program := "ytojppaicjioohaa", sum := "ed3ee1fdeb4515b15f473e6cf4e10405462a3d369cd57baa8691af579561b01d", func := "timeball/timeballlaw11.BufferRoom", spec := "bufferRoom", unfollowed := true, recurses := true, apart := false }
def BufferRoomSaid : Prop := bufferRoomRow.holds Try.pinned (OpenSpec.ofChange bufferRoomSpec)

/-- ITS FALSE NEIGHBOUR: 'it returns false'. Refute it at one input. -/
def bufferRoomWrong : ChangeSpec := { name := "bufferRoom", fn := fun _ => fun
  | [d1, d2, d3] => { results := [.lit (.bool false)], args := [d1, d2, d3] }
  | _ => none }
def BufferRoomWrongFalsely : Prop := bufferRoomRow.holds Try.pinned (OpenSpec.ofChange bufferRoomWrong)

/-- 'timeballlaw11.BufferFull': WHATEVER THE INPUT: true; the input reads as it did. -/
def bufferFullSpec : ChangeSpec := { name := "bufferFull", fn := fun _ => fun
  | [d1, d2] => { results := [.lit (.bool true)], args := [d1, d2] }
  | _ => none }
def bufferFullRow : OpenClaim := { program := "ytojppaicjioohaa", sum := "ed3ee1fdeb4515b15f473e6cf4e10405462a3d369cd57baa8691af579561b01d", func := "timeball/timeballlaw11.BufferFull", spec := "bufferFull", unfollowed := true, recurses := true, apart := false }
def BufferFullSaid : Prop := bufferFullRow.holds Try.pinned (OpenSpec.ofChange bufferFullSpec)

/-- ITS FALSE NEIGHBOUR: 'it returns false'. Refute it at one input. -/
def bufferFullWrong : ChangeSpec := { name := "bufferFull", fn := fun _ => fun
  | [d1, d2] => { results := [.lit (.bool false)], args := [d1, d2] }
  | _ => none }
def BufferFullWrongFalsely : Prop := bufferFullRow.holds Try.pinned (OpenSpec.ofChange bufferFullWrong)

/-- 'timeballlaw11.BufferApart': WHATEVER THE INPUT: true; the input reads as it did. -/
def bufferApartSpec : ChangeSpec := { name := "bufferApart", fn := fun _ => fun
  | [d1, d2] => { results := [.lit (.bool true)], args := [d1, d2] }
  | _ => none }
def bufferApartRow : OpenClaim := { program := "ytojppaicjioohaa", sum := "ed3ee1fdeb4515b15f473e6cf4e10405462a3d369cd57baa8691af579561b01d", func := "timeball/timeballlaw11.BufferApart", spec := "bufferApart", unfollowed := true, recurses := true, apart := false }
def BufferApartSaid : Prop := bufferApartRow.holds Try.pinned (OpenSpec.ofChange bufferApartSpec)

/-- ITS FALSE NEIGHBOUR: 'it returns false'. Refute it at one input. -/
def bufferApartWrong : ChangeSpec := { name := "bufferApart", fn := fun _ => fun
  | [d1, d2] => { results := [.lit (.bool false)], args := [d1, d2] }
  | _ => none }
def BufferApartWrongFalsely : Prop := bufferApartRow.holds Try.pinned (OpenSpec.ofChange bufferApartWrong)

/-- 'timeballlaw11.BufferAgain': WHATEVER THE INPUT: true; the input reads as it did. -/
def bufferAgainSpec : ChangeSpec := { name := "bufferAgain", fn := fun _ => fun
  | [d1, d2] => { results := [.lit (.bool true)], args := [d1, d2] }
  | _ => none }
def bufferAgainRow : OpenClaim := { program := "ytojppaicjioohaa", sum := "ed3ee1fdeb4515b15f473e6cf4e10405462a3d369cd57baa8691af579561b01d", func := "timeball/timeballlaw11.BufferAgain", spec := "bufferAgain", unfollowed := true, recurses := true, apart := false }
def BufferAgainSaid : Prop := bufferAgainRow.holds Try.pinned (OpenSpec.ofChange bufferAgainSpec)

/-- ITS FALSE NEIGHBOUR: 'it returns false'. Refute it at one input. -/
def bufferAgainWrong : ChangeSpec := { name := "bufferAgain", fn := fun _ => fun
  | [d1, d2] => { results := [.lit (.bool false)], args := [d1, d2] }
  | _ => none }
def BufferAgainWrongFalsely : Prop := bufferAgainRow.holds Try.pinned (OpenSpec.ofChange bufferAgainWrong)

/-- 'timeballlaw11.BufferRises': WHATEVER THE INPUT: true; the input reads as it did. -/
def bufferRisesSpec : ChangeSpec := { name := "bufferRises", fn := fun _ => fun
  | [d] => { results := [.lit (.bool true)], args := [d] }
  | _ => none }
def bufferRisesRow : OpenClaim := { program := "ytojppaicjioohaa", sum := "ed3ee1fdeb4515b15f473e6cf4e10405462a3d369cd57baa8691af579561b01d", func := "timeball/timeballlaw11.BufferRises", spec := "bufferRises", unfollowed := true, recurses := true, apart := false }
def BufferRisesSaid : Prop := bufferRisesRow.holds Try.pinned (OpenSpec.ofChange bufferRisesSpec)

/-- ITS FALSE NEIGHBOUR: 'it returns false'. Refute it at one input. -/
def bufferRisesWrong : ChangeSpec := { name := "bufferRises", fn := fun _ => fun
  | [d] => { results := [.lit (.bool false)], args := [d] }
  | _ => none }
def BufferRisesWrongFalsely : Prop := bufferRisesRow.holds Try.pinned (OpenSpec.ofChange bufferRisesWrong)

/- THE SECOND FORM. 'bulk': how many values and letters a reading holds, each counted each time it is reached (what is shared counts as often as it is met; a slice's spare places count too). A statement '..UptoSaid' is the law's where the arguments, and the package variables that the reading takes, are together of bulk at most 1048576: NARROWER than '..Said'. Prove '..Said' where nothing that the law and all that it calls make is longer than what came in: it says more and counts as full. Else prove '..UptoSaid'. A law counts once. -/
mutual
def uptoBulk {H : Type} : DataW H → Nat
  | .lit (.string bytes) => bytes.length + 1
  | .lit _ => 1
  | .nil => 1
  | .ptr d => uptoBulk d + 1
  | .slice elems spare => uptoBulkAll elems + uptoBulkAll spare + 1
  | .agg parts => uptoBulkAll parts + 1
  | .iface _ d => uptoBulk d + 1
  | .map entries => uptoBulkEntries entries + 1
  | .held _ => 1
def uptoBulkAll {H : Type} : List (DataW H) → Nat
  | [] => 0
  | d :: r => uptoBulk d + uptoBulkAll r
def uptoBulkEntries {H : Type} : List (Lit × DataW H) → Nat
  | [] => 0
  | x :: r => uptoBulkEntry x + uptoBulkEntries r
def uptoBulkEntry {H : Type} : Lit × DataW H → Nat
  | (.string bytes, d) => bytes.length + uptoBulk d + 1
  | (_, d) => uptoBulk d + 1
 end
def uptoSmall : (H : Type) → List (DataW H) → Bool := fun _ ds => decide (uptoBulkAll ds ≤ 1048576)
def OpenSpec.upto (s : _root_.Go.ChangeSpec) : _root_.Go.OpenSpec := { _root_.Go.OpenSpec.ofChange s with cond := some uptoSmall }

/-- 'timeballlaw11.BufferDoes', WHERE WHAT IT READS IS OF BULK AT MOST 1048576: true; the input reads as it did. -/
def bufferDoesUptoRow : OpenClaim := { program := "ytojppaicjioohaa", sum := "ed3ee1fdeb4515b15f473e6cf4e10405462a3d369cd57baa8691af579561b01d", func := "timeball/timeballlaw11.BufferDoes", spec := "bufferDoes", unfollowed := true, recurses := true, apart := false, narrowed := true }
def BufferDoesUptoSaid : Prop := bufferDoesUptoRow.holds Try.pinned (OpenSpec.upto bufferDoesSpec)

/-- 'timeballlaw11.BufferOnce', WHERE WHAT IT READS IS OF BULK AT MOST 1048576: true; the input reads as it did. -/
def bufferOnceUptoRow : OpenClaim := { program := "ytojppaicjioohaa", sum := "ed3ee1fdeb4515b15f473e6cf4e10405462a3d369cd57baa8691af579561b01d", func := "timeball/timeballlaw11.BufferOnce", spec := "bufferOnce", unfollowed := true, recurses := true, apart := false, narrowed := true }
def BufferOnceUptoSaid : Prop := bufferOnceUptoRow.holds Try.pinned (OpenSpec.upto bufferOnceSpec)

/-- 'timeballlaw11.BufferRoom', WHERE WHAT IT READS IS OF BULK AT MOST 1048576: true; the input reads as it did. -/
def bufferRoomUptoRow : OpenClaim := { program := "ytojppaicjioohaa", sum := "ed3ee1fdeb4515b15f473e6cf4e10405462a3d369cd57baa8691af579561b01d", func := "timeball/timeballlaw11.BufferRoom", spec := "bufferRoom", unfollowed := true, recurses := true, apart := false, narrowed := true }
def BufferRoomUptoSaid : Prop := bufferRoomUptoRow.holds Try.pinned (OpenSpec.upto bufferRoomSpec)

/-- 'timeballlaw11.BufferFull', WHERE WHAT IT READS IS OF BULK AT MOST 1048576: true; the input reads as it did. -/
def bufferFullUptoRow : OpenClaim := { program := "ytojppaicjioohaa", sum := "ed3ee1fdeb4515b15f473e6cf4e10405462a3d369cd57baa8691af579561b01d", func := "timeball/timeballlaw11.BufferFull", spec := "bufferFull", unfollowed := true, recurses := true, apart := false, narrowed := true }
def BufferFullUptoSaid : Prop := bufferFullUptoRow.holds Try.pinned (OpenSpec.upto bufferFullSpec)

/-- 'timeballlaw11.BufferApart', WHERE WHAT IT READS IS OF BULK AT MOST 1048576: true; the input reads as it did. -/
def bufferApartUptoRow : OpenClaim := { program := "ytojppaicjioohaa", sum := "ed3ee1fdeb4515b15f473e6cf4e10405462a3d369cd57baa8691af579561b01d", func := "timeball/timeballlaw11.BufferApart", spec := "bufferApart", unfollowed := true, recurses := true, apart := false, narrowed := true }
def BufferApartUptoSaid : Prop := bufferApartUptoRow.holds Try.pinned (OpenSpec.upto bufferApartSpec)

/-- 'timeballlaw11.BufferAgain', WHERE WHAT IT READS IS OF BULK AT MOST 1048576: true; the input reads as it did. -/
def bufferAgainUptoRow : OpenClaim := { program := "ytojppaicjioohaa", sum := "ed3ee1fdeb4515b15f473e6cf4e10405462a3d369cd57baa8691af579561b01d", func := "timeball/timeballlaw11.BufferAgain", spec := "bufferAgain", unfollowed := true, recurses := true, apart := false, narrowed := true }
def BufferAgainUptoSaid : Prop := bufferAgainUptoRow.holds Try.pinned (OpenSpec.upto bufferAgainSpec)

/-- 'timeballlaw11.BufferRises', WHERE WHAT IT READS IS OF BULK AT MOST 1048576: true; the input reads as it did. -/
def bufferRisesUptoRow : OpenClaim := { program := "ytojppaicjioohaa", sum := "ed3ee1fdeb4515b15f473e6cf4e10405462a3d369cd57baa8691af579561b01d", func := "timeball/timeballlaw11.BufferRises", spec := "bufferRises", unfollowed := true, recurses := true, apart := false, narrowed := true }
def BufferRisesUptoSaid : Prop := bufferRisesUptoRow.holds Try.pinned (OpenSpec.upto bufferRisesSpec)

end Rows
end Go.Proofs.Ytojppaicjioohaa
