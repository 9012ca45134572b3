/-
  No cell of these rows narrows 'for every input' (looked for: loops, veiled, ifaces, maps, wideKeys, modest, calm, conditions, laid).
  DERIVED. THE GIVEN ROWS OF THIS SEAT. 6 by the template 'for every input the law returns true; each argument reads behind the call as it read before'; 0 by the template 'total and deterministic' (their statements: YtamfmlaipbdpgaaTotals.lean).
  GIVEN WITH THE SEED: the statements are not yours to turn. If you find one false, say at which input.
  Laid BY PROGRAM, IN A SANDBOX (cutbox-rows.mjs): the forced cells as the released guide's own fill.sh prints them over the translation 833866a96158fdc0… (all of the seat's roots in one cut). By AI agents, Wed Nov 11 2026. No macro, syntax, notation, axiom, sorry.
-/
import Derived.Test.YtamfmlaipbdpgaaChecked
import GoSem.Claim
import GoSem.ClaimJoined
import GoSem.ClaimMapViews
import Derived.JoinedTies
import Derived.KernelRfl
namespace Go.Proofs.Ytamfmlaipbdpgaa
/- THE CELL 'sum', in the pinned program and in every row, IS THE sha256 OF THE DUMP (.gsa) THAT YtamfmlaipbdpgaaProg.lean LOADS. Nothing in Lean hashes anything: it is a label: what it is worth is what the hold of that sum in a sandbox is worth. -/
noncomputable def Try.pinned : Pinned := { name := "ytamfmlaipbdpgaa", sum := "833866a96158fdc024eb76f4f667e80fef70e78745feaf21ae7808359ea12a05", checked := Try.checked }
namespace Rows
def none {H : Type} : Left H := { results := [], args := [] }

/-- 'timeballlaw18.CastDoes': WHATEVER THE INPUT: true; the input reads as it did. -/
def castDoesSpec : ChangeSpec := { name := "castDoes", fn := fun _ => fun
  | [d1, d2, d3, d4] => { results := [.lit (.bool true)], args := [d1, d2, d3, d4] }
  | _ => none }
def castDoesRow : OpenClaim := { program := "ytamfmlaipbdpgaa", sum := "833866a96158fdc024eb76f4f667e80fef70e78745feaf21ae7808359ea12a05", func := "timeball/timeballlaw18.CastDoes", spec := "castDoes", unfollowed := true, recurses := true, apart := false }
def CastDoesSaid : Prop := castDoesRow.holds Try.pinned (OpenSpec.ofChange castDoesSpec)

/-- ITS FALSE NEIGHBOUR: 'it returns false'. Refute it at one input. -/
def castDoesWrong : ChangeSpec := { name := "castDoes", fn := fun _ => fun
  | [d1, d2, d3, d4] => { results := [.lit (.bool false)], args := [d1, d2, d3, d4] }
  | _ => none }
def CastDoesWrongFalsely : Prop := castDoesRow.holds Try.pinned (OpenSpec.ofChange castDoesWrong)

/-- 'timeballlaw18.CastGrows': WHATEVER THE INPUT: true; the input reads as it did. -/
def castGrowsSpec : ChangeSpec := { name := "castGrows", fn := fun _ => fun
  | [d1, d2] => { results := [.lit (.bool true)], args := [d1, d2] }
  | _ => none }
def castGrowsRow : OpenClaim := { program := "ytamfmlaipbdpgaa", sum := "833866a96158fdc024eb76f4f667e80fef70e78745feaf21ae7808359ea12a05", func := "timeball/timeballlaw18.CastGrows", spec := "castGrows", unfollowed := true, recurses := true, apart := false }
def CastGrowsSaid : Prop := castGrowsRow.holds Try.pinned (OpenSpec.ofChange castGrowsSpec)

/-- ITS FALSE NEIGHBOUR: 'it returns false'. Refute it at one input. -/
def castGrowsWrong : ChangeSpec := { name := "castGrows", fn := fun _ => fun
  | [d1, d2] => { results := [.lit (.bool false)], args := [d1, d2] }
  | _ => none }
def CastGrowsWrongFalsely : Prop := castGrowsRow.holds Try.pinned (OpenSpec.ofChange castGrowsWrong)

/-- 'timeballlaw18.CastQuota': WHATEVER THE INPUT: true; the input reads as it did. -/
def castQuotaSpec : ChangeSpec := { name := "castQuota", fn := fun _ => fun
  | [d1, d2] => { results := [.lit (.bool true)], args := [d1, d2] }
  | _ => none }
def castQuotaRow : OpenClaim := { program := "ytamfmlaipbdpgaa", sum := "833866a96158fdc024eb76f4f667e80fef70e78745feaf21ae7808359ea12a05", func := "timeball/timeballlaw18.CastQuota", spec := "castQuota", unfollowed := true, recurses := true, apart := false }
def CastQuotaSaid : Prop := castQuotaRow.holds Try.pinned (OpenSpec.ofChange castQuotaSpec)

/-- ITS FALSE NEIGHBOUR: 'it returns false'. Refute it at one input. -/
def castQuotaWrong : ChangeSpec := { name := "castQuota", fn := fun _ => fun
  | [d1, d2] => { results := [.lit (.bool false)], args := [d1, d2] }
  | _ => none }
def CastQuotaWrongFalsely : Prop := castQuotaRow.holds Try.pinned (OpenSpec.ofChange castQuotaWrong)

/-- 'timeballlaw18.CastWaits': WHATEVER THE INPUT: true; the input reads as it did. -/
def castWaitsSpec : ChangeSpec := { name := "castWaits", fn := fun _ => fun
  | [d1, d2, d3] => { results := [.lit (.bool true)], args := [d1, d2, d3] }
  | _ => none }
def castWaitsRow : OpenClaim := { program := "ytamfmlaipbdpgaa", sum := "833866a96158fdc024eb76f4f667e80fef70e78745feaf21ae7808359ea12a05", func := "timeball/timeballlaw18.CastWaits", spec := "castWaits", unfollowed := true, recurses := true, apart := false }
def CastWaitsSaid : Prop := castWaitsRow.holds Try.pinned (OpenSpec.ofChange castWaitsSpec)

/-- ITS FALSE NEIGHBOUR: 'it returns false'. Refute it at one input. -/
def castWaitsWrong : ChangeSpec := { name := "castWaits", fn := fun _ => fun
  | [d1, d2, d3] => { results := [.lit (.bool false)], args := [d1, d2, d3] }
  | _ => none }
def CastWaitsWrongFalsely : Prop := castWaitsRow.holds Try.pinned (OpenSpec.ofChange castWaitsWrong)

/-- 'timeballlaw18.CastIds': WHATEVER THE INPUT: true; the input reads as it did. -/
def castIdsSpec : ChangeSpec := { name := "castIds", fn := fun _ => fun
  | [d1, d2] => { results := [.lit (.bool true)], args := [d1, d2] }
  | _ => none }
def castIdsRow : OpenClaim := { program := "ytamfmlaipbdpgaa", sum := "833866a96158fdc024eb76f4f667e80fef70e78745feaf21ae7808359ea12a05", func := "timeball/timeballlaw18.CastIds", spec := "castIds", unfollowed := true, recurses := true, apart := false }
def CastIdsSaid : Prop := castIdsRow.holds Try.pinned (OpenSpec.ofChange castIdsSpec)

/-- ITS FALSE NEIGHBOUR: 'it returns false'. Refute it at one input. -/
def castIdsWrong : ChangeSpec := { name := "castIds", fn := fun _ => fun
  | [d1, d2] => { results := [.lit (.bool false)], args := [d1, d2] }
  | _ => none }
def CastIdsWrongFalsely : Prop := castIdsRow.holds Try.pinned (OpenSpec.ofChange castIdsWrong)

/-- 'timeballlaw18.CastMoved': WHATEVER THE INPUT: true; the input reads as it did. -/
def castMovedSpec : ChangeSpec := { name := "castMoved", fn := fun _ => fun
  | [d1, d2, d3, d4] => { results := [.lit (.bool true)], args := [d1, d2, d3, d4] }
  | _ => none }
def castMovedRow : OpenClaim := { program := "ytamfmlaipbdpgaa", sum := "833866a96158fdc024eb76f4f667e80fef70e78745feaf21ae7808359ea12a05", func := "timeball/timeballlaw18.CastMoved", spec := "castMoved", unfollowed := true, recurses := true, apart := false }
def CastMovedSaid : Prop := castMovedRow.holds Try.pinned (OpenSpec.ofChange castMovedSpec)

/-- ITS FALSE NEIGHBOUR: 'it returns false'. Refute it at one input. -/
def castMovedWrong : ChangeSpec := { name := "castMoved", fn := fun _ => fun
  | [d1, d2, d3, d4] => { results := [.lit (.bool false)], args := [d1, d2, d3, d4] }
  | _ => none }
def CastMovedWrongFalsely : Prop := castMovedRow.holds Try.pinned (OpenSpec.ofChange castMovedWrong)

/- THE SECOND FORM. 'bulk': how many values and letters a reading holds, each counted each time it is reached (what is shared counts as often as it is met; a slice's spare places count too). A statement '..UptoSaid' is the law's where the arguments, and the package variables that the reading takes, are together of bulk at most 1048576: NARROWER than '..Said'. Prove '..Said' where nothing that the law and all that it calls make is longer than what came in: it says more and counts as full. Else prove '..UptoSaid'. A law counts once. -/
mutual
def uptoBulk {H : Type} : DataW H → Nat
  | .lit (.string bytes) => bytes.length + 1
  | .lit _ => 1
  | .nil => 1
  | .ptr d => uptoBulk d + 1
  | .slice elems spare => uptoBulkAll elems + uptoBulkAll spare + 1
  | .agg parts => uptoBulkAll parts + 1
  | .iface _ d => uptoBulk d + 1
  | .map entries => uptoBulkEntries entries + 1
  | .held _ => 1
def uptoBulkAll {H : Type} : List (DataW H) → Nat
  | [] => 0
  | d :: r => uptoBulk d + uptoBulkAll r
def uptoBulkEntries {H : Type} : List (Lit × DataW H) → Nat
  | [] => 0
  | x :: r => uptoBulkEntry x + uptoBulkEntries r
def uptoBulkEntry {H : Type} : Lit × DataW H → Nat
  | (.string bytes, d) => bytes.length + uptoBulk d + 1
  | (_, d) => uptoBulk d + 1
 end
def uptoSmall : (H : Type) → List (DataW H) → Bool := fun _ ds => decide (uptoBulkAll ds ≤ 1048576)
def OpenSpec.upto (s : _root_.Go.ChangeSpec) : _root_.Go.OpenSpec := { _root_.Go.OpenSpec.ofChange s with cond := some uptoSmall }

/-- 'timeballlaw18.CastDoes', WHERE WHAT IT READS IS OF BULK AT MOST 1048576: true; the input reads as it did. -/
def castDoesUptoRow : OpenClaim := { program := "ytamfmlaipbdpgaa", sum := "833866a96158fdc024eb76f4f667e80fef70e78745feaf21ae7808359ea12a05", func := "timeball/timeballlaw18.CastDoes", spec := "castDoes", unfollowed := true, recurses := true, apart := false, narrowed := true }
def CastDoesUptoSaid : Prop := castDoesUptoRow.holds Try.pinned (OpenSpec.upto castDoesSpec)

/-- 'timeballlaw18.CastGrows', WHERE WHAT IT READS IS OF BULK AT MOST 1048576: true; the input reads as it did. -/
def castGrowsUptoRow : OpenClaim := { program := "ytamfmlaipbdpgaa", sum := "833866a96158fdc024eb76f4f667e80fef70e78745feaf21ae7808359ea12a05", func := "timeball/timeballlaw18.CastGrows", spec := "castGrows", unfollowed := true, recurses := true, apart := false, narrowed := true }
def CastGrowsUptoSaid : Prop := castGrowsUptoRow.holds Try.pinned (OpenSpec.upto castGrowsSpec)

/-- 'timeballlaw18.CastQuota', WHERE WHAT IT READS IS OF BULK AT MOST 1048576: true; the input reads as it did. -/
def castQuotaUptoRow : OpenClaim := { program := "ytamfmlaipbdpgaa", sum := "833866a96158fdc024eb76f4f667e80fef70e78745feaf21ae7808359ea12a05", func := "timeball/timeballlaw18.CastQuota", spec := "castQuota", unfollowed := true, recurses := true, apart := false, narrowed := true }
def CastQuotaUptoSaid : Prop := castQuotaUptoRow.holds Try.pinned (OpenSpec.upto castQuotaSpec)

/-- 'timeballlaw18.CastWaits', WHERE WHAT IT READS IS OF BULK AT MOST 1048576: true; the input reads as it did. -/
def castWaitsUptoRow : OpenClaim := { program := "ytamfmlaipbdpgaa", sum := "833866a96158fdc024eb76f4f667e80fef70e78745feaf21ae7808359ea12a05", func := "timeball/timeballlaw18.CastWaits", spec := "castWaits", unfollowed := true, recurses := true, apart := false, narrowed := true }
def CastWaitsUptoSaid : Prop := castWaitsUptoRow.holds Try.pinned (OpenSpec.upto castWaitsSpec)

/-- 'timeballlaw18.CastIds', WHERE WHAT IT READS IS OF BULK AT MOST 1048576: true; the input reads as it did. -/
def castIdsUptoRow : OpenClaim := { program := "ytamfmlaipbdpgaa", sum := "833866a96158fdc024eb76f4f667e80fef70e78745feaf21ae7808359ea12a05", func := "timeball/timeballlaw18.CastIds", spec := "castIds", unfollowed := true, recurses := true, apart := false, narrowed := true }
def CastIdsUptoSaid : Prop := castIdsUptoRow.holds Try.pinned (OpenSpec.upto castIdsSpec)

/-- 'timeballlaw18.CastMoved', WHERE WHAT IT READS IS OF BULK AT MOST 1048576: true; the input reads as it did. -/
def castMovedUptoRow : OpenClaim := { program := "ytamfmlaipbdpgaa", sum := "833866a96158fdc024eb76f4f667e80fef70e78745feaf21ae7808359ea12a05", func := "timeball/timeballlaw18.CastMoved", spec := "castMoved", unfollowed := true, recurses := true, apart := false, narrowed := true }
def CastMovedUptoSaid : Prop := castMovedUptoRow.holds Try.pinned (OpenSpec.upto castMovedSpec)

end Rows
end Go.Proofs.Ytamfmlaipbdpgaa
