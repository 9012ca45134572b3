/-
  No cell of these rows narrows 'for every input' (looked for: loops, veiled, ifaces, maps, wideKeys, modest, calm, conditions, laid).
  DERIVED. THE GIVEN ROWS OF THIS SEAT. 4 by the template 'for every input the law returns true; each argument reads behind the call as it read before'; 0 by the template 'total and deterministic' (their statements: YtnljoapmieepeaaTotals.lean).
  GIVEN WITH THE SEED: the statements are not yours to turn. If you find one false, say at which input.
  Laid BY PROGRAM, IN A SANDBOX (cutbox-rows.mjs): the forced cells as the released guide's own fill.sh prints them over the translation dad449bd4b51bd41… (all of the seat's roots in one cut). By AI agents, Wed Nov 11 2026. No macro, syntax, notation, axiom, sorry.
-/
import Derived.Test.YtnljoapmieepeaaChecked
import GoSem.Claim
import GoSem.ClaimJoined
import GoSem.ClaimMapViews
import Derived.JoinedTies
import Derived.KernelRfl
namespace Go.Proofs.Ytnljoapmieepeaa
/- THE CELL 'sum', in the pinned program and in every row, IS THE sha256 OF THE DUMP (.gsa) THAT YtnljoapmieepeaaProg.lean LOADS. Nothing in Lean hashes anything: it is a label: what it is worth is what the hold of that sum in a sandbox is worth. -/
noncomputable def Try.pinned : Pinned := { name := "ytnljoapmieepeaa", sum := "dad449bd4b51bd410431693b3a2ce558fc7cb1d43b1e72c169df38c501c7cc9a", checked := Try.checked }
namespace Rows
def none {H : Type} : Left H := { results := [], args := [] }

/-- 'timeballlaw16.CutMiddles': WHATEVER THE INPUT: true; the input reads as it did. -/
def cutMiddlesSpec : ChangeSpec := { name := "cutMiddles", fn := fun _ => fun
  | [d1, d2] => { results := [.lit (.bool true)], args := [d1, d2] }
  | _ => none }
def cutMiddlesRow : OpenClaim := { program := "ytnljoapmieepeaa", sum := "dad449bd4b51bd410431693b3a2ce558fc7cb1d43b1e72c169df38c501c7cc9a", func := "timeball/timeballlaw16.CutMiddles", spec := "cutMiddles", unfollowed := true, recurses := true, apart := false }
def CutMiddlesSaid : Prop := cutMiddlesRow.holds Try.pinned (OpenSpec.ofChange cutMiddlesSpec)

/-- ITS FALSE NEIGHBOUR: 'it returns false'. Refute it at one input. -/
def cutMiddlesWrong : ChangeSpec := { name := "cutMiddles", fn := fun _ => fun
  | [d1, d2] => { results := [.lit (.bool false)], args := [d1, d2] }
  | _ => none }
def CutMiddlesWrongFalsely : Prop := cutMiddlesRow.holds Try.pinned (OpenSpec.ofChange cutMiddlesWrong)

/-- 'timeballlaw16.CutRight': WHATEVER THE INPUT: true; the input reads as it did. -/
def cutRightSpec : ChangeSpec := { name := "cutRight", fn := fun _ => fun
  | [d1, d2, d3] => { results := [.lit (.bool true)], args := [d1, d2, d3] }
  | _ => none }
def cutRightRow : OpenClaim := { program := "ytnljoapmieepeaa", sum := "dad449bd4b51bd410431693b3a2ce558fc7cb1d43b1e72c169df38c501c7cc9a", func := "timeball/timeballlaw16.CutRight", spec := "cutRight", unfollowed := true, recurses := true, apart := false }
def CutRightSaid : Prop := cutRightRow.holds Try.pinned (OpenSpec.ofChange cutRightSpec)

/-- ITS FALSE NEIGHBOUR: 'it returns false'. Refute it at one input. -/
def cutRightWrong : ChangeSpec := { name := "cutRight", fn := fun _ => fun
  | [d1, d2, d3] => { results := [.lit (.bool false)], args := [d1, d2, d3] }
  | _ => none }
def CutRightWrongFalsely : Prop := cutRightRow.holds Try.pinned (OpenSpec.ofChange cutRightWrong)

/-- 'timeballlaw16.CutMany': WHATEVER THE INPUT: true; the input reads as it did. -/
def cutManySpec : ChangeSpec := { name := "cutMany", fn := fun _ => fun
  | [d] => { results := [.lit (.bool true)], args := [d] }
  | _ => none }
def cutManyRow : OpenClaim := { program := "ytnljoapmieepeaa", sum := "dad449bd4b51bd410431693b3a2ce558fc7cb1d43b1e72c169df38c501c7cc9a", func := "timeball/timeballlaw16.CutMany", spec := "cutMany", unfollowed := true, recurses := true, apart := false }
def CutManySaid : Prop := cutManyRow.holds Try.pinned (OpenSpec.ofChange cutManySpec)

/-- ITS FALSE NEIGHBOUR: 'it returns false'. Refute it at one input. -/
def cutManyWrong : ChangeSpec := { name := "cutMany", fn := fun _ => fun
  | [d] => { results := [.lit (.bool false)], args := [d] }
  | _ => none }
def CutManyWrongFalsely : Prop := cutManyRow.holds Try.pinned (OpenSpec.ofChange cutManyWrong)

/-- 'timeballlaw16.CutSame': WHATEVER THE INPUT: true; the input reads as it did. -/
def cutSameSpec : ChangeSpec := { name := "cutSame", fn := fun _ => fun
  | [d1, d2, d3] => { results := [.lit (.bool true)], args := [d1, d2, d3] }
  | _ => none }
def cutSameRow : OpenClaim := { program := "ytnljoapmieepeaa", sum := "dad449bd4b51bd410431693b3a2ce558fc7cb1d43b1e72c169df38c501c7cc9a", func := "timeball/timeballlaw16.CutSame", spec := "cutSame", unfollowed := true, recurses := true, apart := false }
def CutSameSaid : Prop := cutSameRow.holds Try.pinned (OpenSpec.ofChange cutSameSpec)

/-- ITS FALSE NEIGHBOUR: 'it returns false'. Refute it at one input. -/
def cutSameWrong : ChangeSpec := { name := "cutSame", fn := fun _ => fun
  | [d1, d2, d3] => { results := [.lit (.bool false)], args := [d1, d2, d3] }
  | _ => none }
def CutSameWrongFalsely : Prop := cutSameRow.holds Try.pinned (OpenSpec.ofChange cutSameWrong)

/- THE SECOND FORM. 'bulk': how many values and letters a reading holds, each counted each time it is reached (what is shared counts as often as it is met; a slice's spare places count too). A statement '..UptoSaid' is the law's where the arguments, and the package variables that the reading takes, are together of bulk at most 1048576: NARROWER than '..Said'. Prove '..Said' where nothing that the law and all that it calls make is longer than what came in: it says more and counts as full. Else prove '..UptoSaid'. A law counts once. -/
mutual
def uptoBulk {H : Type} : DataW H → Nat
  | .lit (.string bytes) => bytes.length + 1
  | .lit _ => 1
  | .nil => 1
  | .ptr d => uptoBulk d + 1
  | .slice elems spare => uptoBulkAll elems + uptoBulkAll spare + 1
  | .agg parts => uptoBulkAll parts + 1
  | .iface _ d => uptoBulk d + 1
  | .map entries => uptoBulkEntries entries + 1
  | .held _ => 1
def uptoBulkAll {H : Type} : List (DataW H) → Nat
  | [] => 0
  | d :: r => uptoBulk d + uptoBulkAll r
def uptoBulkEntries {H : Type} : List (Lit × DataW H) → Nat
  | [] => 0
  | x :: r => uptoBulkEntry x + uptoBulkEntries r
def uptoBulkEntry {H : Type} : Lit × DataW H → Nat
  | (.string bytes, d) => bytes.length + uptoBulk d + 1
  | (_, d) => uptoBulk d + 1
 end
def uptoSmall : (H : Type) → List (DataW H) → Bool := fun _ ds => decide (uptoBulkAll ds ≤ 1048576)
def OpenSpec.upto (s : _root_.Go.ChangeSpec) : _root_.Go.OpenSpec := { _root_.Go.OpenSpec.ofChange s with cond := some uptoSmall }

/-- 'timeballlaw16.CutMiddles', WHERE WHAT IT READS IS OF BULK AT MOST 1048576: true; the input reads as it did. -/
def cutMiddlesUptoRow : OpenClaim := { program := "ytnljoapmieepeaa", sum := "dad449bd4b51bd410431693b3a2ce558fc7cb1d43b1e72c169df38c501c7cc9a", func := "timeball/timeballlaw16.CutMiddles", spec := "cutMiddles", unfollowed := true, recurses := true, apart := false, narrowed := true }
def CutMiddlesUptoSaid : Prop := cutMiddlesUptoRow.holds Try.pinned (OpenSpec.upto cutMiddlesSpec)

/-- 'timeballlaw16.CutRight', WHERE WHAT IT READS IS OF BULK AT MOST 1048576: true; the input reads as it did. -/
def cutRightUptoRow : OpenClaim := { program := "ytnljoapmieepeaa", sum := "dad449bd4b51bd410431693b3a2ce558fc7cb1d43b1e72c169df38c501c7cc9a", func := "timeball/timeballlaw16.CutRight", spec := "cutRight", unfollowed := true, recurses := true, apart := false, narrowed := true }
def CutRightUptoSaid : Prop := cutRightUptoRow.holds Try.pinned (OpenSpec.upto cutRightSpec)

/-- 'timeballlaw16.CutMany', WHERE WHAT IT READS IS OF BULK AT MOST 1048576: true; the input reads as it did. -/
def cutManyUptoRow : OpenClaim := { program := "ytnljoapmieepeaa", sum := "dad449bd4b51bd410431693b3a2ce558fc7cb1d43b1e72c169df38c501c7cc9a", func := "timeball/timeballlaw16.CutMany", spec := "cutMany", unfollowed := true, recurses := true, apart := false, narrowed := true }
def CutManyUptoSaid : Prop := cutManyUptoRow.holds Try.pinned (OpenSpec.upto cutManySpec)

/-- 'timeballlaw16.CutSame', WHERE WHAT IT READS IS OF BULK AT MOST 1048576: true; the input reads as it did. -/
def cutSameUptoRow : OpenClaim := { program := "ytnljoapmieepeaa", sum := "dad449bd4b51bd410431693b3a2ce558fc7cb1d43b1e72c169df38c501c7cc9a", func := "timeball/timeballlaw16.CutSame", spec := "cutSame", unfollowed := true, recurses := true, apart := false, narrowed := true }
def CutSameUptoSaid : Prop := cutSameUptoRow.holds Try.pinned (OpenSpec.upto cutSameSpec)

end Rows
end Go.Proofs.Ytnljoapmieepeaa
