/-
  No cell of these rows narrows 'for every input' (looked for: loops, veiled, ifaces, maps, wideKeys, modest, calm, conditions, laid).
  DERIVED. THE GIVEN ROWS OF THIS SEAT. 6 by the template 'for every input the law returns true; each argument reads behind the call as it read before'; 0 by the template 'total and deterministic' (their statements: YtfdociljddgnhaaTotals.lean).
  GIVEN WITH THE SEED: the statements are not yours to turn. If you find one false, say at which input.
  Laid BY PROGRAM, IN A SANDBOX (cutbox-rows.mjs): the forced cells as the released guide's own fill.sh prints them over the translation 1771373e90b70b1c… (all of the seat's roots in one cut). By AI agents, Wed Nov 11 2026. No macro, syntax, notation, axiom, sorry.
-/
import Derived.Test.YtfdociljddgnhaaChecked
import GoSem.Claim
import GoSem.ClaimJoined
import GoSem.ClaimMapViews
import Derived.JoinedTies
import Derived.KernelRfl
namespace Go.Proofs.Ytfdociljddgnhaa
/- THE CELL 'sum', in the pinned program and in every row, IS THE sha256 OF THE DUMP (.gsa) THAT YtfdociljddgnhaaProg.lean LOADS. Nothing in Lean hashes anything: it is a label: what it is worth is what the hold of that sum in a sandbox is worth. -/
noncomputable def Try.pinned : Pinned := { name := "ytfdociljddgnhaa", sum := "1771373e90b70b1ce7c266430a99c7ab951d62844a2458d8fe13d8932e53a5be", checked := Try.checked }
namespace Rows
def none {H : Type} : Left H := { results := [], args := [] }

/-- 'timeballlaw17.DiscSlews': WHATEVER THE INPUT: true; the input reads as it did. -/
def discSlewsSpec : ChangeSpec := { name := "discSlews", fn := fun _ => fun
  | [d1, d2] => { results := [.lit (.bool true)], args := [d1, d2] }
  | _ => none }
def discSlewsRow : OpenClaim := { program := "ytfdociljddgnhaa", sum := "1771373e90b70b1ce7c266430a99c7ab951d62844a2458d8fe13d8932e53a5be", func := "timeball/timeballlaw17.DiscSlews", spec := "discSlews", apart := false }
def DiscSlewsSaid : Prop := discSlewsRow.holds Try.pinned (OpenSpec.ofChange discSlewsSpec)

/-- ITS FALSE NEIGHBOUR: 'it returns false'. Refute it at one input. -/
def discSlewsWrong : ChangeSpec := { name := "discSlews", fn := fun _ => fun
  | [d1, d2] => { results := [.lit (.bool false)], args := [d1, d2] }
  | _ => none }
def DiscSlewsWrongFalsely : Prop := discSlewsRow.holds Try.pinned (OpenSpec.ofChange discSlewsWrong)

/-- 'timeballlaw17.DiscGrows': WHATEVER THE INPUT: true; the input reads as it did. -/
def discGrowsSpec : ChangeSpec := { name := "discGrows", fn := fun _ => fun
  | [d1, d2, d3, d4] => { results := [.lit (.bool true)], args := [d1, d2, d3, d4] }
  | _ => none }
def discGrowsRow : OpenClaim := { program := "ytfdociljddgnhaa", sum := "1771373e90b70b1ce7c266430a99c7ab951d62844a2458d8fe13d8932e53a5be", func := "timeball/timeballlaw17.DiscGrows", spec := "discGrows", apart := false }
def DiscGrowsSaid : Prop := discGrowsRow.holds Try.pinned (OpenSpec.ofChange discGrowsSpec)

/-- ITS FALSE NEIGHBOUR: 'it returns false'. Refute it at one input. -/
def discGrowsWrong : ChangeSpec := { name := "discGrows", fn := fun _ => fun
  | [d1, d2, d3, d4] => { results := [.lit (.bool false)], args := [d1, d2, d3, d4] }
  | _ => none }
def DiscGrowsWrongFalsely : Prop := discGrowsRow.holds Try.pinned (OpenSpec.ofChange discGrowsWrong)

/-- 'timeballlaw17.DiscRestarts': WHATEVER THE INPUT: true; the input reads as it did. -/
def discRestartsSpec : ChangeSpec := { name := "discRestarts", fn := fun _ => fun
  | [d1, d2, d3] => { results := [.lit (.bool true)], args := [d1, d2, d3] }
  | _ => none }
def discRestartsRow : OpenClaim := { program := "ytfdociljddgnhaa", sum := "1771373e90b70b1ce7c266430a99c7ab951d62844a2458d8fe13d8932e53a5be", func := "timeball/timeballlaw17.DiscRestarts", spec := "discRestarts", apart := false }
def DiscRestartsSaid : Prop := discRestartsRow.holds Try.pinned (OpenSpec.ofChange discRestartsSpec)

/-- ITS FALSE NEIGHBOUR: 'it returns false'. Refute it at one input. -/
def discRestartsWrong : ChangeSpec := { name := "discRestarts", fn := fun _ => fun
  | [d1, d2, d3] => { results := [.lit (.bool false)], args := [d1, d2, d3] }
  | _ => none }
def DiscRestartsWrongFalsely : Prop := discRestartsRow.holds Try.pinned (OpenSpec.ofChange discRestartsWrong)

/-- 'timeballlaw17.DiscPanics': WHATEVER THE INPUT: true; the input reads as it did. -/
def discPanicsSpec : ChangeSpec := { name := "discPanics", fn := fun _ => fun
  | [d1, d2, d3] => { results := [.lit (.bool true)], args := [d1, d2, d3] }
  | _ => none }
def discPanicsRow : OpenClaim := { program := "ytfdociljddgnhaa", sum := "1771373e90b70b1ce7c266430a99c7ab951d62844a2458d8fe13d8932e53a5be", func := "timeball/timeballlaw17.DiscPanics", spec := "discPanics", apart := false }
def DiscPanicsSaid : Prop := discPanicsRow.holds Try.pinned (OpenSpec.ofChange discPanicsSpec)

/-- ITS FALSE NEIGHBOUR: 'it returns false'. Refute it at one input. -/
def discPanicsWrong : ChangeSpec := { name := "discPanics", fn := fun _ => fun
  | [d1, d2, d3] => { results := [.lit (.bool false)], args := [d1, d2, d3] }
  | _ => none }
def DiscPanicsWrongFalsely : Prop := discPanicsRow.holds Try.pinned (OpenSpec.ofChange discPanicsWrong)

/-- 'timeballlaw17.DiscSides': WHATEVER THE INPUT: true; the input reads as it did. -/
def discSidesSpec : ChangeSpec := { name := "discSides", fn := fun _ => fun
  | [d1, d2] => { results := [.lit (.bool true)], args := [d1, d2] }
  | _ => none }
def discSidesRow : OpenClaim := { program := "ytfdociljddgnhaa", sum := "1771373e90b70b1ce7c266430a99c7ab951d62844a2458d8fe13d8932e53a5be", func := "timeball/timeballlaw17.DiscSides", spec := "discSides", apart := false }
def DiscSidesSaid : Prop := discSidesRow.holds Try.pinned (OpenSpec.ofChange discSidesSpec)

/-- ITS FALSE NEIGHBOUR: 'it returns false'. Refute it at one input. -/
def discSidesWrong : ChangeSpec := { name := "discSides", fn := fun _ => fun
  | [d1, d2] => { results := [.lit (.bool false)], args := [d1, d2] }
  | _ => none }
def DiscSidesWrongFalsely : Prop := discSidesRow.holds Try.pinned (OpenSpec.ofChange discSidesWrong)

/-- 'timeballlaw17.DiscRefuses': WHATEVER THE INPUT: true; the input reads as it did. -/
def discRefusesSpec : ChangeSpec := { name := "discRefuses", fn := fun _ => fun
  | [d1, d2] => { results := [.lit (.bool true)], args := [d1, d2] }
  | _ => none }
def discRefusesRow : OpenClaim := { program := "ytfdociljddgnhaa", sum := "1771373e90b70b1ce7c266430a99c7ab951d62844a2458d8fe13d8932e53a5be", func := "timeball/timeballlaw17.DiscRefuses", spec := "discRefuses", apart := false }
def DiscRefusesSaid : Prop := discRefusesRow.holds Try.pinned (OpenSpec.ofChange discRefusesSpec)

/-- ITS FALSE NEIGHBOUR: 'it returns false'. Refute it at one input. -/
def discRefusesWrong : ChangeSpec := { name := "discRefuses", fn := fun _ => fun
  | [d1, d2] => { results := [.lit (.bool false)], args := [d1, d2] }
  | _ => none }
def DiscRefusesWrongFalsely : Prop := discRefusesRow.holds Try.pinned (OpenSpec.ofChange discRefusesWrong)

/- THE SECOND FORM. 'bulk': how many values and letters a reading holds, each counted each time it is reached (what is shared counts as often as it is met; a slice's spare places count too). A statement '..UptoSaid' is the law's where the arguments, and the package variables that the reading takes, are together of bulk at most 1048576: NARROWER than '..Said'. Prove '..Said' where nothing that the law and all that it calls make is longer than what came in: it says more and counts as full. Else prove '..UptoSaid'. A law counts once. -/
mutual
def uptoBulk {H : Type} : DataW H → Nat
  | .lit (.string bytes) => bytes.length + 1
  | .lit _ => 1
  | .nil => 1
  | .ptr d => uptoBulk d + 1
  | .slice elems spare => uptoBulkAll elems + uptoBulkAll spare + 1
  | .agg parts => uptoBulkAll parts + 1
  | .iface _ d => uptoBulk d + 1
  | .map entries => uptoBulkEntries entries + 1
  | .held _ => 1
def uptoBulkAll {H : Type} : List (DataW H) → Nat
  | [] => 0
  | d :: r => uptoBulk d + uptoBulkAll r
def uptoBulkEntries {H : Type} : List (Lit × DataW H) → Nat
  | [] => 0
  | x :: r => uptoBulkEntry x + uptoBulkEntries r
def uptoBulkEntry {H : Type} : Lit × DataW H → Nat
  | (.string bytes, d) => bytes.length + uptoBulk d + 1
  | (_, d) => uptoBulk d + 1
 end
def uptoSmall : (H : Type) → List (DataW H) → Bool := fun _ ds => decide (uptoBulkAll ds ≤ 1048576)
def OpenSpec.upto (s : _root_.Go.ChangeSpec) : _root_.Go.OpenSpec := { _root_.Go.OpenSpec.ofChange s with cond := some uptoSmall }

/-- 'timeballlaw17.DiscSlews', WHERE WHAT IT READS IS OF BULK AT MOST 1048576: true; the input reads as it did. -/
def discSlewsUptoRow : OpenClaim := { program := "ytfdociljddgnhaa", sum := "1771373e90b70b1ce7c266430a99c7ab951d62844a2458d8fe13d8932e53a5be", func := "timeball/timeballlaw17.DiscSlews", spec := "discSlews", apart := false, narrowed := true }
def DiscSlewsUptoSaid : Prop := discSlewsUptoRow.holds Try.pinned (OpenSpec.upto discSlewsSpec)

/-- 'timeballlaw17.DiscGrows', WHERE WHAT IT READS IS OF BULK AT MOST 1048576: true; the input reads as it did. -/
def discGrowsUptoRow : OpenClaim := { program := "ytfdociljddgnhaa", sum := "1771373e90b70b1ce7c266430a99c7ab951d62844a2458d8fe13d8932e53a5be", func := "timeball/timeballlaw17.DiscGrows", spec := "discGrows", apart := false, narrowed := true }
def DiscGrowsUptoSaid : Prop := discGrowsUptoRow.holds Try.pinned (OpenSpec.upto discGrowsSpec)

/-- 'timeballlaw17.DiscRestarts', WHERE WHAT IT READS IS OF BULK AT MOST 1048576: true; the input reads as it did. -/
def discRestartsUptoRow : OpenClaim := { program := "ytfdociljddgnhaa", sum := "1771373e90b70b1ce7c266430a99c7ab951d62844a2458d8fe13d8932e53a5be", func := "timeball/timeballlaw17.DiscRestarts", spec := "discRestarts", apart := false, narrowed := true }
def DiscRestartsUptoSaid : Prop := discRestartsUptoRow.holds Try.pinned (OpenSpec.upto discRestartsSpec)

/-- 'timeballlaw17.DiscPanics', WHERE WHAT IT READS IS OF BULK AT MOST 1048576: true; the input reads as it did. -/
def discPanicsUptoRow : OpenClaim := { program := "ytfdociljddgnhaa", sum := "1771373e90b70b1ce7c266430a99c7ab951d62844a2458d8fe13d8932e53a5be", func := "timeball/timeballlaw17.DiscPanics", spec := "discPanics", apart := false, narrowed := true }
def DiscPanicsUptoSaid : Prop := discPanicsUptoRow.holds Try.pinned (OpenSpec.upto discPanicsSpec)

/-- 'timeballlaw17.DiscSides', WHERE WHAT IT READS IS OF BULK AT MOST 1048576: true; the input reads as it did. -/
def discSidesUptoRow : OpenClaim := { program := "ytfdociljddgnhaa", sum := "1771373e90b70b1ce7c266430a99c7ab951d62844a2458d8fe13d8932e53a5be", func := "timeball/timeballlaw17.DiscSides", spec := "discSides", apart := false, narrowed := true }
def DiscSidesUptoSaid : Prop := discSidesUptoRow.holds Try.pinned (OpenSpec.upto discSidesSpec)

/-- 'timeballlaw17.DiscRefuses', WHERE WHAT IT READS IS OF BULK AT MOST 1048576: true; the input reads as it did. -/
def discRefusesUptoRow : OpenClaim := { program := "ytfdociljddgnhaa", sum := "1771373e90b70b1ce7c266430a99c7ab951d62844a2458d8fe13d8932e53a5be", func := "timeball/timeballlaw17.DiscRefuses", spec := "discRefuses", apart := false, narrowed := true }
def DiscRefusesUptoSaid : Prop := discRefusesUptoRow.holds Try.pinned (OpenSpec.upto discRefusesSpec)

end Rows
end Go.Proofs.Ytfdociljddgnhaa
