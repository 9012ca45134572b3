/-
  No cell of these rows narrows 'for every input' (looked for: loops, veiled, ifaces, maps, wideKeys, modest, calm, conditions, laid).
  DERIVED. THE GIVEN ROWS OF THIS SEAT. 8 by the template 'for every input the law returns true; each argument reads behind the call as it read before'; 0 by the template 'total and deterministic' (their statements: YtjeeinjcebcngaaTotals.lean).
  GIVEN WITH THE SEED: the statements are not yours to turn. If you find one false, say at which input.
  Laid BY PROGRAM, IN A SANDBOX (cutbox-rows.mjs): the forced cells as the released guide's own fill.sh prints them over the translation a22d94c079f94bc1… (all of the seat's roots in one cut). By AI agents, Wed Nov 11 2026. No macro, syntax, notation, axiom, sorry.
-/
import Derived.Test.YtjeeinjcebcngaaChecked
import GoSem.Claim
import GoSem.ClaimJoined
import GoSem.ClaimMapViews
import Derived.JoinedTies
import Derived.KernelRfl
namespace Go.Proofs.Ytjeeinjcebcngaa
/- THE CELL 'sum', in the pinned program and in every row, IS THE sha256 OF THE DUMP (.gsa) THAT YtjeeinjcebcngaaProg.lean LOADS. Nothing in Lean hashes anything: it is a label: what it is worth is what the hold of that sum in a sandbox is worth. -/
noncomputable def Try.pinned : Pinned := { name := "ytjeeinjcebcngaa", sum := "a22d94c079f94bc149b17a5ac69313e86c19d22a33ebb3e8a13627edb5f6c876", checked := Try.checked }
namespace Rows
def none {H : Type} : Left H := { results := [], args := [] }

/-- 'timeballlaw04.WideAdds': WHATEVER THE INPUT: true; the input reads as it did. -/
def wideAddsSpec : ChangeSpec := { name := "wideAdds", fn := fun _ => fun
  | [d1, d2] => { results := [.lit (.bool true)], args := [d1, d2] }
  | _ => none }
def wideAddsRow : OpenClaim := { program := "ytjeeinjcebcngaa", sum := "a22d94c079f94bc149b17a5ac69313e86c19d22a33ebb3e8a13627edb5f6c876", func := "timeball/timeballlaw04.WideAdds", spec := "wideAdds", apart := false }
def WideAddsSaid : Prop := wideAddsRow.holds Try.pinned (OpenSpec.ofChange wideAddsSpec)

/-- ITS FALSE NEIGHBOUR: 'it returns false'. Refute it at one input. -/
def wideAddsWrong : ChangeSpec := { name := "wideAdds", fn := fun _ => fun
  | [d1, d2] => { results := [.lit (.bool false)], args := [d1, d2] }
  | _ => none }
def WideAddsWrongFalsely : Prop := wideAddsRow.holds Try.pinned (OpenSpec.ofChange wideAddsWrong)

/-- 'timeballlaw04.WideTimes': WHATEVER THE INPUT: true; the input reads as it did. -/
def wideTimesSpec : ChangeSpec := { name := "wideTimes", fn := fun _ => fun
  | [d1, d2, d3] => { results := [.lit (.bool true)], args := [d1, d2, d3] }
  | _ => none }
def wideTimesRow : OpenClaim := { program := "ytjeeinjcebcngaa", sum := "a22d94c079f94bc149b17a5ac69313e86c19d22a33ebb3e8a13627edb5f6c876", func := "timeball/timeballlaw04.WideTimes", spec := "wideTimes", apart := false }
def WideTimesSaid : Prop := wideTimesRow.holds Try.pinned (OpenSpec.ofChange wideTimesSpec)

/-- ITS FALSE NEIGHBOUR: 'it returns false'. Refute it at one input. -/
def wideTimesWrong : ChangeSpec := { name := "wideTimes", fn := fun _ => fun
  | [d1, d2, d3] => { results := [.lit (.bool false)], args := [d1, d2, d3] }
  | _ => none }
def WideTimesWrongFalsely : Prop := wideTimesRow.holds Try.pinned (OpenSpec.ofChange wideTimesWrong)

/-- 'timeballlaw04.WideParts': WHATEVER THE INPUT: true; the input reads as it did. -/
def widePartsSpec : ChangeSpec := { name := "wideParts", fn := fun _ => fun
  | [d1, d2] => { results := [.lit (.bool true)], args := [d1, d2] }
  | _ => none }
def widePartsRow : OpenClaim := { program := "ytjeeinjcebcngaa", sum := "a22d94c079f94bc149b17a5ac69313e86c19d22a33ebb3e8a13627edb5f6c876", func := "timeball/timeballlaw04.WideParts", spec := "wideParts", apart := false }
def WidePartsSaid : Prop := widePartsRow.holds Try.pinned (OpenSpec.ofChange widePartsSpec)

/-- ITS FALSE NEIGHBOUR: 'it returns false'. Refute it at one input. -/
def widePartsWrong : ChangeSpec := { name := "wideParts", fn := fun _ => fun
  | [d1, d2] => { results := [.lit (.bool false)], args := [d1, d2] }
  | _ => none }
def WidePartsWrongFalsely : Prop := widePartsRow.holds Try.pinned (OpenSpec.ofChange widePartsWrong)

/-- 'timeballlaw04.WideTurned': WHATEVER THE INPUT: true; the input reads as it did. -/
def wideTurnedSpec : ChangeSpec := { name := "wideTurned", fn := fun _ => fun
  | [d1, d2] => { results := [.lit (.bool true)], args := [d1, d2] }
  | _ => none }
def wideTurnedRow : OpenClaim := { program := "ytjeeinjcebcngaa", sum := "a22d94c079f94bc149b17a5ac69313e86c19d22a33ebb3e8a13627edb5f6c876", func := "timeball/timeballlaw04.WideTurned", spec := "wideTurned", apart := false }
def WideTurnedSaid : Prop := wideTurnedRow.holds Try.pinned (OpenSpec.ofChange wideTurnedSpec)

/-- ITS FALSE NEIGHBOUR: 'it returns false'. Refute it at one input. -/
def wideTurnedWrong : ChangeSpec := { name := "wideTurned", fn := fun _ => fun
  | [d1, d2] => { results := [.lit (.bool false)], args := [d1, d2] }
  | _ => none }
def WideTurnedWrongFalsely : Prop := wideTurnedRow.holds Try.pinned (OpenSpec.ofChange wideTurnedWrong)

/-- 'timeballlaw04.WideBack': WHATEVER THE INPUT: true; the input reads as it did. -/
def wideBackSpec : ChangeSpec := { name := "wideBack", fn := fun _ => fun
  | [d1, d2, d3] => { results := [.lit (.bool true)], args := [d1, d2, d3] }
  | _ => none }
def wideBackRow : OpenClaim := { program := "ytjeeinjcebcngaa", sum := "a22d94c079f94bc149b17a5ac69313e86c19d22a33ebb3e8a13627edb5f6c876", func := "timeball/timeballlaw04.WideBack", spec := "wideBack", apart := false }
def WideBackSaid : Prop := wideBackRow.holds Try.pinned (OpenSpec.ofChange wideBackSpec)

/-- ITS FALSE NEIGHBOUR: 'it returns false'. Refute it at one input. -/
def wideBackWrong : ChangeSpec := { name := "wideBack", fn := fun _ => fun
  | [d1, d2, d3] => { results := [.lit (.bool false)], args := [d1, d2, d3] }
  | _ => none }
def WideBackWrongFalsely : Prop := wideBackRow.holds Try.pinned (OpenSpec.ofChange wideBackWrong)

/-- 'timeballlaw04.WideOrder': WHATEVER THE INPUT: true; the input reads as it did. -/
def wideOrderSpec : ChangeSpec := { name := "wideOrder", fn := fun _ => fun
  | [d1, d2, d3] => { results := [.lit (.bool true)], args := [d1, d2, d3] }
  | _ => none }
def wideOrderRow : OpenClaim := { program := "ytjeeinjcebcngaa", sum := "a22d94c079f94bc149b17a5ac69313e86c19d22a33ebb3e8a13627edb5f6c876", func := "timeball/timeballlaw04.WideOrder", spec := "wideOrder", apart := false }
def WideOrderSaid : Prop := wideOrderRow.holds Try.pinned (OpenSpec.ofChange wideOrderSpec)

/-- ITS FALSE NEIGHBOUR: 'it returns false'. Refute it at one input. -/
def wideOrderWrong : ChangeSpec := { name := "wideOrder", fn := fun _ => fun
  | [d1, d2, d3] => { results := [.lit (.bool false)], args := [d1, d2, d3] }
  | _ => none }
def WideOrderWrongFalsely : Prop := wideOrderRow.holds Try.pinned (OpenSpec.ofChange wideOrderWrong)

/-- 'timeballlaw04.WidePart': WHATEVER THE INPUT: true; the input reads as it did. -/
def widePartSpec : ChangeSpec := { name := "widePart", fn := fun _ => fun
  | [d1, d2] => { results := [.lit (.bool true)], args := [d1, d2] }
  | _ => none }
def widePartRow : OpenClaim := { program := "ytjeeinjcebcngaa", sum := "a22d94c079f94bc149b17a5ac69313e86c19d22a33ebb3e8a13627edb5f6c876", func := "timeball/timeballlaw04.WidePart", spec := "widePart", apart := false }
def WidePartSaid : Prop := widePartRow.holds Try.pinned (OpenSpec.ofChange widePartSpec)

/-- ITS FALSE NEIGHBOUR: 'it returns false'. Refute it at one input. -/
def widePartWrong : ChangeSpec := { name := "widePart", fn := fun _ => fun
  | [d1, d2] => { results := [.lit (.bool false)], args := [d1, d2] }
  | _ => none }
def WidePartWrongFalsely : Prop := widePartRow.holds Try.pinned (OpenSpec.ofChange widePartWrong)

/-- 'timeballlaw04.WideSteps': WHATEVER THE INPUT: true; the input reads as it did. -/
def wideStepsSpec : ChangeSpec := { name := "wideSteps", fn := fun _ => fun
  | [d1, d2, d3] => { results := [.lit (.bool true)], args := [d1, d2, d3] }
  | _ => none }
def wideStepsRow : OpenClaim := { program := "ytjeeinjcebcngaa", sum := "a22d94c079f94bc149b17a5ac69313e86c19d22a33ebb3e8a13627edb5f6c876", func := "timeball/timeballlaw04.WideSteps", spec := "wideSteps", apart := false }
def WideStepsSaid : Prop := wideStepsRow.holds Try.pinned (OpenSpec.ofChange wideStepsSpec)

/-- ITS FALSE NEIGHBOUR: 'it returns false'. Refute it at one input. -/
def wideStepsWrong : ChangeSpec := { name := "wideSteps", fn := fun _ => fun
  | [d1, d2, d3] => { results := [.lit (.bool false)], args := [d1, d2, d3] }
  | _ => none }
def WideStepsWrongFalsely : Prop := wideStepsRow.holds Try.pinned (OpenSpec.ofChange wideStepsWrong)

/- THE SECOND FORM. 'bulk': how many values and letters a reading holds, each counted each time it is reached (what is shared counts as often as it is met; a slice's spare places count too). A statement '..UptoSaid' is the law's where the arguments, and the package variables that the reading takes, are together of bulk at most 1048576: NARROWER than '..Said'. Prove '..Said' where nothing that the law and all that it calls make is longer than what came in: it says more and counts as full. Else prove '..UptoSaid'. A law counts once. -/
mutual
def uptoBulk {H : Type} : DataW H → Nat
  | .lit (.string bytes) => bytes.length + 1
  | .lit _ => 1
  | .nil => 1
  | .ptr d => uptoBulk d + 1
  | .slice elems spare => uptoBulkAll elems + uptoBulkAll spare + 1
  | .agg parts => uptoBulkAll parts + 1
  | .iface _ d => uptoBulk d + 1
  | .map entries => uptoBulkEntries entries + 1
  | .held _ => 1
def uptoBulkAll {H : Type} : List (DataW H) → Nat
  | [] => 0
  | d :: r => uptoBulk d + uptoBulkAll r
def uptoBulkEntries {H : Type} : List (Lit × DataW H) → Nat
  | [] => 0
  | x :: r => uptoBulkEntry x + uptoBulkEntries r
def uptoBulkEntry {H : Type} : Lit × DataW H → Nat
  | (.string bytes, d) => bytes.length + uptoBulk d + 1
  | (_, d) => uptoBulk d + 1
 end
def uptoSmall : (H : Type) → List (DataW H) → Bool := fun _ ds => decide (uptoBulkAll ds ≤ 1048576)
def OpenSpec.upto (s : _root_.Go.ChangeSpec) : _root_.Go.OpenSpec := { _root_.Go.OpenSpec.ofChange s with cond := some uptoSmall }

/-- 'timeballlaw04.WideAdds', WHERE WHAT IT READS IS OF BULK AT MOST 1048576: true; the input reads as it did. -/
def wideAddsUptoRow : OpenClaim := { program := "ytjeeinjcebcngaa", sum := "a22d94c079f94bc149b17a5ac69313e86c19d22a33ebb3e8a13627edb5f6c876", func := "timeball/timeballlaw04.WideAdds", spec := "wideAdds", apart := false, narrowed := true }
def WideAddsUptoSaid : Prop := wideAddsUptoRow.holds Try.pinned (OpenSpec.upto wideAddsSpec)

/-- 'timeballlaw04.WideTimes', WHERE WHAT IT READS IS OF BULK AT MOST 1048576: true; the input reads as it did. -/
def wideTimesUptoRow : OpenClaim := { program := "ytjeeinjcebcngaa", sum := "a22d94c079f94bc149b17a5ac69313e86c19d22a33ebb3e8a13627edb5f6c876", func := "timeball/timeballlaw04.WideTimes", spec := "wideTimes", apart := false, narrowed := true }
def WideTimesUptoSaid : Prop := wideTimesUptoRow.holds Try.pinned (OpenSpec.upto wideTimesSpec)

/-- 'timeballlaw04.WideParts', WHERE WHAT IT READS IS OF BULK AT MOST 1048576: true; the input reads as it did. -/
def widePartsUptoRow : OpenClaim := { program := "ytjeeinjcebcngaa", sum := "a22d94c079f94bc149b17a5ac69313e86c19d22a33ebb3e8a13627edb5f6c876", func := "timeball/timeballlaw04.WideParts", spec := "wideParts", apart := false, narrowed := true }
def WidePartsUptoSaid : Prop := widePartsUptoRow.holds Try.pinned (OpenSpec.upto widePartsSpec)

/-- 'timeballlaw04.WideTurned', WHERE WHAT IT READS IS OF BULK AT MOST 1048576: true; the input reads as it did. -/
def wideTurnedUptoRow : OpenClaim := { program := "ytjeeinjcebcngaa", sum := "a22d94c079f94bc149b17a5ac69313e86c19d22a33ebb3e8a13627edb5f6c876", func := "timeball/timeballlaw04.WideTurned", spec := "wideTurned", apart := false, narrowed := true }
def WideTurnedUptoSaid : Prop := wideTurnedUptoRow.holds Try.pinned (OpenSpec.upto wideTurnedSpec)

/-- 'timeballlaw04.WideBack', WHERE WHAT IT READS IS OF BULK AT MOST 1048576: true; the input reads as it did. -/
def wideBackUptoRow : OpenClaim := { program := "ytjeeinjcebcngaa", sum := "a22d94c079f94bc149b17a5ac69313e86c19d22a33ebb3e8a13627edb5f6c876", func := "timeball/timeballlaw04.WideBack", spec := "wideBack", apart := false, narrowed := true }
def WideBackUptoSaid : Prop := wideBackUptoRow.holds Try.pinned (OpenSpec.upto wideBackSpec)

/-- 'timeballlaw04.WideOrder', WHERE WHAT IT READS IS OF BULK AT MOST 1048576: true; the input reads as it did. -/
def wideOrderUptoRow : OpenClaim := { program := "ytjeeinjcebcngaa", sum := "a22d94c079f94bc149b17a5ac69313e86c19d22a33ebb3e8a13627edb5f6c876", func := "timeball/timeballlaw04.WideOrder", spec := "wideOrder", apart := false, narrowed := true }
def WideOrderUptoSaid : Prop := wideOrderUptoRow.holds Try.pinned (OpenSpec.upto wideOrderSpec)

/-- 'timeballlaw04.WidePart', WHERE WHAT IT READS IS OF BULK AT MOST 1048576: true; the input reads as it did. -/
def widePartUptoRow : OpenClaim := { program := "ytjeeinjcebcngaa", sum := "a22d94c079f94bc149b17a5ac69313e86c19d22a33ebb3e8a13627edb5f6c876", func := "timeball/timeballlaw04.WidePart", spec := "widePart", apart := false, narrowed := true }
def WidePartUptoSaid : Prop := widePartUptoRow.holds Try.pinned (OpenSpec.upto widePartSpec)

/-- 'timeballlaw04.WideSteps', WHERE WHAT IT READS IS OF BULK AT MOST 1048576: true; the input reads as it did. -/
def wideStepsUptoRow : OpenClaim := { program := "ytjeeinjcebcngaa", sum := "a22d94c079f94bc149b17a5ac69313e86c19d22a33ebb3e8a13627edb5f6c876", func := "timeball/timeballlaw04.WideSteps", spec := "wideSteps", apart := false, narrowed := true }
def WideStepsUptoSaid : Prop := wideStepsUptoRow.holds Try.pinned (OpenSpec.upto wideStepsSpec)

end Rows
end Go.Proofs.Ytjeeinjcebcngaa
