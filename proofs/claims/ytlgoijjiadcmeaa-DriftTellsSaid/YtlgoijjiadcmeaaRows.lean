/-
  No cell of these rows narrows 'for every input' (looked for: loops, veiled, ifaces, maps, wideKeys, modest, calm, conditions, laid).
  DERIVED. THE GIVEN ROWS OF THIS SEAT. 7 by the template 'for every input the law returns true; each argument reads behind the call as it read before'; 0 by the template 'total and deterministic' (their statements: YtlgoijjiadcmeaaTotals.lean).
  GIVEN WITH THE SEED: the statements are not yours to turn. If you find one false, say at which input.
  Laid BY PROGRAM, IN A SANDBOX (cutbox-rows.mjs): the forced cells as the released guide's own fill.sh prints them over the translation 573580a5f1ab63ea… (all of the seat's roots in one cut). By AI agents, Wed Nov 11 2026. No macro, syntax, notation, axiom, sorry.
-/
import Derived.Test.YtlgoijjiadcmeaaChecked
import GoSem.Claim
import GoSem.ClaimJoined
import GoSem.ClaimMapViews
import Derived.JoinedTies
import Derived.KernelRfl
namespace Go.Proofs.Ytlgoijjiadcmeaa
/- THE CELL 'sum', in the pinned program and in every row, IS THE sha256 OF THE DUMP (.gsa) THAT YtlgoijjiadcmeaaProg.lean LOADS. Nothing in Lean hashes anything: it is a label: what it is worth is what the hold of that sum in a sandbox is worth. -/
noncomputable def Try.pinned : Pinned := { name := "ytlgoijjiadcmeaa", sum := "573580a5f1ab63ea5d1a386572fc11bfd0aade984dcf4d061fe4e924f99e9a64", checked := Try.checked }
namespace Rows
def none {H : Type} : Left H := { results := [], args := [] }

/-- 'timeballlaw06.DriftTells': WHATEVER THE INPUT: true; the input reads as it did. -/
def driftTellsSpec : ChangeSpec := { name := "driftTells", fn := fun _ => fun
  | [d1, d2, d3] => { results := [.lit (.bool true)], args := [d1, d2, d3] }
  | _ => none }
def driftTellsRow : OpenClaim := { program := "ytlgoijjiadcmeaa", sum := "573580a5f1ab63ea5d1a386572fc11bfd0aade984dcf4d061fe4e924f99e9a64", func := "timeball/timeballlaw06.DriftTells", spec := "driftTells", unfollowed := true, recurses := true, apart := false }
def DriftTellsSaid : Prop := driftTellsRow.holds Try.pinned (OpenSpec.ofChange driftTellsSpec)

/-- ITS FALSE NEIGHBOUR: 'it returns false'. Refute it at one input. -/
def driftTellsWrong : ChangeSpec := { name := "driftTells", fn := fun _ => fun
  | [d1, d2, d3] => { results := [.lit (.bool false)], args := [d1, d2, d3] }
  | _ => none }
def DriftTellsWrongFalsely : Prop := driftTellsRow.holds Try.pinned (OpenSpec.ofChange driftTellsWrong)

/-- 'timeballlaw06.DriftMade': WHATEVER THE INPUT: true; the input reads as it did. -/
def driftMadeSpec : ChangeSpec := { name := "driftMade", fn := fun _ => fun
  | [d1, d2, d3] => { results := [.lit (.bool true)], args := [d1, d2, d3] }
  | _ => none }
def driftMadeRow : OpenClaim := { program := "ytlgoijjiadcmeaa", sum := "573580a5f1ab63ea5d1a386572fc11bfd0aade984dcf4d061fe4e924f99e9a64", func := "timeball/timeballlaw06.DriftMade", spec := "driftMade", unfollowed := true, recurses := true, apart := false }
def DriftMadeSaid : Prop := driftMadeRow.holds Try.pinned (OpenSpec.ofChange driftMadeSpec)

/-- ITS FALSE NEIGHBOUR: 'it returns false'. Refute it at one input. -/
def driftMadeWrong : ChangeSpec := { name := "driftMade", fn := fun _ => fun
  | [d1, d2, d3] => { results := [.lit (.bool false)], args := [d1, d2, d3] }
  | _ => none }
def DriftMadeWrongFalsely : Prop := driftMadeRow.holds Try.pinned (OpenSpec.ofChange driftMadeWrong)

/-- 'timeballlaw06.DriftForward': WHATEVER THE INPUT: true; the input reads as it did. -/
def driftForwardSpec : ChangeSpec := { name := "driftForward", fn := fun _ => fun
  | [d1, d2, d3, d4, d5] => { results := [.lit (.bool true)], args := [d1, d2, d3, d4, d5] }
  | _ => none }
def driftForwardRow : OpenClaim := { program := "ytlgoijjiadcmeaa", sum := "573580a5f1ab63ea5d1a386572fc11bfd0aade984dcf4d061fe4e924f99e9a64", func := "timeball/timeballlaw06.DriftForward", spec := "driftForward", unfollowed := true, recurses := true, apart := false }
def DriftForwardSaid : Prop := driftForwardRow.holds Try.pinned (OpenSpec.ofChange driftForwardSpec)

/-- ITS FALSE NEIGHBOUR: 'it returns false'. Refute it at one input. -/
def driftForwardWrong : ChangeSpec := { name := "driftForward", fn := fun _ => fun
  | [d1, d2, d3, d4, d5] => { results := [.lit (.bool false)], args := [d1, d2, d3, d4, d5] }
  | _ => none }
def DriftForwardWrongFalsely : Prop := driftForwardRow.holds Try.pinned (OpenSpec.ofChange driftForwardWrong)

/-- 'timeballlaw06.DriftParts': WHATEVER THE INPUT: true; the input reads as it did. -/
def driftPartsSpec : ChangeSpec := { name := "driftParts", fn := fun _ => fun
  | [d1, d2, d3, d4, d5] => { results := [.lit (.bool true)], args := [d1, d2, d3, d4, d5] }
  | _ => none }
def driftPartsRow : OpenClaim := { program := "ytlgoijjiadcmeaa", sum := "573580a5f1ab63ea5d1a386572fc11bfd0aade984dcf4d061fe4e924f99e9a64", func := "timeball/timeballlaw06.DriftParts", spec := "driftParts", unfollowed := true, recurses := true, apart := false }
def DriftPartsSaid : Prop := driftPartsRow.holds Try.pinned (OpenSpec.ofChange driftPartsSpec)

/-- ITS FALSE NEIGHBOUR: 'it returns false'. Refute it at one input. -/
def driftPartsWrong : ChangeSpec := { name := "driftParts", fn := fun _ => fun
  | [d1, d2, d3, d4, d5] => { results := [.lit (.bool false)], args := [d1, d2, d3, d4, d5] }
  | _ => none }
def DriftPartsWrongFalsely : Prop := driftPartsRow.holds Try.pinned (OpenSpec.ofChange driftPartsWrong)

/-- 'timeballlaw06.DriftBound': WHATEVER THE INPUT: true; the input reads as it did. -/
def driftBoundSpec : ChangeSpec := { name := "driftBound", fn := fun _ => fun
  | [d1, d2, d3] => { results := [.lit (.bool true)], args := [d1, d2, d3] }
  | _ => none }
def driftBoundRow : OpenClaim := { program := "ytlgoijjiadcmeaa", sum := "573580a5f1ab63ea5d1a386572fc11bfd0aade984dcf4d061fe4e924f99e9a64", func := "timeball/timeballlaw06.DriftBound", spec := "driftBound", unfollowed := true, recurses := true, apart := false }
def DriftBoundSaid : Prop := driftBoundRow.holds Try.pinned (OpenSpec.ofChange driftBoundSpec)

/-- ITS FALSE NEIGHBOUR: 'it returns false'. Refute it at one input. -/
def driftBoundWrong : ChangeSpec := { name := "driftBound", fn := fun _ => fun
  | [d1, d2, d3] => { results := [.lit (.bool false)], args := [d1, d2, d3] }
  | _ => none }
def DriftBoundWrongFalsely : Prop := driftBoundRow.holds Try.pinned (OpenSpec.ofChange driftBoundWrong)

/-- 'timeballlaw06.DriftSteps': WHATEVER THE INPUT: true; the input reads as it did. -/
def driftStepsSpec : ChangeSpec := { name := "driftSteps", fn := fun _ => fun
  | [d1, d2, d3, d4, d5, d6] => { results := [.lit (.bool true)], args := [d1, d2, d3, d4, d5, d6] }
  | _ => none }
def driftStepsRow : OpenClaim := { program := "ytlgoijjiadcmeaa", sum := "573580a5f1ab63ea5d1a386572fc11bfd0aade984dcf4d061fe4e924f99e9a64", func := "timeball/timeballlaw06.DriftSteps", spec := "driftSteps", unfollowed := true, recurses := true, apart := false }
def DriftStepsSaid : Prop := driftStepsRow.holds Try.pinned (OpenSpec.ofChange driftStepsSpec)

/-- ITS FALSE NEIGHBOUR: 'it returns false'. Refute it at one input. -/
def driftStepsWrong : ChangeSpec := { name := "driftSteps", fn := fun _ => fun
  | [d1, d2, d3, d4, d5, d6] => { results := [.lit (.bool false)], args := [d1, d2, d3, d4, d5, d6] }
  | _ => none }
def DriftStepsWrongFalsely : Prop := driftStepsRow.holds Try.pinned (OpenSpec.ofChange driftStepsWrong)

/-- 'timeballlaw06.DriftGrows': WHATEVER THE INPUT: true; the input reads as it did. -/
def driftGrowsSpec : ChangeSpec := { name := "driftGrows", fn := fun _ => fun
  | [d1, d2, d3, d4] => { results := [.lit (.bool true)], args := [d1, d2, d3, d4] }
  | _ => none }
def driftGrowsRow : OpenClaim := { program := "ytlgoijjiadcmeaa", sum := "573580a5f1ab63ea5d1a386572fc11bfd0aade984dcf4d061fe4e924f99e9a64", func := "timeball/timeballlaw06.DriftGrows", spec := "driftGrows", unfollowed := true, recurses := true, apart := false }
def DriftGrowsSaid : Prop := driftGrowsRow.holds Try.pinned (OpenSpec.ofChange driftGrowsSpec)

/-- ITS FALSE NEIGHBOUR: 'it returns false'. Refute it at one input. -/
def driftGrowsWrong : ChangeSpec := { name := "driftGrows", fn := fun _ => fun
  | [d1, d2, d3, d4] => { results := [.lit (.bool false)], args := [d1, d2, d3, d4] }
  | _ => none }
def DriftGrowsWrongFalsely : Prop := driftGrowsRow.holds Try.pinned (OpenSpec.ofChange driftGrowsWrong)

/- THE SECOND FORM. 'bulk': how many values and letters a reading holds, each counted each time it is reached (what is shared counts as often as it is met; a slice's spare places count too). A statement '..UptoSaid' is the law's where the arguments, and the package variables that the reading takes, are together of bulk at most 1048576: NARROWER than '..Said'. Prove '..Said' where nothing that the law and all that it calls make is longer than what came in: it says more and counts as full. Else prove '..UptoSaid'. A law counts once. -/
mutual
def uptoBulk {H : Type} : DataW H → Nat
  | .lit (.string bytes) => bytes.length + 1
  | .lit _ => 1
  | .nil => 1
  | .ptr d => uptoBulk d + 1
  | .slice elems spare => uptoBulkAll elems + uptoBulkAll spare + 1
  | .agg parts => uptoBulkAll parts + 1
  | .iface _ d => uptoBulk d + 1
  | .map entries => uptoBulkEntries entries + 1
  | .held _ => 1
def uptoBulkAll {H : Type} : List (DataW H) → Nat
  | [] => 0
  | d :: r => uptoBulk d + uptoBulkAll r
def uptoBulkEntries {H : Type} : List (Lit × DataW H) → Nat
  | [] => 0
  | x :: r => uptoBulkEntry x + uptoBulkEntries r
def uptoBulkEntry {H : Type} : Lit × DataW H → Nat
  | (.string bytes, d) => bytes.length + uptoBulk d + 1
  | (_, d) => uptoBulk d + 1
 end
def uptoSmall : (H : Type) → List (DataW H) → Bool := fun _ ds => decide (uptoBulkAll ds ≤ 1048576)
def OpenSpec.upto (s : _root_.Go.ChangeSpec) : _root_.Go.OpenSpec := { _root_.Go.OpenSpec.ofChange s with cond := some uptoSmall }

/-- 'timeballlaw06.DriftTells', WHERE WHAT IT READS IS OF BULK AT MOST 1048576: true; the input reads as it did. -/
def driftTellsUptoRow : OpenClaim := { program := "ytlgoijjiadcmeaa", sum := "573580a5f1ab63ea5d1a386572fc11bfd0aade984dcf4d061fe4e924f99e9a64", func := "timeball/timeballlaw06.DriftTells", spec := "driftTells", unfollowed := true, recurses := true, apart := false, narrowed := true }
def DriftTellsUptoSaid : Prop := driftTellsUptoRow.holds Try.pinned (OpenSpec.upto driftTellsSpec)

/-- 'timeballlaw06.DriftMade', WHERE WHAT IT READS IS OF BULK AT MOST 1048576: true; the input reads as it did. -/
def driftMadeUptoRow : OpenClaim := { program := "ytlgoijjiadcmeaa", sum := "573580a5f1ab63ea5d1a386572fc11bfd0aade984dcf4d061fe4e924f99e9a64", func := "timeball/timeballlaw06.DriftMade", spec := "driftMade", unfollowed := true, recurses := true, apart := false, narrowed := true }
def DriftMadeUptoSaid : Prop := driftMadeUptoRow.holds Try.pinned (OpenSpec.upto driftMadeSpec)

/-- 'timeballlaw06.DriftForward', WHERE WHAT IT READS IS OF BULK AT MOST 1048576: true; the input reads as it did. -/
def driftForwardUptoRow : OpenClaim := { program := "ytlgoijjiadcmeaa", sum := "573580a5f1ab63ea5d1a386572fc11bfd0aade984dcf4d061fe4e924f99e9a64", func := "timeball/timeballlaw06.DriftForward", spec := "driftForward", unfollowed := true, recurses := true, apart := false, narrowed := true }
def DriftForwardUptoSaid : Prop := driftForwardUptoRow.holds Try.pinned (OpenSpec.upto driftForwardSpec)

/-- 'timeballlaw06.DriftParts', WHERE WHAT IT READS IS OF BULK AT MOST 1048576: true; the input reads as it did. -/
def driftPartsUptoRow : OpenClaim := { program := "ytlgoijjiadcmeaa", sum := "573580a5f1ab63ea5d1a386572fc11bfd0aade984dcf4d061fe4e924f99e9a64", func := "timeball/timeballlaw06.DriftParts", spec := "driftParts", unfollowed := true, recurses := true, apart := false, narrowed := true }
def DriftPartsUptoSaid : Prop := driftPartsUptoRow.holds Try.pinned (OpenSpec.upto driftPartsSpec)

/-- 'timeballlaw06.DriftBound', WHERE WHAT IT READS IS OF BULK AT MOST 1048576: true; the input reads as it did. -/
def driftBoundUptoRow : OpenClaim := { program := "ytlgoijjiadcmeaa", sum := "573580a5f1ab63ea5d1a386572fc11bfd0aade984dcf4d061fe4e924f99e9a64", func := "timeball/timeballlaw06.DriftBound", spec := "driftBound", unfollowed := true, recurses := true, apart := false, narrowed := true }
def DriftBoundUptoSaid : Prop := driftBoundUptoRow.holds Try.pinned (OpenSpec.upto driftBoundSpec)

/-- 'timeballlaw06.DriftSteps', WHERE WHAT IT READS IS OF BULK AT MOST 1048576: true; the input reads as it did. -/
def driftStepsUptoRow : OpenClaim := { program := "ytlgoijjiadcmeaa", sum := "573580a5f1ab63ea5d1a386572fc11bfd0aade984dcf4d061fe4e924f99e9a64", func := "timeball/timeballlaw06.DriftSteps", spec := "driftSteps", unfollowed := true, recurses := true, apart := false, narrowed := true }
def DriftStepsUptoSaid : Prop := driftStepsUptoRow.holds Try.pinned (OpenSpec.upto driftStepsSpec)

/-- 'timeballlaw06.DriftGrows', WHERE WHAT IT READS IS OF BULK AT MOST 1048576: true; the input reads as it did. -/
def driftGrowsUptoRow : OpenClaim := { program := "ytlgoijjiadcmeaa", sum := "573580a5f1ab63ea5d1a386572fc11bfd0aade984dcf4d061fe4e924f99e9a64", func := "timeball/timeballlaw06.DriftGrows", spec := "driftGrows", unfollowed := true, recurses := true, apart := false, narrowed := true }
def DriftGrowsUptoSaid : Prop := driftGrowsUptoRow.holds Try.pinned (OpenSpec.upto driftGrowsSpec)

end Rows
end Go.Proofs.Ytlgoijjiadcmeaa
