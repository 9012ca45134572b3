/-
  No cell of these rows narrows 'for every input' (looked for: loops, veiled, ifaces, maps, wideKeys, modest, calm, conditions, laid).
  DERIVED. THE GIVEN ROWS OF THIS SEAT. 8 by the template 'for every input the law returns true; each argument reads behind the call as it read before'; 0 by the template 'total and deterministic' (their statements: YtkpkhddlijokcaaTotals.lean).
  GIVEN WITH THE SEED: the statements are not yours to turn. If you find one false, say at which input.
  Laid BY PROGRAM, IN A SANDBOX (cutbox-rows.mjs): the forced cells as the released guide's own fill.sh prints them over the translation 6e70257483f3c372… (all of the seat's roots in one cut). By AI agents, Wed Nov 11 2026. No macro, syntax, notation, axiom, sorry.
-/
import Derived.Test.YtkpkhddlijokcaaChecked
import GoSem.Claim
import GoSem.ClaimJoined
import GoSem.ClaimMapViews
import Derived.JoinedTies
import Derived.KernelRfl
namespace Go.Proofs.Ytkpkhddlijokcaa
/- THE CELL 'sum', in the pinned program and in every row, IS THE sha256 OF THE DUMP (.gsa) THAT YtkpkhddlijokcaaProg.lean LOADS. Nothing in Lean hashes anything: it is a label: what it is worth is what the hold of that sum in a sandbox is worth. -/
noncomputable def Try.pinned : Pinned := { name := "ytkpkhddlijokcaa", sum := "6e70257483f3c37260789b5cc4c6f43b18820ddae32f1a5d481f1deef39898fa", checked := Try.checked }
namespace Rows
def none {H : Type} : Left H := { results := [], args := [] }

/-- 'timeballlaw05.StampTells': WHATEVER THE INPUT: true; the input reads as it did. -/
def stampTellsSpec : ChangeSpec := { name := "stampTells", fn := fun _ => fun
  | [d1, d2, d3, d4, d5] => { results := [.lit (.bool true)], args := [d1, d2, d3, d4, d5] }
  | _ => none }
def stampTellsRow : OpenClaim := { program := "ytkpkhddlijokcaa", sum := "6e70257483f3c37260789b5cc4c6f43b18820ddae32f1a5d481f1deef39898fa", func := "timeball/timeballlaw05.StampTells", spec := "stampTells", unfollowed := true, recurses := true, apart := false }
def StampTellsSaid : Prop := stampTellsRow.holds Try.pinned (OpenSpec.ofChange stampTellsSpec)

/-- ITS FALSE NEIGHBOUR: 'it returns false'. Refute it at one input. -/
def stampTellsWrong : ChangeSpec := { name := "stampTells", fn := fun _ => fun
  | [d1, d2, d3, d4, d5] => { results := [.lit (.bool false)], args := [d1, d2, d3, d4, d5] }
  | _ => none }
def StampTellsWrongFalsely : Prop := stampTellsRow.holds Try.pinned (OpenSpec.ofChange stampTellsWrong)

/-- 'timeballlaw05.StampSpans': WHATEVER THE INPUT: true; the input reads as it did. -/
def stampSpansSpec : ChangeSpec := { name := "stampSpans", fn := fun _ => fun
  | [d1, d2] => { results := [.lit (.bool true)], args := [d1, d2] }
  | _ => none }
def stampSpansRow : OpenClaim := { program := "ytkpkhddlijokcaa", sum := "6e70257483f3c37260789b5cc4c6f43b18820ddae32f1a5d481f1deef39898fa", func := "timeball/timeballlaw05.StampSpans", spec := "stampSpans", unfollowed := true, recurses := true, apart := false }
def StampSpansSaid : Prop := stampSpansRow.holds Try.pinned (OpenSpec.ofChange stampSpansSpec)

/-- ITS FALSE NEIGHBOUR: 'it returns false'. Refute it at one input. -/
def stampSpansWrong : ChangeSpec := { name := "stampSpans", fn := fun _ => fun
  | [d1, d2] => { results := [.lit (.bool false)], args := [d1, d2] }
  | _ => none }
def StampSpansWrongFalsely : Prop := stampSpansRow.holds Try.pinned (OpenSpec.ofChange stampSpansWrong)

/-- 'timeballlaw05.StampAdds': WHATEVER THE INPUT: true; the input reads as it did. -/
def stampAddsSpec : ChangeSpec := { name := "stampAdds", fn := fun _ => fun
  | [d1, d2, d3] => { results := [.lit (.bool true)], args := [d1, d2, d3] }
  | _ => none }
def stampAddsRow : OpenClaim := { program := "ytkpkhddlijokcaa", sum := "6e70257483f3c37260789b5cc4c6f43b18820ddae32f1a5d481f1deef39898fa", func := "timeball/timeballlaw05.StampAdds", spec := "stampAdds", unfollowed := true, recurses := true, apart := false }
def StampAddsSaid : Prop := stampAddsRow.holds Try.pinned (OpenSpec.ofChange stampAddsSpec)

/-- ITS FALSE NEIGHBOUR: 'it returns false'. Refute it at one input. -/
def stampAddsWrong : ChangeSpec := { name := "stampAdds", fn := fun _ => fun
  | [d1, d2, d3] => { results := [.lit (.bool false)], args := [d1, d2, d3] }
  | _ => none }
def StampAddsWrongFalsely : Prop := stampAddsRow.holds Try.pinned (OpenSpec.ofChange stampAddsWrong)

/-- 'timeballlaw05.StampBack': WHATEVER THE INPUT: true; the input reads as it did. -/
def stampBackSpec : ChangeSpec := { name := "stampBack", fn := fun _ => fun
  | [d1, d2] => { results := [.lit (.bool true)], args := [d1, d2] }
  | _ => none }
def stampBackRow : OpenClaim := { program := "ytkpkhddlijokcaa", sum := "6e70257483f3c37260789b5cc4c6f43b18820ddae32f1a5d481f1deef39898fa", func := "timeball/timeballlaw05.StampBack", spec := "stampBack", unfollowed := true, recurses := true, apart := false }
def StampBackSaid : Prop := stampBackRow.holds Try.pinned (OpenSpec.ofChange stampBackSpec)

/-- ITS FALSE NEIGHBOUR: 'it returns false'. Refute it at one input. -/
def stampBackWrong : ChangeSpec := { name := "stampBack", fn := fun _ => fun
  | [d1, d2] => { results := [.lit (.bool false)], args := [d1, d2] }
  | _ => none }
def StampBackWrongFalsely : Prop := stampBackRow.holds Try.pinned (OpenSpec.ofChange stampBackWrong)

/-- 'timeballlaw05.StampShort': WHATEVER THE INPUT: true; the input reads as it did. -/
def stampShortSpec : ChangeSpec := { name := "stampShort", fn := fun _ => fun
  | [d1, d2] => { results := [.lit (.bool true)], args := [d1, d2] }
  | _ => none }
def stampShortRow : OpenClaim := { program := "ytkpkhddlijokcaa", sum := "6e70257483f3c37260789b5cc4c6f43b18820ddae32f1a5d481f1deef39898fa", func := "timeball/timeballlaw05.StampShort", spec := "stampShort", unfollowed := true, recurses := true, apart := false }
def StampShortSaid : Prop := stampShortRow.holds Try.pinned (OpenSpec.ofChange stampShortSpec)

/-- ITS FALSE NEIGHBOUR: 'it returns false'. Refute it at one input. -/
def stampShortWrong : ChangeSpec := { name := "stampShort", fn := fun _ => fun
  | [d1, d2] => { results := [.lit (.bool false)], args := [d1, d2] }
  | _ => none }
def StampShortWrongFalsely : Prop := stampShortRow.holds Try.pinned (OpenSpec.ofChange stampShortWrong)

/-- 'timeballlaw05.StampMicros': WHATEVER THE INPUT: true; the input reads as it did. -/
def stampMicrosSpec : ChangeSpec := { name := "stampMicros", fn := fun _ => fun
  | [d] => { results := [.lit (.bool true)], args := [d] }
  | _ => none }
def stampMicrosRow : OpenClaim := { program := "ytkpkhddlijokcaa", sum := "6e70257483f3c37260789b5cc4c6f43b18820ddae32f1a5d481f1deef39898fa", func := "timeball/timeballlaw05.StampMicros", spec := "stampMicros", unfollowed := true, recurses := true, apart := false }
def StampMicrosSaid : Prop := stampMicrosRow.holds Try.pinned (OpenSpec.ofChange stampMicrosSpec)

/-- ITS FALSE NEIGHBOUR: 'it returns false'. Refute it at one input. -/
def stampMicrosWrong : ChangeSpec := { name := "stampMicros", fn := fun _ => fun
  | [d] => { results := [.lit (.bool false)], args := [d] }
  | _ => none }
def StampMicrosWrongFalsely : Prop := stampMicrosRow.holds Try.pinned (OpenSpec.ofChange stampMicrosWrong)

/-- 'timeballlaw05.StampOrder': WHATEVER THE INPUT: true; the input reads as it did. -/
def stampOrderSpec : ChangeSpec := { name := "stampOrder", fn := fun _ => fun
  | [d1, d2, d3] => { results := [.lit (.bool true)], args := [d1, d2, d3] }
  | _ => none }
def stampOrderRow : OpenClaim := { program := "ytkpkhddlijokcaa", sum := "6e70257483f3c37260789b5cc4c6f43b18820ddae32f1a5d481f1deef39898fa", func := "timeball/timeballlaw05.StampOrder", spec := "stampOrder", unfollowed := true, recurses := true, apart := false }
def StampOrderSaid : Prop := stampOrderRow.holds Try.pinned (OpenSpec.ofChange stampOrderSpec)

/-- ITS FALSE NEIGHBOUR: 'it returns false'. Refute it at one input. -/
def stampOrderWrong : ChangeSpec := { name := "stampOrder", fn := fun _ => fun
  | [d1, d2, d3] => { results := [.lit (.bool false)], args := [d1, d2, d3] }
  | _ => none }
def StampOrderWrongFalsely : Prop := stampOrderRow.holds Try.pinned (OpenSpec.ofChange stampOrderWrong)

/-- 'timeballlaw05.StampSince': WHATEVER THE INPUT: true; the input reads as it did. -/
def stampSinceSpec : ChangeSpec := { name := "stampSince", fn := fun _ => fun
  | [d1, d2, d3] => { results := [.lit (.bool true)], args := [d1, d2, d3] }
  | _ => none }
def stampSinceRow : OpenClaim := { program := "ytkpkhddlijokcaa", sum := "6e70257483f3c37260789b5cc4c6f43b18820ddae32f1a5d481f1deef39898fa", func := "timeball/timeballlaw05.StampSince", spec := "stampSince", unfollowed := true, recurses := true, apart := false }
def StampSinceSaid : Prop := stampSinceRow.holds Try.pinned (OpenSpec.ofChange stampSinceSpec)

/-- ITS FALSE NEIGHBOUR: 'it returns false'. Refute it at one input. -/
def stampSinceWrong : ChangeSpec := { name := "stampSince", fn := fun _ => fun
  | [d1, d2, d3] => { results := [.lit (.bool false)], args := [d1, d2, d3] }
  | _ => none }
def StampSinceWrongFalsely : Prop := stampSinceRow.holds Try.pinned (OpenSpec.ofChange stampSinceWrong)

/- THE SECOND FORM. 'bulk': how many values and letters a reading holds, each counted each time it is reached (what is shared counts as often as it is met; a slice's spare places count too). A statement '..UptoSaid' is the law's where the arguments, and the package variables that the reading takes, are together of bulk at most 1048576: NARROWER than '..Said'. Prove '..Said' where nothing that the law and all that it calls make is longer than what came in: it says more and counts as full. Else prove '..UptoSaid'. A law counts once. -/
mutual
def uptoBulk {H : Type} : DataW H → Nat
  | .lit (.string bytes) => bytes.length + 1
  | .lit _ => 1
  | .nil => 1
  | .ptr d => uptoBulk d + 1
  | .slice elems spare => uptoBulkAll elems + uptoBulkAll spare + 1
  | .agg parts => uptoBulkAll parts + 1
  | .iface _ d => uptoBulk d + 1
  | .map entries => uptoBulkEntries entries + 1
  | .held _ => 1
def uptoBulkAll {H : Type} : List (DataW H) → Nat
  | [] => 0
  | d :: r => uptoBulk d + uptoBulkAll r
def uptoBulkEntries {H : Type} : List (Lit × DataW H) → Nat
  | [] => 0
  | x :: r => uptoBulkEntry x + uptoBulkEntries r
def uptoBulkEntry {H : Type} : Lit × DataW H → Nat
  | (.string bytes, d) => bytes.length + uptoBulk d + 1
  | (_, d) => uptoBulk d + 1
 end
def uptoSmall : (H : Type) → List (DataW H) → Bool := fun _ ds => decide (uptoBulkAll ds ≤ 1048576)
def OpenSpec.upto (s : _root_.Go.ChangeSpec) : _root_.Go.OpenSpec := { _root_.Go.OpenSpec.ofChange s with cond := some uptoSmall }

/-- 'timeballlaw05.StampTells', WHERE WHAT IT READS IS OF BULK AT MOST 1048576: true; the input reads as it did. -/
def stampTellsUptoRow : OpenClaim := { program := "ytkpkhddlijokcaa", sum := "6e70257483f3c37260789b5cc4c6f43b18820ddae32f1a5d481f1deef39898fa", func := "timeball/timeballlaw05.StampTells", spec := "stampTells", unfollowed := true, recurses := true, apart := false, narrowed := true }
def StampTellsUptoSaid : Prop := stampTellsUptoRow.holds Try.pinned (OpenSpec.upto stampTellsSpec)

/-- 'timeballlaw05.StampSpans', WHERE WHAT IT READS IS OF BULK AT MOST 1048576: true; the input reads as it did. -/
def stampSpansUptoRow : OpenClaim := { program := "ytkpkhddlijokcaa", sum := "6e70257483f3c37260789b5cc4c6f43b18820ddae32f1a5d481f1deef39898fa", func := "timeball/timeballlaw05.StampSpans", spec := "stampSpans", unfollowed := true, recurses := true, apart := false, narrowed := true }
def StampSpansUptoSaid : Prop := stampSpansUptoRow.holds Try.pinned (OpenSpec.upto stampSpansSpec)

/-- 'timeballlaw05.StampAdds', WHERE WHAT IT READS IS OF BULK AT MOST 1048576: true; the input reads as it did. -/
def stampAddsUptoRow : OpenClaim := { program := "ytkpkhddlijokcaa", sum := "6e70257483f3c37260789b5cc4c6f43b18820ddae32f1a5d481f1deef39898fa", func := "timeball/timeballlaw05.StampAdds", spec := "stampAdds", unfollowed := true, recurses := true, apart := false, narrowed := true }
def StampAddsUptoSaid : Prop := stampAddsUptoRow.holds Try.pinned (OpenSpec.upto stampAddsSpec)

/-- 'timeballlaw05.StampBack', WHERE WHAT IT READS IS OF BULK AT MOST 1048576: true; the input reads as it did. -/
def stampBackUptoRow : OpenClaim := { program := "ytkpkhddlijokcaa", sum := "6e70257483f3c37260789b5cc4c6f43b18820ddae32f1a5d481f1deef39898fa", func := "timeball/timeballlaw05.StampBack", spec := "stampBack", unfollowed := true, recurses := true, apart := false, narrowed := true }
def StampBackUptoSaid : Prop := stampBackUptoRow.holds Try.pinned (OpenSpec.upto stampBackSpec)

/-- 'timeballlaw05.StampShort', WHERE WHAT IT READS IS OF BULK AT MOST 1048576: true; the input reads as it did. -/
def stampShortUptoRow : OpenClaim := { program := "ytkpkhddlijokcaa", sum := "6e70257483f3c37260789b5cc4c6f43b18820ddae32f1a5d481f1deef39898fa", func := "timeball/timeballlaw05.StampShort", spec := "stampShort", unfollowed := true, recurses := true, apart := false, narrowed := true }
def StampShortUptoSaid : Prop := stampShortUptoRow.holds Try.pinned (OpenSpec.upto stampShortSpec)

/-- 'timeballlaw05.StampMicros', WHERE WHAT IT READS IS OF BULK AT MOST 1048576: true; the input reads as it did. -/
def stampMicrosUptoRow : OpenClaim := { program := "ytkpkhddlijokcaa", sum := "6e70257483f3c37260789b5cc4c6f43b18820ddae32f1a5d481f1deef39898fa", func := "timeball/timeballlaw05.StampMicros", spec := "stampMicros", unfollowed := true, recurses := true, apart := false, narrowed := true }
def StampMicrosUptoSaid : Prop := stampMicrosUptoRow.holds Try.pinned (OpenSpec.upto stampMicrosSpec)

/-- 'timeballlaw05.StampOrder', WHERE WHAT IT READS IS OF BULK AT MOST 1048576: true; the input reads as it did. -/
def stampOrderUptoRow : OpenClaim := { program := "ytkpkhddlijokcaa", sum := "6e70257483f3c37260789b5cc4c6f43b18820ddae32f1a5d481f1deef39898fa", func := "timeball/timeballlaw05.StampOrder", spec := "stampOrder", unfollowed := true, recurses := true, apart := false, narrowed := true }
def StampOrderUptoSaid : Prop := stampOrderUptoRow.holds Try.pinned (OpenSpec.upto stampOrderSpec)

/-- 'timeballlaw05.StampSince', WHERE WHAT IT READS IS OF BULK AT MOST 1048576: true; the input reads as it did. -/
def stampSinceUptoRow : OpenClaim := { program := "ytkpkhddlijokcaa", sum := "6e70257483f3c37260789b5cc4c6f43b18820ddae32f1a5d481f1deef39898fa", func := "timeball/timeballlaw05.StampSince", spec := "stampSince", unfollowed := true, recurses := true, apart := false, narrowed := true }
def StampSinceUptoSaid : Prop := stampSinceUptoRow.holds Try.pinned (OpenSpec.upto stampSinceSpec)

end Rows
end Go.Proofs.Ytkpkhddlijokcaa
