/- Buffers: the contract of comparing a line with a slice out of a map. -/
import Derived.Test.YtojppaicjioohaaM23
import Derived.Test.YtojppaicjioohaaBT
set_option linter.all false
set_option maxRecDepth 100000
namespace Go.Tb.W
open Go Go.Proofs
def c_textsV (args : List AV) (hp : Tr (AO O)) (nx : Nat) (K : AV → Tr (AO O) → Nat → Prop) : Prop := match args with
  | [a, x] => aunpin (⟨.leaf, hp, nx, 0⟩ : St O) x fun s v => c_texts [a, v] s.hp s.nx K
  | _ => False
noncomputable abbrev Q4 : List (FuncId × Sp O) :=
  (10, .p c_awake) ::
  (13, .p c_large) ::
  (16, .h c_textsV) ::
  (11, .h q_new) ::
  (14, .h q_put) ::
  (19, .h q_drop) ::
  (23, .h c_size) ::
  (24, .h c_dropped) ::
  (25, .h q_has) ::
  (17, .h q_take) ::
  (21, .h q_ivs) ::
  []
end Go.Tb.W
