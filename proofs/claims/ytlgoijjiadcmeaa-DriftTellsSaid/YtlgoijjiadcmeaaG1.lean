/- The document's clocks: what its functions tell. -/
import Derived.Test.YtlgoijjiadcmeaaN5
import Derived.Test.YtlgoijjiadcmeaaD1
set_option linter.all false
set_option maxRecDepth 100000
namespace Go.Tb.W
open Go Go.Proofs
def c_rwhole (args : List AV) (hp : Tr (AO O)) (nx : Nat) (K : AV → Tr (AO O) → Nat → Prop) : Prop := match args with
  | [.agg [.bool s, .sl n 0 l c]] => match Nat.blt n 16777215, hp.get n with
    | true, some (.rows 4 [.b] xs room) => (Pre s xs l ∧ l ≤ 800) ∧ ∀ m e, I64R (nv s xs l) m e → K (.tup [.int .i64 m, .int .i64 e]) hp nx
    | _, _ => False
  | _ => False
def c_rshows (args : List AV) (hp : Tr (AO O)) (nx : Nat) (K : AV → Tr (AO O) → Nat → Prop) : Prop := match args with
  | [.agg [.int .i64 f, .int .i64 s, .int .i64 r], .int .i64 t] => match Nat.blt nx 16777215, hp.get nx with
    | true, none => ∀ (u : Bool) (zs : List Rw) (j e room : Nat), NR u zs j (shw f s r t) → K (.agg [.bool u, .sl nx 0 j e]) (hp.set nx (some (.rows 4 [.b] zs room))) (nx + 1)
    | _, _ => False
  | _ => False
noncomputable abbrev F7 : List (FuncId × Sp O) := (10, .p c_awake) :: F6
noncomputable abbrev G0 : List (FuncId × Sp O) :=
  (30, .h c_rwhole) ::
  (31, .h c_rshows) ::
  Q3
noncomputable abbrev G1 : List (FuncId × Sp O) :=
  (12, .p c_read) ::
  G0
noncomputable abbrev G2 : List (FuncId × Sp O) :=
  (12, .p c_read) ::
  (14, .p c_turn) ::
  (16, .p c_step) ::
  (18, .p c_grown) ::
  F7
end Go.Tb.W
