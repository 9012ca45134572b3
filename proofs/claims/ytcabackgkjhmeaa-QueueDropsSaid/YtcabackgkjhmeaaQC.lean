/- Queues: what their methods tell and leave; the package that a queue is. -/
import Derived.Test.YtcabackgkjhmeaaQ6
set_option linter.all false
set_option maxRecDepth 100000
namespace Go.Tb.W
open Go Go.Proofs
/-- The length, of a queue that lies open. -/
def c_len1 (args : List AV) (hp : Tr (AO O)) (nx : Nat) (K : AV → Tr (AO O) → Nat → Prop) : Prop := match args with
  | [.ptr n 0] => match hp.get n with
    | some (.cells 27 [.sl m 0 l c, .int .i64 sq] 2) => match both n m, hp.get m with
      | true, some (.rows 66 [.i .i64, .i .i64, .s, .i .i64] xs room) => K (.int .i64 l) hp nx
      | _, _ => False
    | some (.cells 27 [.nils, .int .i64 sq] 2) => match Nat.blt n 16777215 with
      | true => K (.int .i64 0) hp nx
      | _ => False
    | _ => False
  | _ => False
noncomputable abbrev A7 : List (FuncId × Sp O) :=
  (20, .h c_len1) ::
  A4
end Go.Tb.W
