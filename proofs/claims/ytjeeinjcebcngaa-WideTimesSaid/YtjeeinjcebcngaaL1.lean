/- Lists of contracts for the laws of wide numbers. -/
import Derived.Test.YtjeeinjcebcngaaN5
set_option linter.all false
set_option maxRecDepth 100000
namespace Go.Tb.W
open Go Go.Proofs
/-- 'ref' and 'same' of the laws' text. -/
def c_ref (args : List AV) (hp : Tr (AO O)) (nx : Nat) (K : AV → Tr (AO O) → Nat → Prop) : Prop := match args with
  | [.agg [.int .i64 h, .int .u64 l]] => match Nat.blt nx 16777215, hp.get nx with
    | true, none => ∀ (u : Bool) (zs : List Rw) (j e room : Nat), NR u zs j (vl h l) → K (.agg [.bool u, .sl nx 0 j e]) (hp.set nx (some (.rows 4 [.b] zs room))) (nx + 1)
    | _, _ => False
  | _ => False
def SameR (h l e v : Int) (b : Bool) : Prop := b = true ↔ AddR v h l e
def c_same (args : List AV) (hp : Tr (AO O)) (nx : Nat) (K : AV → Tr (AO O) → Nat → Prop) : Prop := match args with
  | [.agg [.int .i64 a, .int .u64 b], .int .i64 e, .agg [.bool s, .sl n 0 l c]] => match Nat.blt n 16777215, hp.get n with
    | true, some (.rows 4 [.b] xs room) => (Pre s xs l ∧ l ≤ 800) ∧ ∀ q : Bool, SameR a b e (nv s xs l) q → K (.bool q) hp nx
    | _, _ => False
  | _ => False
noncomputable abbrev Z0 : List (FuncId × Sp O) :=
  (33, .h c_from) ::
  (22, .h c_rcmp) ::
  (15, .h c_fits) ::
  (30, .h c_rwide) ::
  (27, .h c_rof) ::
  (20, .h c_rless) ::
  (19, .h c_radd) ::
  U
noncomputable abbrev Z1 : List (FuncId × Sp O) :=
  (11, .p c_awake) ::
  (16, .h c_ref) ::
  (18, .h c_same) ::
  Z0
noncomputable abbrev Y0 : List (FuncId × Sp O) :=
  (24, .p c_rpart) ::
  (26, .h c_rtimes) ::
  (29, .h c_rdiv) ::
  Z0
noncomputable abbrev Y1 : List (FuncId × Sp O) :=
  (11, .p c_awake) ::
  (16, .h c_ref) ::
  (18, .h c_same) ::
  Y0
end Go.Tb.W
