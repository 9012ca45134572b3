/- The document's stamps: what its functions tell. -/
import Derived.Test.YtkpkhddlijokcaaN5
import Derived.Test.YtkpkhddlijokcaaS1
set_option linter.all false
set_option maxRecDepth 100000
namespace Go.Tb.W
open Go Go.Proofs
def c_era (args : List AV) (hp : Tr (AO O)) (nx : Nat) (K : AV → Tr (AO O) → Nat → Prop) : Prop := match args with
  | [] => match Nat.blt nx 16777215, hp.get nx with
    | true, none => ∀ (u : Bool) (zs : List Rw) (j e room : Nat), NR u zs j 18446744073709551616 → K (.agg [.bool u, .sl nx 0 j e]) (hp.set nx (some (.rows 4 [.b] zs room))) (nx + 1)
    | _, _ => False
  | _ => False
/-- r is v but for eras. -/
def FoldR (v r : Int) : Prop := (0 ≤ r ∧ r ≤ 18446744073709551615) ∧ (r - v) % 18446744073709551616 = 0
def c_rfold (args : List AV) (hp : Tr (AO O)) (nx : Nat) (K : AV → Tr (AO O) → Nat → Prop) : Prop := match args with
  | [.agg [.bool s, .sl n 0 l c]] => match Nat.blt n 16777215, hp.get n with
    | true, some (.rows 4 [.b] xs room) => (Pre s xs l ∧ l ≤ 800) ∧ ∀ r, FoldR (nv s xs l) r → K (.int .u64 r) hp nx
    | _, _ => False
  | _ => False
def c_rsince (args : List AV) (hp : Tr (AO O)) (nx : Nat) (K : AV → Tr (AO O) → Nat → Prop) : Prop := match args with
  | [.agg [.bool s, .sl n 0 l c], .agg [.bool t, .sl m 0 k d]] => match Nat.blt n 16777215 && Nat.blt m 16777215 && !Nat.beq n m, hp.get n, hp.get m with
    | true, some (.rows 4 [.b] xs r1), some (.rows 4 [.b] ys r2) => (Pre s xs l ∧ Pre t ys k ∧ l ≤ 400 ∧ k ≤ 400) ∧ ∀ x e, I64R (nv s xs l - nv t ys k) x e → K (.tup [.int .i64 x, .int .i64 e]) hp nx
    | _, _, _ => False
  | _ => False
/-- x is one of the moments of the stamp s, the nearest one to v. -/
def NearV (s v x : Int) : Prop := (-9223372036854775808 < x - v ∧ x - v ≤ 9223372036854775808) ∧ (x - s) % 18446744073709551616 = 0
def c_rnear (args : List AV) (hp : Tr (AO O)) (nx : Nat) (K : AV → Tr (AO O) → Nat → Prop) : Prop := match args with
  | [.int .u64 s, .agg [.bool t, .sl n 0 l c]] => match Nat.blt n 16777215 && Nat.blt nx 16777215, hp.get n, hp.get nx with
    | true, some (.rows 4 [.b] xs room), none => (Pre t xs l ∧ l ≤ 128) ∧ ∀ (x : Int) (u : Bool) (zs : List Rw) (j e room : Nat), NearV s (nv t xs l) x → NR u zs j x → K (.agg [.bool u, .sl nx 0 j e]) (hp.set nx (some (.rows 4 [.b] zs room))) (nx + 1)
    | _, _, _ => False
  | _ => False
noncomputable abbrev H0 : List (FuncId × Sp O) :=
  (39, .h c_era) ::
  Q3
noncomputable abbrev H1 : List (FuncId × Sp O) :=
  (23, .h c_rfold) ::
  H0
noncomputable abbrev H2 : List (FuncId × Sp O) :=
  (11, .p c_awake) ::
  (20, .p c_diff) ::
  (25, .p c_short) ::
  (26, .p c_rpart) ::
  S6
noncomputable abbrev H3 : List (FuncId × Sp O) :=
  (14, .h c_from) ::
  (15, .h c_fits) ::
  (16, .h c_rwide) ::
  (23, .h c_rfold) ::
  (18, .h c_rsince) ::
  (13, .h c_rnear) ::
  H2
end Go.Tb.W
