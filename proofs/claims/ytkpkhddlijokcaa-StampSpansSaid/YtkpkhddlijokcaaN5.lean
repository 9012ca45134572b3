/- The document's numbers: what its functions on numbers tell. -/
import Derived.Test.YtkpkhddlijokcaaN1
set_option linter.all false
set_option maxRecDepth 100000
namespace Go.Tb.W
open Go Go.Proofs
def c_rof (args : List AV) (hp : Tr (AO O)) (nx : Nat) (K : AV → Tr (AO O) → Nat → Prop) : Prop := match args with
  | [.int .i64 n] => match Nat.blt nx 16777215, hp.get nx with
    | true, none => ∀ (u : Bool) (zs : List Rw) (j e room : Nat), NR u zs j (n) → K (.agg [.bool u, .sl nx 0 j e]) (hp.set nx (some (.rows 4 [.b] zs room))) (nx + 1)
    | _, _ => False
  | _ => False
def c_from (args : List AV) (hp : Tr (AO O)) (nx : Nat) (K : AV → Tr (AO O) → Nat → Prop) : Prop := match args with
  | [.int .i64 h, .int .u64 l] => match Nat.blt nx 16777215, hp.get nx with
    | true, none => ∀ (u : Bool) (zs : List Rw) (j e room : Nat), NR u zs j (vl h l) → K (.agg [.bool u, .sl nx 0 j e]) (hp.set nx (some (.rows 4 [.b] zs room))) (nx + 1)
    | _, _ => False
  | _ => False
def c_rless (args : List AV) (hp : Tr (AO O)) (nx : Nat) (K : AV → Tr (AO O) → Nat → Prop) : Prop := match args with
  | [.agg [.bool s, .sl n 0 l c]] => match Nat.blt n 16777215, hp.get n with
    | true, some (.rows 4 [.b] xs room) => Pre s xs l ∧ ∀ (u : Bool) (j : Nat), NR u xs j (-(nv s xs l)) → K (.agg [.bool u, .sl n 0 j c]) hp nx
    | _, _ => False
  | _ => False
def c_radd (args : List AV) (hp : Tr (AO O)) (nx : Nat) (K : AV → Tr (AO O) → Nat → Prop) : Prop := match args with
  | [.agg [.bool s, .sl n 0 l c], .agg [.bool t, .sl m 0 k d]] => match Nat.blt n 16777215 && Nat.blt m 16777215 && Nat.blt nx 16777215 && !Nat.beq n m, hp.get n, hp.get m, hp.get nx with
    | true, some (.rows 4 [.b] xs r1), some (.rows 4 [.b] ys r2), none => (Pre s xs l ∧ Pre t ys k) ∧ ∀ (u : Bool) (zs : List Rw) (j e room : Nat), NR u zs j (nv s xs l + nv t ys k) → K (.agg [.bool u, .sl nx 0 j e]) (hp.set nx (some (.rows 4 [.b] zs room))) (nx + 1)
    | _, _, _, _ => False
  | _ => False
def c_rtimes (args : List AV) (hp : Tr (AO O)) (nx : Nat) (K : AV → Tr (AO O) → Nat → Prop) : Prop := match args with
  | [.agg [.bool s, .sl n 0 l c], .agg [.bool t, .sl m 0 k d]] => match Nat.blt n 16777215 && Nat.blt m 16777215 && Nat.blt nx 16777215 && !Nat.beq n m, hp.get n, hp.get m, hp.get nx with
    | true, some (.rows 4 [.b] xs r1), some (.rows 4 [.b] ys r2), none => (Pre s xs l ∧ Pre t ys k ∧ l + k ≤ 800) ∧ ∀ (u : Bool) (zs : List Rw) (j e room : Nat), NR u zs j (nv s xs l * nv t ys k) → K (.agg [.bool u, .sl nx 0 j e]) (hp.set nx (some (.rows 4 [.b] zs room))) (nx + 1)
    | _, _, _, _ => False
  | _ => False
def c_rcmp (args : List AV) (hp : Tr (AO O)) (nx : Nat) (K : AV → Tr (AO O) → Nat → Prop) : Prop := match args with
  | [.agg [.bool s, .sl n 0 l c], .agg [.bool t, .sl m 0 k d]] => match Nat.blt n 16777215 && Nat.blt m 16777215 && !Nat.beq n m, hp.get n, hp.get m with
    | true, some (.rows 4 [.b] xs r1), some (.rows 4 [.b] ys r2) => (Pre s xs l ∧ Pre t ys k ∧ l ≤ 800 ∧ k ≤ 800) ∧ ∀ r, CmpR (nv s xs l) (nv t ys k) r → K (.int .i64 r) hp nx
    | _, _, _ => False
  | _ => False
def c_rdiv (args : List AV) (hp : Tr (AO O)) (nx : Nat) (K : AV → Tr (AO O) → Nat → Prop) : Prop := match args with
  | [.agg [.bool s, .sl n 0 l c], .agg [.bool t, .sl m 0 k d]] => match Nat.blt n 16777215 && Nat.blt m 16777215 && Nat.blt (nx + 1) 16777215 && !Nat.beq n m, hp.get n, hp.get m, hp.get nx, hp.get (nx + 1) with
    | true, some (.rows 4 [.b] xs r1), some (.rows 4 [.b] ys r2), none, none => (Pre s xs l ∧ Pre t ys k ∧ l ≤ 800 ∧ k ≤ 800 ∧ 1 ≤ nv t ys k) ∧
      ∀ (u u' : Bool) (zs zs' : List Rw) (j e room j' e' room' : Nat), NR u zs j (nv s xs l / nv t ys k) → NR u' zs' j' (nv s xs l % nv t ys k) →
        K (.tup [.agg [.bool u, .sl nx 0 j e], .agg [.bool u', .sl (nx + 1) 0 j' e']]) ((hp.set nx (some (.rows 4 [.b] zs room))).set (nx + 1) (some (.rows 4 [.b] zs' room'))) (nx + 2)
    | _, _, _, _, _ => False
  | _ => False
def powOk (p : Int) : Prop := 0 ≤ p ∧ p ≤ 800
/-- Is a number one of so many bits? -/
def FitsR (v p : Int) (b : Bool) : Prop := b = true ↔ -(2 ^ p.toNat : Int) ≤ v ∧ v < 2 ^ p.toNat
def c_fits (args : List AV) (hp : Tr (AO O)) (nx : Nat) (K : AV → Tr (AO O) → Nat → Prop) : Prop := match args with
  | [.agg [.bool s, .sl n 0 l c], .int .i64 p] => match Nat.blt n 16777215, hp.get n with
    | true, some (.rows 4 [.b] xs room) => (Pre s xs l ∧ l ≤ 800 ∧ powOk p) ∧ ∀ b : Bool, FitsR (nv s xs l) p b → K (.bool b) hp nx
    | _, _ => False
  | _ => False
/-- High and Low of a number. -/
def WideR (v h l : Int) : Prop := (-9223372036854775808 ≤ h ∧ h ≤ 9223372036854775807) ∧ (0 ≤ l ∧ l ≤ 18446744073709551615) ∧ (l - v) % 18446744073709551616 = 0 ∧ (-170141183460469231731687303715884105728 ≤ v ∧ v ≤ 170141183460469231731687303715884105727 → Nm h l v)
def c_rwide (args : List AV) (hp : Tr (AO O)) (nx : Nat) (K : AV → Tr (AO O) → Nat → Prop) : Prop := match args with
  | [.agg [.bool s, .sl n 0 l c]] => match Nat.blt n 16777215, hp.get n with
    | true, some (.rows 4 [.b] xs room) => (Pre s xs l ∧ l ≤ 800) ∧ ∀ h' l', WideR (nv s xs l) h' l' → K (.tup [.int .i64 h', .int .u64 l']) hp nx
    | _, _ => False
  | _ => False
def c_rpart (args : List AV) (K : AV → Prop) : Prop := match args with
  | [.int .i64 a, .int .i64 b, .int .i64 y] => ∀ n e, PartR a b y n e → K (.tup [.int .i64 n, .int .i64 e])
  | _ => False
noncomputable abbrev Q2 : List (FuncId × Sp O) :=
  (36, .h c_rof) ::
  (38, .h c_rless) ::
  (37, .h c_radd) ::
  Q1
noncomputable abbrev Q3 : List (FuncId × Sp O) :=
  (14, .h c_from) ::
  (40, .h c_rcmp) ::
  (15, .h c_fits) ::
  (16, .h c_rwide) ::
  (45, .h c_rtimes) ::
  (44, .h c_rdiv) ::
  Q2
noncomputable abbrev Q4 : List (FuncId × Sp O) :=
  (26, .p c_rpart) ::
  Q3
abbrev nO (s : Bool) (v : AV) : AO O := .cells 32 [.bool s, v] 2
noncomputable abbrev j_from0 (h l : Int) : St O := ⟨Tr.setL [(0, .int .i64 h), (1, .int .u64 l), (4, .ptr 0 0), (5, .ptr 1 0), (6, .int .i64 0)] .leaf, Tr.setL [(0, nO false .nils), (1, nO false .nils)] .leaf, 2, 35⟩
noncomputable abbrev j_from (h l : Int) (zs : List Rw) (n e room : Nat) (i : Int) : St O := ⟨Tr.setL [(0, .int .i64 h), (1, .int .u64 l), (4, .ptr 0 0), (5, .ptr 1 0), (6, .int .i64 i)] .leaf,
  Tr.setL [(0, nO false .nils), (1, nO false (.sl 2 0 n e)), (2, bo zs room)] .leaf, 3, 35⟩
noncomputable abbrev j_wide1 (s : Bool) (l c r : Nat) (xs : List Rw) (hi_ lo_ i : Int) : St O := ⟨Tr.setL [(1, .ptr 1 0), (4, .ptr 2 0), (5, .int .u64 hi_), (6, .int .u64 lo_), (7, .int .i64 i)] .leaf,
  Tr.setL [(0, bo xs r), (1, nO s (.sl 0 0 l c)), (2, nO s (.sl 0 0 l c))] .leaf, 3, 46⟩
noncomputable abbrev j_wide0 (s : Bool) (l c r : Nat) (xs : List Rw) (u : Bool) (zs : List Rw) (j e room : Nat) (hi_ lo_ i : Int) : St O := ⟨Tr.setL [(1, .ptr 1 0), (4, .ptr 2 0), (5, .int .u64 hi_), (6, .int .u64 lo_), (7, .int .i64 i)] .leaf,
  Tr.setL [(0, bo xs r), (1, nO s (.sl 0 0 l c)), (2, nO u (.sl 4 0 j e)), (4, bo zs room)] .leaf, 5, 46⟩
noncomputable abbrev j_times (s t : Bool) (l c r k d q : Nat) (xs ys zs : List Rw) (n e room : Nat) (i : Int) : St O := ⟨Tr.setL [(2, .ptr 2 0), (3, .ptr 3 0), (4, .ptr 4 0), (5, .sl 5 0 n e), (6, .int .i64 i)] .leaf,
  Tr.setL [(0, bo xs r), (1, bo ys q), (2, nO s (.sl 0 0 l c)), (3, nO t (.sl 1 0 k d)), (4, nO false .nils), (5, bo zs room)] .leaf, 6, 36⟩
noncomputable abbrev j_div (s t : Bool) (l c r k d q : Nat) (xs ys qs zs : List Rw) (n e room : Nat) (i : Int) : St O := ⟨Tr.setL [(2, .ptr 2 0), (3, .ptr 3 0), (4, .ptr 4 0), (5, .ptr 5 0), (6, .ptr 7 0), (7, .sl 8 0 n e), (8, .int .i64 i)] .leaf,
  Tr.setL [(0, bo xs r), (1, bo ys q), (2, nO s (.sl 0 0 l c)), (3, nO t (.sl 1 0 k d)), (4, nO false .nils), (5, nO false .nils), (6, bo qs (l * [Sh.b].length)), (7, nO false (.sl 6 0 l l)), (8, bo zs room)] .leaf, 9, 70⟩
end Go.Tb.W
