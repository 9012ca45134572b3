/- The document's numbers, bit by bit: what its functions tell. -/
import Derived.Test.YtkpkhddlijokcaaU1
set_option linter.all false
set_option maxRecDepth 100000
namespace Go.Tb.W
open Go Go.Proofs
/-- What bits are worth, the lowest first; one of them. -/
def bv : List Rw → Nat
  | [] => 0
  | x :: r => match x.b 0 with | true => 1 + 2 * bv r | false => 2 * bv r
def bit (xs : List Rw) (i : Nat) : Bool := match xs[i]? with | some x => x.b 0 | none => false
def c1 (b : Bool) : Int := match b with | true => 1 | false => 0
def sv (s : Bool) (n : Nat) : Int := match s with | true => -(n : Int) | false => n
/-- The number v: its sign, and its bits, of which the last one isn't 0. -/
def NR (s : Bool) (xs : List Rw) (k : Nat) (v : Int) : Prop := k ≤ xs.length ∧ (k = 0 ∨ bit xs (k - 1) = true) ∧ sv s (bv (xs.take k)) = v ∧ (s = true → v < 0)
def nv (s : Bool) (xs : List Rw) (k : Nat) : Int := sv s (bv (xs.take k))
def Pre (s : Bool) (xs : List Rw) (k : Nat) : Prop := NR s xs k (nv s xs k) ∧ k ≤ 900
def lenB (xs : List Rw) (l : Nat) : Prop := l ≤ xs.length ∧ l ≤ 2000
def c_at (args : List AV) (hp : Tr (AO O)) (nx : Nat) (K : AV → Tr (AO O) → Nat → Prop) : Prop := match args with
  | [.sl n 0 l c, .int .i64 i] => match Nat.blt n 16777215, hp.get n with
    | true, some (.rows 4 [.b] xs room) => (0 ≤ i ∧ l ≤ xs.length) ∧ K (.bool (bit (xs.take l) i.toNat)) hp nx
    | _, _ => False
  | _ => False
def c_bare (args : List AV) (hp : Tr (AO O)) (nx : Nat) (K : AV → Tr (AO O) → Nat → Prop) : Prop := match args with
  | [.agg [.bool s, .sl n 0 l c]] => match Nat.blt n 16777215, hp.get n with
    | true, some (.rows 4 [.b] xs room) => lenB xs l ∧ ∀ k : Nat, (k ≤ l ∧ bv (xs.take k) = bv (xs.take l) ∧ (k = 0 ∨ bit xs (k - 1) = true)) → K (.agg [.bool (s && decide (0 < k)), .sl n 0 k c]) hp nx
    | _, _ => False
  | _ => False
def c_rsum (args : List AV) (hp : Tr (AO O)) (nx : Nat) (K : AV → Tr (AO O) → Nat → Prop) : Prop := match args with
  | [.sl n 0 l c, .sl m 0 k d] => match Nat.blt n 16777215 && Nat.blt m 16777215 && Nat.blt nx 16777215 && !Nat.beq n m, hp.get n, hp.get m, hp.get nx with
    | true, some (.rows 4 [.b] xs r1), some (.rows 4 [.b] ys r2), none => (lenB xs l ∧ lenB ys k) ∧ ∀ (zs : List Rw) (e room : Nat), (bv zs = bv (xs.take l) + bv (ys.take k) ∧ zs.length ≤ Nat.max l k + 1) →
      K (.sl nx 0 zs.length e) (hp.set nx (some (.rows 4 [.b] zs room))) (nx + 1)
    | _, _, _, _ => False
  | _ => False
def c_greater (args : List AV) (hp : Tr (AO O)) (nx : Nat) (K : AV → Tr (AO O) → Nat → Prop) : Prop := match args with
  | [.sl n 0 l c, .sl m 0 k d] => match Nat.blt n 16777215 && Nat.blt m 16777215 && !Nat.beq n m, hp.get n, hp.get m with
    | true, some (.rows 4 [.b] xs r1), some (.rows 4 [.b] ys r2) => (lenB xs l ∧ lenB ys k) ∧ ∀ r, CmpR (bv (xs.take l)) (bv (ys.take k)) r → K (.int .i64 r) hp nx
    | _, _, _ => False
  | _ => False
def c_off (args : List AV) (hp : Tr (AO O)) (nx : Nat) (K : AV → Tr (AO O) → Nat → Prop) : Prop := match args with
  | [.sl n 0 l c, .sl m 0 k d] => match Nat.blt n 16777215 && Nat.blt m 16777215 && Nat.blt nx 16777215 && !Nat.beq n m, hp.get n, hp.get m, hp.get nx with
    | true, some (.rows 4 [.b] xs r1), some (.rows 4 [.b] ys r2), none => (lenB xs l ∧ lenB ys k ∧ bv (ys.take k) ≤ bv (xs.take l)) ∧ ∀ (zs : List Rw) (e room : Nat), (bv zs + bv (ys.take k) = bv (xs.take l) ∧ zs.length = l) →
      K (.sl nx 0 zs.length e) (hp.set nx (some (.rows 4 [.b] zs room))) (nx + 1)
    | _, _, _, _ => False
  | _ => False
abbrev bo (xs : List Rw) (room : Nat) : AO O := .rows 4 [.b] xs room
noncomputable abbrev Q0 : List (FuncId × Sp O) :=
  (42, .h c_at) ::
  (41, .h c_bare) ::
  []
noncomputable abbrev Q1 : List (FuncId × Sp O) :=
  (55, .h c_rsum) ::
  (56, .h c_greater) ::
  (57, .h c_off) ::
  Q0
noncomputable abbrev j_bare (s : Bool) (l c r : Nat) (xs : List Rw) (k : Int) : St O := ⟨Tr.setL [(1, .ptr 1 0), (2, .ptr 2 0), (3, .int .i64 k)] .leaf,
  Tr.setL [(0, bo xs r), (1, .cells 32 [.bool s, .sl 0 0 l c] 2), (2, .cells 32 [.bool false, .nils] 2)] .leaf, 3, 31⟩
noncomputable abbrev j_rsum (l c r k d q : Nat) (xs ys zs : List Rw) (n e room : Nat) (cy i : Int) : St O := ⟨Tr.setL [(0, .sl 0 0 l c), (1, .sl 1 0 k d), (5, .sl 2 0 n e), (6, .int .i64 cy), (7, .int .i64 i)] .leaf,
  Tr.setL [(0, bo xs r), (1, bo ys q), (2, bo zs room)] .leaf, 3, 46⟩
noncomputable abbrev j_greater (l c r k d q : Nat) (xs ys : List Rw) (i : Int) : St O := ⟨Tr.setL [(0, .sl 0 0 l c), (1, .sl 1 0 k d), (5, .int .i64 i)] .leaf, Tr.setL [(0, bo xs r), (1, bo ys q)] .leaf, 2, 26⟩
noncomputable abbrev j_off (l c r k d q : Nat) (xs ys zs : List Rw) (n e room : Nat) (cy i : Int) : St O := ⟨Tr.setL [(0, .sl 0 0 l c), (1, .sl 1 0 k d), (5, .sl 2 0 n e), (6, .int .i64 cy), (7, .int .i64 i)] .leaf,
  Tr.setL [(0, bo xs r), (1, bo ys q), (2, bo zs room)] .leaf, 3, 40⟩
noncomputable abbrev j_of (s : Bool) (zs : List Rw) (n e room : Nat) (m i : Int) : St O := ⟨Tr.setL [(2, .ptr 0 0), (3, .ptr 1 0), (4, .int .u64 m), (5, .int .i64 i)] .leaf,
  Tr.setL [(0, .cells 32 [.bool false, .nils] 2), (1, .cells 32 [.bool s, .sl 2 0 n e] 2), (2, bo zs room)] .leaf, 3, 32⟩
noncomputable abbrev j_of0 (s : Bool) (m : Int) : St O := ⟨Tr.setL [(2, .ptr 0 0), (3, .ptr 1 0), (4, .int .u64 m), (5, .int .i64 0)] .leaf,
  Tr.setL [(0, .cells 32 [.bool false, .nils] 2), (1, .cells 32 [.bool s, .nils] 2)] .leaf, 2, 32⟩
end Go.Tb.W
