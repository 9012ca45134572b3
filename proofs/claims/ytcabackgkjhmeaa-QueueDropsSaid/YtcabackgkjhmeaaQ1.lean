/- Queues: what the functions of a line, and of the library's heaps, tell and leave. -/
import Derived.Test.YtcabackgkjhmeaaM22
import Derived.Test.YtcabackgkjhmeaaProg
set_option linter.all false
set_option maxRecDepth 100000
namespace Go.Tb.W
open Go Go.Proofs
noncomputable abbrev P : Program := Try.prog
/-- The layer's own objects: a queue (what comes, in order; the next number), and the document's. -/
inductive O where
  | q (l : List Rw) (sq : Int)
  | r (l : List Rw)
abbrev eS : List Sh := [.i .i64, .i .i64, .s, .i .i64]
abbrev iS : List Sh := [.i .i64, .i .i64, .s]
def cmpI (a b : Int) : Int := if a < b then -1 else if b < a then 1 else 0
def orI (a b : Int) : Int := if a = 0 then b else a
def c_nan (args : List AV) (K : AV → Prop) : Prop := match args with
  | [.int .i64 a] => K (.bool false)
  | _ => False
def c_cmp (args : List AV) (K : AV → Prop) : Prop := match args with
  | [.int .i64 a, .int .i64 b] => K (.int .i64 (cmpI a b))
  | _ => False
def c_or (args : List AV) (hp : Tr (AO O)) (nx : Nat) (K : AV → Tr (AO O) → Nat → Prop) : Prop := match args with
  | [.sl n 0 2 2] => match Nat.blt n 16777215, hp.get n with
    | true, some (.cells 3 [.int .i64 a, .int .i64 b] 2) => K (.int .i64 (orI a b)) hp nx
    | _, _ => False
  | _ => False
def lessE (x y : Rw) : Bool := decide (orI (cmpI (x.i 0) (y.i 0)) (cmpI (x.i 3) (y.i 3)) < 0)
abbrev eO (xs : List Rw) (room : Nat) : AO O := .rows 66 eS xs room
abbrev qO (v : AV) (sq : Int) : AO O := .cells 27 [v, .int .i64 sq] 2
def inL (i : Int) (l : Nat) : Bool := decide (0 ≤ i) && decide (i < (l : Int))
def c_len (args : List AV) (hp : Tr (AO O)) (nx : Nat) (K : AV → Tr (AO O) → Nat → Prop) : Prop := match args with
  | [.sl n 0 l c] => match Nat.blt n 16777215, hp.get n with
    | true, some (.rows 66 [.i .i64, .i .i64, .s, .i .i64] xs room) => K (.int .i64 l) hp nx
    | _, _ => False
  | [.nils] => K (.int .i64 0) hp nx
  | _ => False
def c_less (args : List AV) (hp : Tr (AO O)) (nx : Nat) (K : AV → Tr (AO O) → Nat → Prop) : Prop := match args with
  | [.sl n 0 l c, .int .i64 i, .int .i64 k] => match Nat.blt n 16777215, hp.get n with
    | true, some (.rows 66 [.i .i64, .i .i64, .s, .i .i64] xs room) => must (inL i l && inL k l) (xget xs i.toNat fun x => xget xs k.toNat fun y => K (.bool (lessE x y)) hp nx)
    | _, _ => False
  | _ => False
/-- A row of a thing's four values. -/
abbrev mkE (a b : Int) (s : ByteArray) (d : Int) : Rw := rwA [.int .i64 a, .int .i64 b, .str s, .int .i64 d]
def nE (x : Rw) : Rw := mkE (x.i 0) (x.i 1) (x.s 2) (x.i 3)
def swapL (xs : List Rw) (i k : Nat) : List Rw := match xs[i]?, xs[k]? with
  | some x, some y => (xs.set i (nE y)).set k (nE x)
  | _, _ => xs
def c_swap (args : List AV) (hp : Tr (AO O)) (nx : Nat) (K : AV → Tr (AO O) → Nat → Prop) : Prop := match args with
  | [.sl n 0 l c, .int .i64 i, .int .i64 k] => match Nat.blt n 16777215, hp.get n with
    | true, some (.rows 66 [.i .i64, .i .i64, .s, .i .i64] xs room) => l ≤ xs.length ∧ must (inL i l && inL k l) (K (.tup []) (hp.set n (some (eO (swapL xs i.toNat k.toNat) room))) nx)
    | _, _ => False
  | _ => False
/-- Both of a queue's objects. -/
def both (n m : Nat) : Bool := Nat.blt n 16777215 && (Nat.blt m 16777215 && !Nat.beq n m)
def c_lpop (args : List AV) (hp : Tr (AO O)) (nx : Nat) (K : AV → Tr (AO O) → Nat → Prop) : Prop := match args with
  | [.ptr n 0] => match hp.get n with
    | some (.cells 27 [.sl m 0 l c, .int .i64 sq] 2) => match both n m, hp.get m with
      | true, some (.rows 66 [.i .i64, .i .i64, .s, .i .i64] xs room) => (1 ≤ l ∧ l ≤ xs.length) ∧ ∀ a b s d, K (.iface 66 (.agg [.int .i64 a, .int .i64 b, .str s, .int .i64 d])) ((hp.set m (some (eO xs room))).set n (some (qO (.sl m 0 (l - 1) c) sq))) nx
      | _, _ => False
    | _ => False
  | _ => False
def c_lpush (args : List AV) (hp : Tr (AO O)) (nx : Nat) (K : AV → Tr (AO O) → Nat → Prop) : Prop := match args with
  | [.ptr n 0, .iface 66 (.agg [.int .i64 a, .int .i64 b, .str s, .int .i64 d])] => match hp.get n, hp.get nx, Nat.blt nx 16777215 with
    | some (.cells 27 [.sl m 0 l c, .int .i64 sq] 2), none, true => match both n m, hp.get m with
      | true, some (.rows 66 [.i .i64, .i .i64, .s, .i .i64] xs room) => (l ≤ xs.length ∧ c * 4 ≤ room ∧ l ≤ 100000) ∧ ∀ c' : Nat, l + 1 ≤ c' → c' ≤ 9223372036854775807 →
        K (.tup []) (((hp.set nx (some (eO (xs.take l ++ [rwA [.int .i64 a, .int .i64 b, .str s, .int .i64 d]]) (c' * 4)))).set m (some .gone)).set n (some (qO (.sl nx 0 (l + 1) c') sq))) (nx + 1)
      | _, _ => False
    | some (.cells 27 [.nils, .int .i64 sq] 2), none, true => match Nat.blt n 16777215 with
      | true => ∀ c' : Nat, 1 ≤ c' → c' ≤ 9223372036854775807 →
        K (.tup []) ((hp.set nx (some (eO [rwA [.int .i64 a, .int .i64 b, .str s, .int .i64 d]] (c' * 4)))).set n (some (qO (.sl nx 0 1 c') sq))) (nx + 1)
      | _ => False
    | _, _, _ => False
  | _ => False
/-- Up: as long as it is less than its parent. -/
def upF : Nat → List Rw → Nat → List Rw
  | 0, xs, _ => xs
  | f + 1, xs, j => match xs[j]?, xs[(j - 1) / 2]? with
    | some x, some p => if (j - 1) / 2 = j then xs else if lessE x p then upF f (swapL xs ((j - 1) / 2) j) ((j - 1) / 2) else xs
    | _, _ => xs
/-- The lesser one of two children. -/
def childF (xs : List Rw) (i n : Nat) : Nat := match xs[2 * i + 1]?, xs[2 * i + 2]? with
  | some a, some b => if 2 * i + 2 < n ∧ lessE b a = true then 2 * i + 2 else 2 * i + 1
  | _, _ => 2 * i + 1
/-- Down: as long as the lesser one of its children is less. -/
def downF : Nat → List Rw → Nat → Nat → List Rw
  | 0, xs, _, _ => xs
  | f + 1, xs, i, n => if n ≤ 2 * i + 1 then xs else match xs[childF xs i n]?, xs[i]? with
    | some a, some b => if lessE a b then downF f (swapL xs i (childF xs i n)) (childF xs i n) n else xs
    | _, _ => xs
def c_up (args : List AV) (hp : Tr (AO O)) (nx : Nat) (K : AV → Tr (AO O) → Nat → Prop) : Prop := match args with
  | [.iface 64 (.ptr n 0), .int .i64 j] => match hp.get n with
    | some (.cells 27 [.sl m 0 l c, .int .i64 sq] 2) => match both n m, hp.get m with
      | true, some (.rows 66 [.i .i64, .i .i64, .s, .i .i64] xs room) => (l ≤ xs.length ∧ l ≤ 100001) ∧ must (inL j l) (K (.tup []) ((hp.set m (some (eO (upF (j.toNat + 1) xs j.toNat) room))).set n (some (qO (.sl m 0 l c) sq))) nx)
      | _, _ => False
    | _ => False
  | _ => False
def c_down (args : List AV) (hp : Tr (AO O)) (nx : Nat) (K : AV → Tr (AO O) → Nat → Prop) : Prop := match args with
  | [.iface 64 (.ptr n 0), .int .i64 i, .int .i64 k] => match hp.get n with
    | some (.cells 27 [.sl m 0 l c, .int .i64 sq] 2) => match both n m, hp.get m with
      | true, some (.rows 66 [.i .i64, .i .i64, .s, .i .i64] xs room) => (l ≤ xs.length ∧ l ≤ 100001 ∧ 0 ≤ i ∧ i ≤ l ∧ 0 ≤ k ∧ k ≤ l) ∧ ∀ b : Bool, K (.bool b) ((hp.set m (some (eO (downF (k.toNat + 1) xs i.toNat k.toNat) room))).set n (some (qO (.sl m 0 l c) sq))) nx
      | _, _ => False
    | _ => False
  | _ => False
noncomputable abbrev N0 : List (FuncId × Sp O) := []
noncomputable abbrev A0 : List (FuncId × Sp O) :=
  (51, .p c_nan) ::
  (52, .p c_nan) ::
  []
noncomputable abbrev A1 : List (FuncId × Sp O) :=
  (49, .p c_cmp) ::
  (50, .p c_cmp) ::
  (48, .h c_or) ::
  []
noncomputable abbrev A2 : List (FuncId × Sp O) :=
  (45, .h c_len) ::
  (46, .h c_less) ::
  (47, .h c_swap) ::
  (53, .h c_lpop) ::
  (54, .h c_lpush) ::
  []
noncomputable abbrev j_or (a b i : Int) : St O := ⟨Tr.setL [(3, .int .i64 0), (6, .sl 0 0 2 2), (7, .int .i64 2), (8, .int .i64 i)] .leaf, Tr.setL [(0, .cells 3 [.int .i64 a, .int .i64 b] 2)] .leaf, 1, 18⟩
noncomputable abbrev j_up (l c room : Nat) (xs : List Rw) (sq j : Int) : St O := ⟨Tr.setL [(0, .iface 64 (.ptr 0 0)), (1, .int .i64 j)] .leaf, Tr.setL [(0, qO (.sl 1 0 l c) sq), (1, eO xs room)] .leaf, 2, 23⟩
noncomputable abbrev j_down (l c room : Nat) (xs : List Rw) (sq i0 k i : Int) : St O := ⟨Tr.setL [(0, .iface 64 (.ptr 0 0)), (1, .int .i64 i0), (2, .int .i64 k), (7, .int .i64 i)] .leaf, Tr.setL [(0, qO (.sl 1 0 l c) sq), (1, eO xs room)] .leaf, 2, 48⟩
end Go.Tb.W
