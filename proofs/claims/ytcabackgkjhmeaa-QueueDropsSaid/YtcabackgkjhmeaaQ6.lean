/- Queues: what the functions of the library's heaps tell and leave. -/
import Derived.Test.YtcabackgkjhmeaaQ1
set_option linter.all false
set_option maxRecDepth 100000
namespace Go.Tb.W
open Go Go.Proofs
def c_hpush (args : List AV) (hp : Tr (AO O)) (nx : Nat) (K : AV → Tr (AO O) → Nat → Prop) : Prop := match args with
  | [.iface 64 (.ptr n 0), .iface 66 (.agg [.int .i64 a, .int .i64 b, .str s, .int .i64 d])] => match hp.get n, hp.get nx, Nat.blt nx 16777215 with
    | some (.cells 27 [.sl m 0 l c, .int .i64 sq] 2), none, true => match both n m, hp.get m with
      | true, some (.rows 66 [.i .i64, .i .i64, .s, .i .i64] xs room) => (l ≤ xs.length ∧ c * 4 ≤ room ∧ l ≤ 100000) ∧ ∀ c' : Nat, l + 1 ≤ c' → c' ≤ 9223372036854775807 →
        K (.tup []) (((hp.set nx (some (eO (upF (l + 1) (xs.take l ++ [mkE a b s d]) l) (c' * 4)))).set m (some .gone)).set n (some (qO (.sl nx 0 (l + 1) c') sq))) (nx + 1)
      | _, _ => False
    | some (.cells 27 [.nils, .int .i64 sq] 2), none, true => match Nat.blt n 16777215 with
      | true => ∀ c' : Nat, 1 ≤ c' → c' ≤ 9223372036854775807 →
        K (.tup []) ((hp.set nx (some (eO (upF 1 [mkE a b s d] 0) (c' * 4)))).set n (some (qO (.sl nx 0 1 c') sq))) (nx + 1)
      | _ => False
    | _, _, _ => False
  | _ => False
def c_hpop (args : List AV) (hp : Tr (AO O)) (nx : Nat) (K : AV → Tr (AO O) → Nat → Prop) : Prop := match args with
  | [.iface 64 (.ptr n 0)] => match hp.get n with
    | some (.cells 27 [.sl m 0 l c, .int .i64 sq] 2) => match both n m, hp.get m with
      | true, some (.rows 66 [.i .i64, .i .i64, .s, .i .i64] xs room) => (1 ≤ l ∧ l ≤ xs.length ∧ l ≤ 100001) ∧ ∀ a b s d,
        K (.iface 66 (.agg [.int .i64 a, .int .i64 b, .str s, .int .i64 d])) ((hp.set m (some (eO (downF l (swapL xs 0 (l - 1)) 0 (l - 1)) room))).set n (some (qO (.sl m 0 (l - 1) c) sq))) nx
      | _, _ => False
    | _ => False
  | _ => False
/-- All of it made a heap. -/
def initF : Nat → List Rw → Nat → List Rw
  | 0, xs, _ => xs
  | i + 1, xs, n => initF i (downF (n + 1) xs i n) n
def c_hinit (args : List AV) (hp : Tr (AO O)) (nx : Nat) (K : AV → Tr (AO O) → Nat → Prop) : Prop := match args with
  | [.iface 64 (.ptr n 0)] => match hp.get n with
    | some (.cells 27 [.sl m 0 l c, .int .i64 sq] 2) => match both n m, hp.get m with
      | true, some (.rows 66 [.i .i64, .i .i64, .s, .i .i64] xs room) => (l ≤ xs.length ∧ l ≤ 100001) ∧
        K (.tup []) ((hp.set m (some (eO (initF (l / 2) xs l) room))).set n (some (qO (.sl m 0 l c) sq))) nx
      | _, _ => False
    | some (.cells 27 [.nils, .int .i64 sq] 2) => match Nat.blt n 16777215 with
      | true => K (.tup []) (hp.set n (some (qO .nils sq))) nx
      | _ => False
    | _ => False
  | _ => False
abbrev kO (kd : Int) : AO O := .cells 3 [.int .i64 kd] 1
def c_drop1 (args : List AV) (hp : Tr (AO O)) (nx : Nat) (K : AV → Tr (AO O) → Nat → Prop) : Prop := match args with
  | [.agg [.int .i64 a, .int .i64 b, .str s, .int .i64 d], .ptr k 0] => match Nat.blt k 16777215, hp.get k with
    | true, some (.cells 3 [.int .i64 kd] 1) => K (.bool (b == kd)) hp nx
    | _, _ => False
  | _ => False
def idxF (xs : List Rw) (kd : Int) : Int := match xs.findIdx? (fun x => x.i 1 == kd) with | some i => (i : Int) | none => -1
def c_indexf (args : List AV) (hp : Tr (AO O)) (nx : Nat) (K : AV → Tr (AO O) → Nat → Prop) : Prop := match args with
  | [.sl m 0 l c, .fn (.func 24) [] [.ptr k 0]] => match both m k, hp.get m, hp.get k with
    | true, some (.rows 66 [.i .i64, .i .i64, .s, .i .i64] xs room), some (.cells 3 [.int .i64 kd] 1) => l ≤ xs.length ∧ K (.int .i64 (idxF (xs.take l) kd)) hp nx
    | _, _, _ => False
  | [.nils, .fn (.func 24) [] [.ptr k 0]] => match Nat.blt k 16777215, hp.get k with
    | true, some (.cells 3 [.int .i64 kd] 1) => K (.int .i64 (-1)) hp nx
    | _, _ => False
  | _ => False
def NR (xs : List Rw) : Prop := ∀ x ∈ xs, nE x = x
def c_deletef (args : List AV) (hp : Tr (AO O)) (nx : Nat) (K : AV → Tr (AO O) → Nat → Prop) : Prop := match args with
  | [.sl m 0 l c, .fn (.func 24) [] [.ptr k 0]] => match both m k, hp.get m, hp.get k with
    | true, some (.rows 66 [.i .i64, .i .i64, .s, .i .i64] xs room), some (.cells 3 [.int .i64 kd] 1) => (l ≤ xs.length ∧ NR (xs.take l)) ∧ ∀ (ys : List Rw) (i : Nat),
      (ys.length = xs.length ∧ i ≤ l ∧ ys.take i = (xs.take l).filter (fun x => !(x.i 1 == kd))) → K (.sl m 0 i c) ((hp.set k (some (kO kd))).set m (some (eO ys room))) nx
    | _, _, _ => False
  | [.nils, .fn (.func 24) [] [.ptr k 0]] => match Nat.blt k 16777215, hp.get k with
    | true, some (.cells 3 [.int .i64 kd] 1) => K .nils hp nx
    | _, _ => False
  | _ => False
noncomputable abbrev A3 : List (FuncId × Sp O) :=
  (26, .h c_up) ::
  (27, .h c_down) ::
  A2
noncomputable abbrev A5 : List (FuncId × Sp O) :=
  (24, .h c_drop1) ::
  []
noncomputable abbrev A6 : List (FuncId × Sp O) :=
  (28, .h c_indexf) ::
  A5
noncomputable abbrev A4 : List (FuncId × Sp O) :=
  (21, .h c_hpush) ::
  (22, .h c_hpop) ::
  (25, .h c_hinit) ::
  (23, .h c_deletef) ::
  []
noncomputable abbrev j_init (l c room : Nat) (xs : List Rw) (sq i : Int) : St O := ⟨Tr.setL [(0, .iface 64 (.ptr 0 0)), (2, .int .i64 l), (3, .int .i64 i)] .leaf, Tr.setL [(0, qO (.sl 1 0 l c) sq), (1, eO xs room)] .leaf, 2, 17⟩
noncomputable abbrev j_init0 (sq : Int) : St O := ⟨Tr.setL [(0, .iface 64 (.ptr 0 0)), (2, .int .i64 0), (3, .int .i64 (-1))] .leaf, Tr.setL [(0, qO .nils sq)] .leaf, 1, 17⟩
noncomputable abbrev j_idx (l c room : Nat) (xs : List Rw) (kd i : Int) : St O := ⟨Tr.setL [(0, .sl 0 0 l c), (1, .fn (.func 24) [] [.ptr 1 0]), (7, .int .i64 l), (8, .int .i64 i)] .leaf, Tr.setL [(0, eO xs room), (1, kO kd)] .leaf, 2, 19⟩
noncomputable abbrev j_idx0 (kd : Int) : St O := ⟨Tr.setL [(0, .nils), (1, .fn (.func 24) [] [.ptr 0 0]), (7, .int .i64 0), (8, .int .i64 0)] .leaf, Tr.setL [(0, kO kd)] .leaf, 1, 19⟩
noncomputable abbrev j_del (l c room : Nat) (xs : List Rw) (kd i k : Int) : St O := ⟨Tr.setL [(0, .sl 0 0 l c), (1, .fn (.func 24) [] [.ptr 1 0]), (5, .int .i64 i), (6, .int .i64 k)] .leaf, Tr.setL [(0, eO xs room), (1, kO kd)] .leaf, 2, 42⟩
end Go.Tb.W
