/- Texts of this proof, run together. -/
import Derived.Test.YtcabackgkjhmeaaM22
import Derived.Test.YtcabackgkjhmeaaProg
/- Queues: what the functions of a line, and of the library's heaps, tell and leave. -/
set_option linter.all false
set_option maxRecDepth 100000
namespace Go.Tb.W
open Go Go.Proofs
noncomputable abbrev P : Program := Try.prog
/-- The layer's own objects: a queue (what comes, in order; the next number), and the document's. -/
inductive O where
  | q (l : List Rw) (sq : Int)
  | r (l : List Rw)
abbrev eS : List Sh := [.i .i64, .i .i64, .s, .i .i64]
abbrev iS : List Sh := [.i .i64, .i .i64, .s]
def cmpI (a b : Int) : Int := if a < b then -1 else if b < a then 1 else 0
def orI (a b : Int) : Int := if a = 0 then b else a
def c_nan (args : List AV) (K : AV → Prop) : Prop := match args with
  | [.int .i64 a] => K (.bool false)
  | _ => False
def c_cmp (args : List AV) (K : AV → Prop) : Prop := match args with
  | [.int .i64 a, .int .i64 b] => K (.int .i64 (cmpI a b))
  | _ => False
def c_or (args : List AV) (hp : Tr (AO O)) (nx : Nat) (K : AV → Tr (AO O) → Nat → Prop) : Prop := match args with
  | [.sl n 0 2 2] => match Nat.blt n 16777215, hp.get n with
    | true, some (.cells 3 [.int .i64 a, .int .i64 b] 2) => K (.int .i64 (orI a b)) hp nx
    | _, _ => False
  | _ => False
def lessE (x y : Rw) : Bool := decide (orI (cmpI (x.i 0) (y.i 0)) (cmpI (x.i 3) (y.i 3)) < 0)
abbrev eO (xs : List Rw) (room : Nat) : AO O := .rows 66 eS xs room
abbrev qO (v : AV) (sq : Int) : AO O := .cells 27 [v, .int .i64 sq] 2
def inL (i : Int) (l : Nat) : Bool := decide (0 ≤ i) && decide (i < (l : Int))
def c_len (args : List AV) (hp : Tr (AO O)) (nx : Nat) (K : AV → Tr (AO O) → Nat → Prop) : Prop := match args with
  | [.sl n 0 l c] => match Nat.blt n 16777215, hp.get n with
    | true, some (.rows 66 [.i .i64, .i .i64, .s, .i .i64] xs room) => K (.int .i64 l) hp nx
    | _, _ => False
  | [.nils] => K (.int .i64 0) hp nx
  | _ => False
def c_less (args : List AV) (hp : Tr (AO O)) (nx : Nat) (K : AV → Tr (AO O) → Nat → Prop) : Prop := match args with
  | [.sl n 0 l c, .int .i64 i, .int .i64 k] => match Nat.blt n 16777215, hp.get n with
    | true, some (.rows 66 [.i .i64, .i .i64, .s, .i .i64] xs room) => must (inL i l && inL k l) (xget xs i.toNat fun x => xget xs k.toNat fun y => K (.bool (lessE x y)) hp nx)
    | _, _ => False
  | _ => False
/-- A row of a thing's four values. -/
abbrev mkE (a b : Int) (s : ByteArray) (d : Int) : Rw := rwA [.int .i64 a, .int .i64 b, .str s, .int .i64 d]
def nE (x : Rw) : Rw := mkE (x.i 0) (x.i 1) (x.s 2) (x.i 3)
def swapL (xs : List Rw) (i k : Nat) : List Rw := match xs[i]?, xs[k]? with
  | some x, some y => (xs.set i (nE y)).set k (nE x)
  | _, _ => xs
def c_swap (args : List AV) (hp : Tr (AO O)) (nx : Nat) (K : AV → Tr (AO O) → Nat → Prop) : Prop := match args with
  | [.sl n 0 l c, .int .i64 i, .int .i64 k] => match Nat.blt n 16777215, hp.get n with
    | true, some (.rows 66 [.i .i64, .i .i64, .s, .i .i64] xs room) => l ≤ xs.length ∧ must (inL i l && inL k l) (K (.tup []) (hp.set n (some (eO (swapL xs i.toNat k.toNat) room))) nx)
    | _, _ => False
  | _ => False
/-- Both of a queue's objects. -/
def both (n m : Nat) : Bool := Nat.blt n 16777215 && (Nat.blt m 16777215 && !Nat.beq n m)
def c_lpop (args : List AV) (hp : Tr (AO O)) (nx : Nat) (K : AV → Tr (AO O) → Nat → Prop) : Prop := match args with
  | [.ptr n 0] => match hp.get n with
    | some (.cells 27 [.sl m 0 l c, .int .i64 sq] 2) => match both n m, hp.get m with
      | true, some (.rows 66 [.i .i64, .i .i64, .s, .i .i64] xs room) => (1 ≤ l ∧ l ≤ xs.length) ∧ ∀ a b s d, K (.iface 66 (.agg [.int .i64 a, .int .i64 b, .str s, .int .i64 d])) ((hp.set m (some (eO xs room))).set n (some (qO (.sl m 0 (l - 1) c) sq))) nx
      | _, _ => False
    | _ => False
  | _ => False
def c_lpush (args : List AV) (hp : Tr (AO O)) (nx : Nat) (K : AV → Tr (AO O) → Nat → Prop) : Prop := match args with
  | [.ptr n 0, .iface 66 (.agg [.int .i64 a, .int .i64 b, .str s, .int .i64 d])] => match hp.get n, hp.get nx, Nat.blt nx 16777215 with
    | some (.cells 27 [.sl m 0 l c, .int .i64 sq] 2), none, true => match both n m, hp.get m with
      | true, some (.rows 66 [.i .i64, .i .i64, .s, .i .i64] xs room) => (l ≤ xs.length ∧ c * 4 ≤ room ∧ l ≤ 100000) ∧ ∀ c' : Nat, l + 1 ≤ c' → c' ≤ 9223372036854775807 →
        K (.tup []) (((hp.set nx (some (eO (xs.take l ++ [rwA [.int .i64 a, .int .i64 b, .str s, .int .i64 d]]) (c' * 4)))).set m (some .gone)).set n (some (qO (.sl nx 0 (l + 1) c') sq))) (nx + 1)
      | _, _ => False
    | some (.cells 27 [.nils, .int .i64 sq] 2), none, true => match Nat.blt n 16777215 with
      | true => ∀ c' : Nat, 1 ≤ c' → c' ≤ 9223372036854775807 →
        K (.tup []) ((hp.set nx (some (eO [rwA [.int .i64 a, .int .i64 b, .str s, .int .i64 d]] (c' * 4)))).set n (some (qO (.sl nx 0 1 c') sq))) (nx + 1)
      | _ => False
    | _, _, _ => False
  | _ => False
/-- Up: as long as it is less than its parent. -/
def upF : Nat → List Rw → Nat → List Rw
  | 0, xs, _ => xs
  | f + 1, xs, j => match xs[j]?, xs[(j - 1) / 2]? with
    | some x, some p => if (j - 1) / 2 = j then xs else if lessE x p then upF f (swapL xs ((j - 1) / 2) j) ((j - 1) / 2) else xs
    | _, _ => xs
/-- The lesser one of two children. -/
def childF (xs : List Rw) (i n : Nat) : Nat := match xs[2 * i + 1]?, xs[2 * i + 2]? with
  | some a, some b => if 2 * i + 2 < n ∧ lessE b a = true then 2 * i + 2 else 2 * i + 1
  | _, _ => 2 * i + 1
/-- Down: as long as the lesser one of its children is less. -/
def downF : Nat → List Rw → Nat → Nat → List Rw
  | 0, xs, _, _ => xs
  | f + 1, xs, i, n => if n ≤ 2 * i + 1 then xs else match xs[childF xs i n]?, xs[i]? with
    | some a, some b => if lessE a b then downF f (swapL xs i (childF xs i n)) (childF xs i n) n else xs
    | _, _ => xs
def c_up (args : List AV) (hp : Tr (AO O)) (nx : Nat) (K : AV → Tr (AO O) → Nat → Prop) : Prop := match args with
  | [.iface 64 (.ptr n 0), .int .i64 j] => match hp.get n with
    | some (.cells 27 [.sl m 0 l c, .int .i64 sq] 2) => match both n m, hp.get m with
      | true, some (.rows 66 [.i .i64, .i .i64, .s, .i .i64] xs room) => (l ≤ xs.length ∧ l ≤ 100001) ∧ must (inL j l) (K (.tup []) ((hp.set m (some (eO (upF (j.toNat + 1) xs j.toNat) room))).set n (some (qO (.sl m 0 l c) sq))) nx)
      | _, _ => False
    | _ => False
  | _ => False
def c_down (args : List AV) (hp : Tr (AO O)) (nx : Nat) (K : AV → Tr (AO O) → Nat → Prop) : Prop := match args with
  | [.iface 64 (.ptr n 0), .int .i64 i, .int .i64 k] => match hp.get n with
    | some (.cells 27 [.sl m 0 l c, .int .i64 sq] 2) => match both n m, hp.get m with
      | true, some (.rows 66 [.i .i64, .i .i64, .s, .i .i64] xs room) => (l ≤ xs.length ∧ l ≤ 100001 ∧ 0 ≤ i ∧ i ≤ l ∧ 0 ≤ k ∧ k ≤ l) ∧ ∀ b : Bool, K (.bool b) ((hp.set m (some (eO (downF (k.toNat + 1) xs i.toNat k.toNat) room))).set n (some (qO (.sl m 0 l c) sq))) nx
      | _, _ => False
    | _ => False
  | _ => False
noncomputable abbrev N0 : List (FuncId × Sp O) := []
noncomputable abbrev A0 : List (FuncId × Sp O) :=
  (51, .p c_nan) ::
  (52, .p c_nan) ::
  []
noncomputable abbrev A1 : List (FuncId × Sp O) :=
  (49, .p c_cmp) ::
  (50, .p c_cmp) ::
  (48, .h c_or) ::
  []
noncomputable abbrev A2 : List (FuncId × Sp O) :=
  (45, .h c_len) ::
  (46, .h c_less) ::
  (47, .h c_swap) ::
  (53, .h c_lpop) ::
  (54, .h c_lpush) ::
  []
noncomputable abbrev j_or (a b i : Int) : St O := ⟨Tr.setL [(3, .int .i64 0), (6, .sl 0 0 2 2), (7, .int .i64 2), (8, .int .i64 i)] .leaf, Tr.setL [(0, .cells 3 [.int .i64 a, .int .i64 b] 2)] .leaf, 1, 18⟩
noncomputable abbrev j_up (l c room : Nat) (xs : List Rw) (sq j : Int) : St O := ⟨Tr.setL [(0, .iface 64 (.ptr 0 0)), (1, .int .i64 j)] .leaf, Tr.setL [(0, qO (.sl 1 0 l c) sq), (1, eO xs room)] .leaf, 2, 23⟩
noncomputable abbrev j_down (l c room : Nat) (xs : List Rw) (sq i0 k i : Int) : St O := ⟨Tr.setL [(0, .iface 64 (.ptr 0 0)), (1, .int .i64 i0), (2, .int .i64 k), (7, .int .i64 i)] .leaf, Tr.setL [(0, qO (.sl 1 0 l c) sq), (1, eO xs room)] .leaf, 2, 48⟩
end Go.Tb.W

/- What the functions' bodies come to: each line is what the abstract machine makes of one function, or of one round of a loop, over the contracts of the functions that it calls (the text was printed by a program of mine; Lean proves it again). -/
set_option linter.all false
set_option maxRecDepth 100000
set_option maxHeartbeats 2000000
namespace Go.Tb
open Go Go.Proofs
namespace W
theorem t_nan64 (I : Interp O) (K : AV → Prop) (a : Int) : abody I P (Gm N0) (adraw P (Gm N0)) 0 Try.f51 [.int .i64 a] .leaf 0 (fun v _ _ => K v) =
  (K (.bool (a != a))) := by kernel_rfl
theorem t_nan (I : Interp O) (K : AV → Prop) (a : Int) : abody I P (Gm N0) (adraw P (Gm N0)) 0 Try.f52 [.int .i64 a] .leaf 0 (fun v _ _ => K v) =
  (K (.bool (a != a))) := by kernel_rfl
theorem t_cmp64 (I : Interp O) (K : AV → Prop) (a b : Int) : abody I P (Gm A0) (adraw P (Gm A0)) 0 Try.f49 [.int .i64 a, .int .i64 b] .leaf 0 (fun v _ _ => K v) =
  (bsplit (decide (a < b)) fun | true => (K (.int IntKind.i64 (-1 : Int))) | false => (bsplit (decide (a > b)) fun | true => (K (.int IntKind.i64 (1 : Int))) | false => (K (.int IntKind.i64 (0 : Int))))) := by kernel_rfl
theorem t_cmpi (I : Interp O) (K : AV → Prop) (a b : Int) : abody I P (Gm A0) (adraw P (Gm A0)) 0 Try.f50 [.int .i64 a, .int .i64 b] .leaf 0 (fun v _ _ => K v) =
  (bsplit (decide (a < b)) fun | true => (K (.int IntKind.i64 (-1 : Int))) | false => (bsplit (decide (a > b)) fun | true => (K (.int IntKind.i64 (1 : Int))) | false => (K (.int IntKind.i64 (0 : Int))))) := by kernel_rfl
theorem t_or (I : Interp O) (K : AV → Tr (AO O) → Nat → Prop) (a b : Int) : abody I P (Gm A0) (adraw P (Gm A0)) 1 Try.f48 [.sl 0 0 2 2] (Tr.ofList 0 [.cells 3 [.int .i64 a, .int .i64 b] 2] .leaf) 1 K =
  (ALoop I 1 (cd Try.f48 [true, true, false, true, false, false]) (acode I P (Gm A0) (adraw P (Gm A0)) 1 (cd Try.f48 [true, true, false, true, false, false])) (ablock 0 (athen (cd Try.f48 [true, true, true]) (fun s => acode I P (Gm A0) (adraw P (Gm A0)) 1 (cd Try.f48 [true, true, true]) s (kret P Try.f48 (K))) (kret P Try.f48 (K)))) ⟨(.node (.node (.node (.node .leaf (some (.int IntKind.i64 (2 : Int))) .leaf) (some (.int IntKind.i64 (0 : Int))) .leaf) none .leaf) (some (.sl 0 0 2 2)) (.node (.node (.node .leaf (some (.int IntKind.i64 (0 : Int))) .leaf) none .leaf) (some (.int IntKind.i64 (0 : Int))) (.node .leaf (some (.sl 0 0 2 2)) .leaf))), (.node .leaf (some (.cells 3 [(.int IntKind.i64 (a)), (.int IntKind.i64 (b))] 2)) .leaf), 1, 18⟩) := by kernel_rfl
theorem t_llen (I : Interp O) (K : AV → Tr (AO O) → Nat → Prop) (l c room : Nat) (xs : List Rw) : abody I P (Gm A1) (adraw P (Gm A1)) 1 Try.f45 [.sl 0 0 l c] (Tr.ofList 0 [eO xs room] .leaf) 1 K =
  (K (.int IntKind.i64 ((↑l : Int))) (.node .leaf (some (.rows 66 [Sh.i IntKind.i64, Sh.i IntKind.i64, Sh.s, Sh.i IntKind.i64] (xs) (room))) .leaf) 1) := by kernel_rfl
theorem t_llen0 (I : Interp O) (K : AV → Prop) : abody I P (Gm A1) (adraw P (Gm A1)) 0 Try.f45 [.nils] .leaf 0 (fun v _ _ => K v) =
  (K (.int IntKind.i64 (0 : Int))) := by kernel_rfl
theorem t_lless (I : Interp O) (K : AV → Tr (AO O) → Nat → Prop) (l c room : Nat) (xs : List Rw) (i k : Int) : abody I P (Gm A1) (adraw P (Gm A1)) 1 Try.f46 [.sl 0 0 l c, .int .i64 i, .int .i64 k] (Tr.ofList 0 [eO xs room] .leaf) 1 K =
  (must (decide ((0 : Int) ≤ i ∧ i < (↑l : Int))) (must (decide ((0 : Int) ≤ k ∧ k < (↑l : Int))) (must (decide ((0 : Int) ≤ i ∧ i < (↑l : Int))) (must (decide ((0 : Int) ≤ k ∧ k < (↑l : Int))) (xget (xs) (i.toNat) fun x0 => (xget (xs) (k.toNat) fun x1 => (xget (xs) (i.toNat) fun x2 => (xget (xs) (k.toNat) fun x3 => (K (.bool (decide (orI (cmpI (x0.i 0) (x1.i 0)) (cmpI (x2.i (0 + 1 + 1 + 1)) (x3.i (0 + 1 + 1 + 1))) < 0))) (.node (.node .leaf (some (.cells 3 [(.int IntKind.i64 (cmpI (x0.i 0) (x1.i 0))), (.int IntKind.i64 (cmpI (x2.i (0 + 1 + 1 + 1)) (x3.i (0 + 1 + 1 + 1))))] 2)) .leaf) (some (.rows 66 [Sh.i IntKind.i64, Sh.i IntKind.i64, Sh.s, Sh.i IntKind.i64] (xs) (room))) .leaf) 2))))))))) := by kernel_rfl
theorem t_lswap (I : Interp O) (K : AV → Tr (AO O) → Nat → Prop) (l c room : Nat) (xs : List Rw) (i k : Int) : abody I P (Gm A1) (adraw P (Gm A1)) 1 Try.f47 [.sl 0 0 l c, .int .i64 i, .int .i64 k] (Tr.ofList 0 [eO xs room] .leaf) 1 K =
  (must (decide ((0 : Int) ≤ k ∧ k < (↑l : Int))) (must (decide ((0 : Int) ≤ i ∧ i < (↑l : Int))) (xget (xs) (k.toNat) fun x0 => (xget (xs) (i.toNat) fun x1 => (must (decide ((0 : Int) ≤ i ∧ i < (↑l : Int))) (xget (xs) (i.toNat) fun x2 => (must (decide ((0 : Int) ≤ k ∧ k < (↑l : Int))) (xget (xs.set i.toNat (rwA (acells (AV.agg [encS x0 0 (Sh.i IntKind.i64), encS x0 (0 + 1) (Sh.i IntKind.i64), encS x0 (0 + 1 + 1) Sh.s, encS x0 (0 + 1 + 1 + 1) (Sh.i IntKind.i64)])))) (k.toNat) fun x3 => (K (.tup []) (.node .leaf (some (.rows 66 [Sh.i IntKind.i64, Sh.i IntKind.i64, Sh.s, Sh.i IntKind.i64] ((xs.set i.toNat (rwA (acells (AV.agg [encS x0 0 (Sh.i IntKind.i64), encS x0 (0 + 1) (Sh.i IntKind.i64), encS x0 (0 + 1 + 1) Sh.s, encS x0 (0 + 1 + 1 + 1) (Sh.i IntKind.i64)])))).set k.toNat (rwA (acells (AV.agg [encS x1 0 (Sh.i IntKind.i64), encS x1 (0 + 1) (Sh.i IntKind.i64), encS x1 (0 + 1 + 1) Sh.s, encS x1 (0 + 1 + 1 + 1) (Sh.i IntKind.i64)])))) (room))) .leaf) 1))))))))) := by kernel_rfl
theorem t_lpop (I : Interp O) (K : AV → Tr (AO O) → Nat → Prop) (l c room : Nat) (xs : List Rw) (sq : Int) : abody I P (Gm A1) (adraw P (Gm A1)) 2 Try.f53 [.ptr 0 0] (Tr.ofList 0 [qO (.sl 1 0 l c) sq, eO xs room] .leaf) 2 K =
  (must (decide ((0 : Int) ≤ IntKind.i64.wrap ((↑l : Int) - 1) ∧ IntKind.i64.wrap ((↑l : Int) - 1) < (↑l : Int))) (xget (xs) ((IntKind.i64.wrap ((↑l : Int) - 1)).toNat) fun x0 => (must (decide ((0 : Int) ≤ IntKind.i64.wrap ((↑l : Int) - 1) ∧ IntKind.i64.wrap ((↑l : Int) - 1) ≤ (↑c : Int))) (K (.iface 66 (.agg [(.int IntKind.i64 ((x0).i 0)), (.int IntKind.i64 ((x0).i 1)), (.str ((x0).s 2)), (.int IntKind.i64 ((x0).i 3))])) (.node (.node .leaf (some (.rows 66 [Sh.i IntKind.i64, Sh.i IntKind.i64, Sh.s, Sh.i IntKind.i64] (xs) (room))) .leaf) (some (.cells 27 [(.sl 1 0 ((IntKind.i64.wrap ((↑l : Int) - 1)).toNat) (c)), (.int IntKind.i64 (sq))] 2)) (.node .leaf (some (.cells 66 [(.int IntKind.i64 ((x0).i 0)), (.int IntKind.i64 ((x0).i 1)), (.str ((x0).s 2)), (.int IntKind.i64 ((x0).i 3))] 4)) .leaf)) 3)))) := by kernel_rfl
theorem t_lpush (I : Interp O) (K : AV → Tr (AO O) → Nat → Prop) (l c room : Nat) (xs : List Rw) (sq a b d : Int) (s : ByteArray) : abody I P (Gm A1) (adraw P (Gm A1)) 2 Try.f54 [.ptr 0 0, .iface 66 (.agg [.int .i64 a, .int .i64 b, .str s, .int .i64 d])] (Tr.ofList 0 [qO (.sl 1 0 l c) sq, eO xs room] .leaf) 2 K =
  ((must (l.ble xs.length && (c * [Sh.i IntKind.i64, Sh.i IntKind.i64, Sh.s, Sh.i IntKind.i64].length).ble room && Nat.blt 1 16777215) ((l + (1 : Nat) ≤ (137438953472 : Nat)) ∧ (∀ (c'0 : Nat), (l + 1 ≤ c'0 → (c'0 ≤ 9223372036854775807 → (K (.tup []) (.node (.node (.node .leaf (some (.cells 66 [(.int IntKind.i64 (a)), (.int IntKind.i64 (b)), (.str (s)), (.int IntKind.i64 (d))] 4)) .leaf) (some .gone) .leaf) (some (.cells 27 [(.sl 4 0 (l + 1) (c'0)), (.int IntKind.i64 (sq))] 2)) (.node (.node .leaf (some (.rows 66 [Sh.i IntKind.i64, Sh.i IntKind.i64, Sh.s, Sh.i IntKind.i64] ((List.take l xs) ++ ((rwA [(.int IntKind.i64 (a)), (.int IntKind.i64 (b)), (.str (s)), (.int IntKind.i64 (d))]) :: [])) (c'0 * [Sh.i IntKind.i64, Sh.i IntKind.i64, Sh.s, Sh.i IntKind.i64].length))) .leaf) (some (.cells 66 [(.int IntKind.i64 (a)), (.int IntKind.i64 (b)), (.str (s)), (.int IntKind.i64 (d))] 4)) .leaf)) 5)))))) ∧ (must (l.ble xs.length && (c * [Sh.i IntKind.i64, Sh.i IntKind.i64, Sh.s, Sh.i IntKind.i64].length).ble room && Nat.blt 1 16777215) ((l + (1 : Nat) ≤ (137438953472 : Nat)) ∧ (∀ (c'1 : Nat), (l + 1 ≤ c'1 → (c'1 ≤ 9223372036854775807 → (K (.tup []) (.node (.node (.node .leaf (some (.cells 66 [(.int IntKind.i64 (a)), (.int IntKind.i64 (b)), (.str (s)), (.int IntKind.i64 (d))] 4)) .leaf) (some .gone) .leaf) (some (.cells 27 [(.sl 4 0 (l + 1) (c'1)), (.int IntKind.i64 (sq))] 2)) (.node (.node .leaf (some (.rows 66 [Sh.i IntKind.i64, Sh.i IntKind.i64, Sh.s, Sh.i IntKind.i64] ((List.take l xs) ++ ((rwA [(.int IntKind.i64 (a)), (.int IntKind.i64 (b)), (.str (s)), (.int IntKind.i64 (d))]) :: [])) (c'1 * [Sh.i IntKind.i64, Sh.i IntKind.i64, Sh.s, Sh.i IntKind.i64].length))) .leaf) (some (.cells 66 [(.int IntKind.i64 (a)), (.int IntKind.i64 (b)), (.str (s)), (.int IntKind.i64 (d))] 4)) .leaf)) 5))))))) := by kernel_rfl
theorem t_lpush0 (I : Interp O) (K : AV → Tr (AO O) → Nat → Prop) (sq a b d : Int) (s : ByteArray) : abody I P (Gm A1) (adraw P (Gm A1)) 1 Try.f54 [.ptr 0 0, .iface 66 (.agg [.int .i64 a, .int .i64 b, .str s, .int .i64 d])] (Tr.ofList 0 [qO .nils sq] .leaf) 1 K =
  ((((0 : Nat) + (1 : Nat) ≤ (137438953472 : Nat)) ∧ (∀ (c'0 : Nat), (0 + 1 ≤ c'0 → (c'0 ≤ 9223372036854775807 → (K (.tup []) (.node (.node (.node .leaf (some (.rows 66 [Sh.i IntKind.i64, Sh.i IntKind.i64, Sh.s, Sh.i IntKind.i64] ([] ++ ((rwA [(.int IntKind.i64 (a)), (.int IntKind.i64 (b)), (.str (s)), (.int IntKind.i64 (d))]) :: [])) (c'0 * [Sh.i IntKind.i64, Sh.i IntKind.i64, Sh.s, Sh.i IntKind.i64].length))) .leaf) (some (.cells 66 [(.int IntKind.i64 (a)), (.int IntKind.i64 (b)), (.str (s)), (.int IntKind.i64 (d))] 4)) .leaf) (some (.cells 27 [(.sl 3 0 1 (c'0)), (.int IntKind.i64 (sq))] 2)) (.node .leaf (some (.cells 66 [(.int IntKind.i64 (a)), (.int IntKind.i64 (b)), (.str (s)), (.int IntKind.i64 (d))] 4)) .leaf)) 4))))) ∧ (((0 : Nat) + (1 : Nat) ≤ (137438953472 : Nat)) ∧ (∀ (c'1 : Nat), (0 + 1 ≤ c'1 → (c'1 ≤ 9223372036854775807 → (K (.tup []) (.node (.node (.node .leaf (some (.rows 66 [Sh.i IntKind.i64, Sh.i IntKind.i64, Sh.s, Sh.i IntKind.i64] ([] ++ ((rwA [(.int IntKind.i64 (a)), (.int IntKind.i64 (b)), (.str (s)), (.int IntKind.i64 (d))]) :: [])) (c'1 * [Sh.i IntKind.i64, Sh.i IntKind.i64, Sh.s, Sh.i IntKind.i64].length))) .leaf) (some (.cells 66 [(.int IntKind.i64 (a)), (.int IntKind.i64 (b)), (.str (s)), (.int IntKind.i64 (d))] 4)) .leaf) (some (.cells 27 [(.sl 3 0 1 (c'1)), (.int IntKind.i64 (sq))] 2)) (.node .leaf (some (.cells 66 [(.int IntKind.i64 (a)), (.int IntKind.i64 (b)), (.str (s)), (.int IntKind.i64 (d))] 4)) .leaf)) 4)))))) := by kernel_rfl
theorem t_or0 (I : Interp O) (K : AV → Tr (AO O) → Nat → Prop) (X : St O → Prop) (a b : Int) : acode I P (Gm A0) (adraw P (Gm A0)) 1 (cd Try.f48 [true, true, false, true, false, false]) (j_or a b 0) (lpg 1 [] [3, 6, 7, 8] 1 X (ablock 0 (athen (cd Try.f48 [true, true, true]) (fun s => acode I P (Gm A0) (adraw P (Gm A0)) 1 (cd Try.f48 [true, true, true]) s (kret P Try.f48 (K))) (kret P Try.f48 (K))))) =
  (bsplit (a != 0) fun | true => (K (.int IntKind.i64 (a)) (.node .leaf (some (.cells 3 [(.int IntKind.i64 (a)), (.int IntKind.i64 (b))] 2)) .leaf) 1) | false => (X ⟨(.node (.node (.node (.node .leaf (some (.int IntKind.i64 (2 : Int))) .leaf) (some (.int IntKind.i64 (0 : Int))) .leaf) none .leaf) none (.node (.node (.node .leaf (some (.int IntKind.i64 (1 : Int))) .leaf) none .leaf) none (.node .leaf (some (.sl 0 0 2 2)) .leaf))), (.node .leaf (some (.cells 3 [(.int IntKind.i64 (a)), (.int IntKind.i64 (b))] 2)) .leaf), 1, 18⟩)) := by kernel_rfl
theorem t_or1 (I : Interp O) (K : AV → Tr (AO O) → Nat → Prop) (X : St O → Prop) (a b : Int) : acode I P (Gm A0) (adraw P (Gm A0)) 1 (cd Try.f48 [true, true, false, true, false, false]) (j_or a b 1) (lpg 1 [] [3, 6, 7, 8] 1 X (ablock 0 (athen (cd Try.f48 [true, true, true]) (fun s => acode I P (Gm A0) (adraw P (Gm A0)) 1 (cd Try.f48 [true, true, true]) s (kret P Try.f48 (K))) (kret P Try.f48 (K))))) =
  (bsplit (b != 0) fun | true => (K (.int IntKind.i64 (b)) (.node .leaf (some (.cells 3 [(.int IntKind.i64 (a)), (.int IntKind.i64 (b))] 2)) .leaf) 1) | false => (X ⟨(.node (.node (.node (.node .leaf (some (.int IntKind.i64 (2 : Int))) .leaf) (some (.int IntKind.i64 (0 : Int))) .leaf) none .leaf) none (.node (.node (.node .leaf (some (.int IntKind.i64 (2 : Int))) .leaf) none .leaf) none (.node .leaf (some (.sl 0 0 2 2)) .leaf))), (.node .leaf (some (.cells 3 [(.int IntKind.i64 (a)), (.int IntKind.i64 (b))] 2)) .leaf), 1, 18⟩)) := by kernel_rfl
theorem t_or2 (I : Interp O) (K : AV → Tr (AO O) → Nat → Prop) (X : St O → Prop) (a b : Int) : acode I P (Gm A0) (adraw P (Gm A0)) 1 (cd Try.f48 [true, true, false, true, false, false]) (j_or a b 2) (lpg 1 [] [3, 6, 7, 8] 1 X (ablock 0 (athen (cd Try.f48 [true, true, true]) (fun s => acode I P (Gm A0) (adraw P (Gm A0)) 1 (cd Try.f48 [true, true, true]) s (kret P Try.f48 (K))) (kret P Try.f48 (K))))) =
  (K (.int IntKind.i64 (0 : Int)) (.node .leaf (some (.cells 3 [(.int IntKind.i64 (a)), (.int IntKind.i64 (b))] 2)) .leaf) 1) := by kernel_rfl
end W
end Go.Tb

/- What the functions' bodies come to: each line is what the abstract machine makes of one function, or of one round of a loop, over the contracts of the functions that it calls (the text was printed by a program of mine; Lean proves it again). -/
set_option linter.all false
set_option maxRecDepth 100000
set_option maxHeartbeats 2000000
namespace Go.Tb
open Go Go.Proofs
namespace W
theorem t_up (I : Interp O) (K : AV → Tr (AO O) → Nat → Prop) (l c room : Nat) (xs : List Rw) (sq j : Int) : abody I P (Gm A2) (adraw P (Gm A2)) 2 Try.f26 [.iface 64 (.ptr 0 0), .int .i64 j] (Tr.ofList 0 [qO (.sl 1 0 l c) sq, eO xs room] .leaf) 2 K =
  (ALoop I 2 (cd Try.f26 [false, false]) (acode I P (Gm A2) (adraw P (Gm A2)) 2 (cd Try.f26 [false, false])) (ablock 0 (kret P Try.f26 (K))) ⟨(.node (.node .leaf (some (.int IntKind.i64 (j))) .leaf) (some (.iface 64 (.ptr 0 0))) .leaf), (.node (.node .leaf (some (.rows 66 [Sh.i IntKind.i64, Sh.i IntKind.i64, Sh.s, Sh.i IntKind.i64] (xs) (room))) .leaf) (some (.cells 27 [(.sl 1 0 (l) (c)), (.int IntKind.i64 (sq))] 2)) .leaf), 2, 23⟩) := by kernel_rfl
theorem t_down (I : Interp O) (K : AV → Tr (AO O) → Nat → Prop) (l c room : Nat) (xs : List Rw) (sq i k : Int) : abody I P (Gm A2) (adraw P (Gm A2)) 2 Try.f27 [.iface 64 (.ptr 0 0), .int .i64 i, .int .i64 k] (Tr.ofList 0 [qO (.sl 1 0 l c) sq, eO xs room] .leaf) 2 K =
  (ALoop I 2 (cd Try.f27 [true, true, false, false, false]) (acode I P (Gm A2) (adraw P (Gm A2)) 2 (cd Try.f27 [true, true, false, false, false])) (ablock 0 (athen (cd Try.f27 [true, true, true]) (fun s => acode I P (Gm A2) (adraw P (Gm A2)) 2 (cd Try.f27 [true, true, true]) s (kret P Try.f27 (K))) (kret P Try.f27 (K)))) ⟨(.node (.node (.node (.node .leaf (some (.int IntKind.i64 (i))) .leaf) none (.node .leaf (some (.int IntKind.i64 (i))) .leaf)) (some (.int IntKind.i64 (i))) .leaf) (some (.iface 64 (.ptr 0 0))) (.node .leaf (some (.int IntKind.i64 (k))) (.node .leaf (some (.bool false)) .leaf))), (.node (.node .leaf (some (.rows 66 [Sh.i IntKind.i64, Sh.i IntKind.i64, Sh.s, Sh.i IntKind.i64] (xs) (room))) .leaf) (some (.cells 27 [(.sl 1 0 (l) (c)), (.int IntKind.i64 (sq))] 2)) .leaf), 2, 48⟩) := by kernel_rfl
theorem t_upR (I : Interp O) (K : AV → Tr (AO O) → Nat → Prop) (X : St O → Prop) (l c room : Nat) (xs : List Rw) (sq j : Int) : acode I P (Gm A2) (adraw P (Gm A2)) 2 (cd Try.f26 [false, false]) (j_up l c room xs sq j) (lpg 2 [] [0, 1] 2 X (ablock 0 (kret P Try.f26 (K)))) =
  (bsplit (IntKind.i64.wrap ((IntKind.i64.wrap (j - 1)).tdiv 2) == j) fun | true => (K (.tup []) (.node (.node .leaf (some (.rows 66 [Sh.i IntKind.i64, Sh.i IntKind.i64, Sh.s, Sh.i IntKind.i64] (xs) (room))) .leaf) (some (.cells 27 [(.sl 1 0 (l) (c)), (.int IntKind.i64 (sq))] 2)) .leaf) 2) | false => (must (inL j l && inL (IntKind.i64.wrap ((IntKind.i64.wrap (j - 1)).tdiv 2)) l) (xget (xs) (j.toNat) fun x0 => (xget (xs) ((IntKind.i64.wrap ((IntKind.i64.wrap (j - 1)).tdiv 2)).toNat) fun x1 => (bsplit (!lessE x0 x1) fun | true => (K (.tup []) (.node (.node .leaf (some (.rows 66 [Sh.i IntKind.i64, Sh.i IntKind.i64, Sh.s, Sh.i IntKind.i64] (xs) (room))) .leaf) (some (.cells 27 [(.sl 1 0 (l) (c)), (.int IntKind.i64 (sq))] 2)) .leaf) 2) | false => ((l ≤ xs.length) ∧ (must (inL (IntKind.i64.wrap ((IntKind.i64.wrap (j - 1)).tdiv 2)) l && inL j l) (X ⟨(.node (.node .leaf (some (.int IntKind.i64 (IntKind.i64.wrap ((IntKind.i64.wrap (j - 1)).tdiv 2)))) .leaf) (some (.iface 64 (.ptr 0 0))) .leaf), (.node (.node .leaf (some (.rows 66 [Sh.i IntKind.i64, Sh.i IntKind.i64, Sh.s, Sh.i IntKind.i64] (swapL xs (IntKind.i64.wrap ((IntKind.i64.wrap (j - 1)).tdiv 2)).toNat j.toNat) (room))) .leaf) (some (.cells 27 [(.sl 1 0 (l) (c)), (.int IntKind.i64 (sq))] 2)) .leaf), 2, 23⟩)))))))) := by kernel_rfl
theorem t_downR (I : Interp O) (K : AV → Tr (AO O) → Nat → Prop) (X : St O → Prop) (l c room : Nat) (xs : List Rw) (sq i0 k i : Int) : acode I P (Gm A2) (adraw P (Gm A2)) 2 (cd Try.f27 [true, true, false, false, false]) (j_down l c room xs sq i0 k i) (lpg 2 [] [0, 1, 2, 7] 2 X (ablock 0 (athen (cd Try.f27 [true, true, true]) (fun s => acode I P (Gm A2) (adraw P (Gm A2)) 2 (cd Try.f27 [true, true, true]) s (kret P Try.f27 (K))) (kret P Try.f27 (K))))) =
  (bsplit (decide (IntKind.i64.wrap (IntKind.i64.wrap (2 * i) + 1) ≥ k)) fun | true => (K (.bool (decide (i > i0))) (.node (.node .leaf (some (.rows 66 [Sh.i IntKind.i64, Sh.i IntKind.i64, Sh.s, Sh.i IntKind.i64] (xs) (room))) .leaf) (some (.cells 27 [(.sl 1 0 (l) (c)), (.int IntKind.i64 (sq))] 2)) .leaf) 2) | false => (bsplit (decide (IntKind.i64.wrap (IntKind.i64.wrap (2 * i) + 1) < 0)) fun | true => (K (.bool (decide (i > i0))) (.node (.node .leaf (some (.rows 66 [Sh.i IntKind.i64, Sh.i IntKind.i64, Sh.s, Sh.i IntKind.i64] (xs) (room))) .leaf) (some (.cells 27 [(.sl 1 0 (l) (c)), (.int IntKind.i64 (sq))] 2)) .leaf) 2) | false => (bsplit (decide (IntKind.i64.wrap (IntKind.i64.wrap (IntKind.i64.wrap (2 * i) + 1) + 1) < k)) fun | true => (must (inL (IntKind.i64.wrap (IntKind.i64.wrap (IntKind.i64.wrap (2 * i) + 1) + 1)) l && inL (IntKind.i64.wrap (IntKind.i64.wrap (2 * i) + 1)) l) (xget (xs) ((IntKind.i64.wrap (IntKind.i64.wrap (IntKind.i64.wrap (2 * i) + 1) + 1)).toNat) fun x0 => (xget (xs) ((IntKind.i64.wrap (IntKind.i64.wrap (2 * i) + 1)).toNat) fun x1 => (bsplit (lessE x0 x1) fun | true => (must (inL (IntKind.i64.wrap (IntKind.i64.wrap (IntKind.i64.wrap (2 * i) + 1) + 1)) l && inL i l) (xget (xs) ((IntKind.i64.wrap (IntKind.i64.wrap (IntKind.i64.wrap (2 * i) + 1) + 1)).toNat) fun x2 => (xget (xs) (i.toNat) fun x3 => (bsplit (!lessE x2 x3) fun | true => (K (.bool (decide (i > i0))) (.node (.node .leaf (some (.rows 66 [Sh.i IntKind.i64, Sh.i IntKind.i64, Sh.s, Sh.i IntKind.i64] (xs) (room))) .leaf) (some (.cells 27 [(.sl 1 0 (l) (c)), (.int IntKind.i64 (sq))] 2)) .leaf) 2) | false => ((l ≤ xs.length) ∧ (must (inL i l && inL (IntKind.i64.wrap (IntKind.i64.wrap (IntKind.i64.wrap (2 * i) + 1) + 1)) l) (X ⟨(.node (.node (.node (.node .leaf (some (.int IntKind.i64 (IntKind.i64.wrap (IntKind.i64.wrap (IntKind.i64.wrap (2 * i) + 1) + 1)))) .leaf) none .leaf) (some (.int IntKind.i64 (i0))) .leaf) (some (.iface 64 (.ptr 0 0))) (.node .leaf (some (.int IntKind.i64 (k))) .leaf)), (.node (.node .leaf (some (.rows 66 [Sh.i IntKind.i64, Sh.i IntKind.i64, Sh.s, Sh.i IntKind.i64] (swapL xs i.toNat (IntKind.i64.wrap (IntKind.i64.wrap (IntKind.i64.wrap (2 * i) + 1) + 1)).toNat) (room))) .leaf) (some (.cells 27 [(.sl 1 0 (l) (c)), (.int IntKind.i64 (sq))] 2)) .leaf), 2, 48⟩))))))) | false => (must (inL (IntKind.i64.wrap (IntKind.i64.wrap (2 * i) + 1)) l && inL i l) (xget (xs) ((IntKind.i64.wrap (IntKind.i64.wrap (2 * i) + 1)).toNat) fun x4 => (xget (xs) (i.toNat) fun x5 => (bsplit (!lessE x4 x5) fun | true => (K (.bool (decide (i > i0))) (.node (.node .leaf (some (.rows 66 [Sh.i IntKind.i64, Sh.i IntKind.i64, Sh.s, Sh.i IntKind.i64] (xs) (room))) .leaf) (some (.cells 27 [(.sl 1 0 (l) (c)), (.int IntKind.i64 (sq))] 2)) .leaf) 2) | false => ((l ≤ xs.length) ∧ (must (inL i l && inL (IntKind.i64.wrap (IntKind.i64.wrap (2 * i) + 1)) l) (X ⟨(.node (.node (.node (.node .leaf (some (.int IntKind.i64 (IntKind.i64.wrap (IntKind.i64.wrap (2 * i) + 1)))) .leaf) none .leaf) (some (.int IntKind.i64 (i0))) .leaf) (some (.iface 64 (.ptr 0 0))) (.node .leaf (some (.int IntKind.i64 (k))) .leaf)), (.node (.node .leaf (some (.rows 66 [Sh.i IntKind.i64, Sh.i IntKind.i64, Sh.s, Sh.i IntKind.i64] (swapL xs i.toNat (IntKind.i64.wrap (IntKind.i64.wrap (2 * i) + 1)).toNat) (room))) .leaf) (some (.cells 27 [(.sl 1 0 (l) (c)), (.int IntKind.i64 (sq))] 2)) .leaf), 2, 48⟩))))))))))) | false => (must (inL (IntKind.i64.wrap (IntKind.i64.wrap (2 * i) + 1)) l && inL i l) (xget (xs) ((IntKind.i64.wrap (IntKind.i64.wrap (2 * i) + 1)).toNat) fun x6 => (xget (xs) (i.toNat) fun x7 => (bsplit (!lessE x6 x7) fun | true => (K (.bool (decide (i > i0))) (.node (.node .leaf (some (.rows 66 [Sh.i IntKind.i64, Sh.i IntKind.i64, Sh.s, Sh.i IntKind.i64] (xs) (room))) .leaf) (some (.cells 27 [(.sl 1 0 (l) (c)), (.int IntKind.i64 (sq))] 2)) .leaf) 2) | false => ((l ≤ xs.length) ∧ (must (inL i l && inL (IntKind.i64.wrap (IntKind.i64.wrap (2 * i) + 1)) l) (X ⟨(.node (.node (.node (.node .leaf (some (.int IntKind.i64 (IntKind.i64.wrap (IntKind.i64.wrap (2 * i) + 1)))) .leaf) none .leaf) (some (.int IntKind.i64 (i0))) .leaf) (some (.iface 64 (.ptr 0 0))) (.node .leaf (some (.int IntKind.i64 (k))) .leaf)), (.node (.node .leaf (some (.rows 66 [Sh.i IntKind.i64, Sh.i IntKind.i64, Sh.s, Sh.i IntKind.i64] (swapL xs i.toNat (IntKind.i64.wrap (IntKind.i64.wrap (2 * i) + 1)).toNat) (room))) .leaf) (some (.cells 27 [(.sl 1 0 (l) (c)), (.int IntKind.i64 (sq))] 2)) .leaf), 2, 48⟩)))))))))) := by kernel_rfl
end W
end Go.Tb

/- Queues: the functions of a line, proved. -/
set_option linter.all false
set_option maxRecDepth 100000
namespace Go.Tb.W
open Go Go.Proofs
variable {I : Interp O}
theorem mix : P.follows .mixedOrders = true := by kernel_rfl
theorem k_nan64 : ∀ (args : List AV) (K : AV → Prop), c_nan args K → ∀ hp, ACall I P 51 args hp (fun v hp' => K v ∧ hp' = hp) := by
  intro args K h hp
  unfold c_nan at h; split at h
  · rename_i a
    refine pcall mix Gm.nil (fn := Try.f51) (by kernel_rfl) (by kernel_rfl) (by kernel_rfl) rfl rfl (fun hr => ?_) hp
    refine (t_nan64 I (fun v => K v ∧ cl v = true) a).mpr ⟨?_, rfl⟩
    rw [bne_self_eq_false]; exact h
  · exact h.elim
theorem k_nan : ∀ (args : List AV) (K : AV → Prop), c_nan args K → ∀ hp, ACall I P 52 args hp (fun v hp' => K v ∧ hp' = hp) := by
  intro args K h hp
  unfold c_nan at h; split at h
  · rename_i a
    refine pcall mix Gm.nil (fn := Try.f52) (by kernel_rfl) (by kernel_rfl) (by kernel_rfl) rfl rfl (fun hr => ?_) hp
    refine (t_nan I (fun v => K v ∧ cl v = true) a).mpr ⟨?_, rfl⟩
    rw [bne_self_eq_false]; exact h
  · exact h.elim
theorem gA0 : GOk I P (Gm A0) := Gm.consP (Gm.consP Gm.nil k_nan) k_nan64
theorem k_cmp64 : ∀ (args : List AV) (K : AV → Prop), c_cmp args K → ∀ hp, ACall I P 49 args hp (fun v hp' => K v ∧ hp' = hp) := by
  intro args K h hp
  unfold c_cmp at h; split at h
  · rename_i a b
    refine pcall mix gA0 (fn := Try.f49) (by kernel_rfl) (by kernel_rfl) (by kernel_rfl) rfl rfl (fun hr => ?_) hp
    refine (t_cmp64 I (fun v => K v ∧ cl v = true) a b).mpr ?_
    refine bsplit_both (fun hx => ⟨?_, rfl⟩) (fun hx => bsplit_both (fun hy => ⟨?_, rfl⟩) (fun hy => ⟨?_, rfl⟩))
    · have hx := of_decide_eq_true hx
      rw [cmpI, if_pos hx] at h; exact h
    · have hx := of_decide_eq_false hx; have hy := of_decide_eq_true hy
      rw [cmpI, if_neg hx, if_pos hy] at h; exact h
    · have hx := of_decide_eq_false hx; have hy := of_decide_eq_false hy
      rw [cmpI, if_neg hx, if_neg hy] at h; exact h
  · exact h.elim
theorem k_cmpi : ∀ (args : List AV) (K : AV → Prop), c_cmp args K → ∀ hp, ACall I P 50 args hp (fun v hp' => K v ∧ hp' = hp) := by
  intro args K h hp
  unfold c_cmp at h; split at h
  · rename_i a b
    refine pcall mix gA0 (fn := Try.f50) (by kernel_rfl) (by kernel_rfl) (by kernel_rfl) rfl rfl (fun hr => ?_) hp
    refine (t_cmpi I (fun v => K v ∧ cl v = true) a b).mpr ?_
    refine bsplit_both (fun hx => ⟨?_, rfl⟩) (fun hx => bsplit_both (fun hy => ⟨?_, rfl⟩) (fun hy => ⟨?_, rfl⟩))
    · have hx := of_decide_eq_true hx
      rw [cmpI, if_pos hx] at h; exact h
    · have hx := of_decide_eq_false hx; have hy := of_decide_eq_true hy
      rw [cmpI, if_neg hx, if_pos hy] at h; exact h
    · have hx := of_decide_eq_false hx; have hy := of_decide_eq_false hy
      rw [cmpI, if_neg hx, if_neg hy] at h; exact h
  · exact h.elim
theorem k_or : ∀ (args : List AV) (hp : Tr (AO O)) (nx : Nat) (K : AV → Tr (AO O) → Nat → Prop), c_or args hp nx K → ACall I P 48 args hp (fun v hp' => ∃ nx', K v hp' nx') := by
  intro args hp nx K h
  unfold c_or at h; split at h
  · rename_i n
    split at h
    · rename_i a b hb hg
      refine hcall1g mix gA0 (fn := Try.f48) (by kernel_rfl) (by kernel_rfl) (by kernel_rfl) (fun n => .sl n 0 2 2) (fun _ => rfl) (fun _ h => h) (n := n) (nx := nx) rfl hb hg rfl rfl (fun _ _ => ?_)
      refine (t_or I _ a b).mpr ?_
      refine ALoop.start [] [3, 6, 7, 8] 1 (j_or a b 0) (by kernel_rfl) (by kernel_rfl) ?_
      refine ALoop.stepg [] [3, 6, 7, 8] 1 ?_
      refine (t_or0 I _ _ a b).mpr (bsplit_both (fun hx => ⟨rfl, .inl ⟨rfl, ?_⟩⟩) (fun hx => ?_))
      · have hx : a ≠ 0 := by simpa using hx
        rw [orI, if_neg hx] at h; exact h
      · have hx : a = 0 := by simpa using hx
        rw [orI, if_pos hx] at h
        refine ALoop.stepg (s := j_or a b 1) [] [3, 6, 7, 8] 1 ?_
        refine (t_or1 I _ _ a b).mpr (bsplit_both (fun hy => ⟨rfl, .inl ⟨rfl, h⟩⟩) (fun hy => ?_))
        have hy : b = 0 := by simpa using hy
        subst hy
        refine ALoop.stepg (s := j_or a 0 2) [] [3, 6, 7, 8] 1 ?_
        exact (t_or2 I _ _ a 0).mpr ⟨rfl, .inl ⟨rfl, h⟩⟩
    · exact h.elim
  · exact h.elim
theorem gA1 : GOk I P (Gm A1) := Gm.consP (Gm.consP (Gm.consH Gm.nil k_or) k_cmpi) k_cmp64
theorem k_llen : ∀ (args : List AV) (hp : Tr (AO O)) (nx : Nat) (K : AV → Tr (AO O) → Nat → Prop), c_len args hp nx K → ACall I P 45 args hp (fun v hp' => ∃ nx', K v hp' nx') := by
  intro args hp nx K h
  unfold c_len at h; split at h
  · rename_i n l c
    split at h
    · rename_i xs room hb hg
      exact hrows mix gA1 (fn := Try.f45) (by kernel_rfl) (by kernel_rfl) (by kernel_rfl) [n] [eO xs room] [.sl 0 0 l c] (nx := nx) rfl (uniq1 hb) rfl ⟨hg, trivial⟩ rfl rfl (fun hr ho => (t_llen I _ l c room xs).mpr ⟨⟨rfl, trivial⟩, .inl ⟨rfl, h⟩⟩)
    · exact h.elim
  · exact (pcall mix gA1 (fn := Try.f45) (by kernel_rfl) (by kernel_rfl) (by kernel_rfl) (args := [.nils]) (K := fun v => K v hp nx) rfl rfl (fun hr => (t_llen0 I _).mpr ⟨h, rfl⟩) hp).mono fun v hp' hh => ⟨nx, hh.2 ▸ hh.1⟩
  · exact h.elim
theorem inL_iff {i : Int} {l : Nat} : inL i l = true ↔ 0 ≤ i ∧ i < (l : Int) := by simp [inL]
theorem k_lless : ∀ (args : List AV) (hp : Tr (AO O)) (nx : Nat) (K : AV → Tr (AO O) → Nat → Prop), c_less args hp nx K → ACall I P 46 args hp (fun v hp' => ∃ nx', K v hp' nx') := by
  intro args hp nx K h
  unfold c_less at h; split at h
  · rename_i n l c i k
    split at h
    · rename_i xs room hb hg
      obtain ⟨hik, h⟩ := must_spec h
      simp only [Bool.and_eq_true, inL_iff] at hik
      obtain ⟨x, hx, h⟩ := xget_spec h
      obtain ⟨y, hy, h⟩ := xget_spec h
      refine hrows mix gA1 (fn := Try.f46) (by kernel_rfl) (by kernel_rfl) (by kernel_rfl) [n] [eO xs room] [.sl 0 0 l c, .int .i64 i, .int .i64 k] (nx := nx) rfl (uniq1 hb) rfl ⟨hg, trivial⟩ rfl rfl (fun hr ho => (t_lless I _ l c room xs i k).mpr ?_)
      have d1 := decide_eq_true hik.1
      have d2 := decide_eq_true hik.2
      exact must_mk d1 (must_mk d2 (must_mk d1 (must_mk d2 (xget_mk hx (xget_mk hy (xget_mk hx (xget_mk hy ⟨⟨rfl, trivial⟩, .inl ⟨rfl, h⟩⟩)))))))
    · exact h.elim
  · exact h.elim
theorem k_lswap : ∀ (args : List AV) (hp : Tr (AO O)) (nx : Nat) (K : AV → Tr (AO O) → Nat → Prop), c_swap args hp nx K → ACall I P 47 args hp (fun v hp' => ∃ nx', K v hp' nx') := by
  intro args hp nx K h
  unfold c_swap at h; split at h
  · rename_i n l c i k
    split at h
    · rename_i xs room hb hg
      obtain ⟨hl, h⟩ := h
      obtain ⟨hik, h⟩ := must_spec h
      simp only [Bool.and_eq_true, inL_iff] at hik
      have gi : i.toNat < xs.length := by omega
      have gk : k.toNat < xs.length := by omega
      have hx := List.getElem?_eq_getElem gi
      have hy := List.getElem?_eq_getElem gk
      refine hcallG mix gA1 (fn := Try.f47) (by kernel_rfl) (by kernel_rfl) (by kernel_rfl) [n] [eO xs room] [.sl 0 0 l c, .int .i64 i, .int .i64 k] rfl (uniq1 hb) rfl ⟨hg, trivial⟩ rfl rfl (fun hr ho => (t_lswap I _ l c room xs i k).mpr ?_)
      have d1 := decide_eq_true hik.1
      have d2 := decide_eq_true hik.2
      have e : swapL xs i.toNat k.toNat = (xs.set i.toNat (nE xs[k.toNat])).set k.toNat (nE xs[i.toNat]) := by unfold swapL; rw [hx, hy]
      rw [e] at h
      refine must_mk d2 (must_mk d1 (xget_mk hy (xget_mk hx (must_mk d1 (xget_mk hx (must_mk d2 (xget_mk (List.getElem?_eq_getElem (by simpa using gk)) ?_)))))))
      exact ⟨[], nx, uniq1 hb, trivial, rfl, rfl, h⟩
    · exact h.elim
  · exact h.elim
theorem both_iff {n m : Nat} (h : both n m = true) : uniq (pairs 0 [n, m]) = true ∧ Nat.blt n 16777215 = true ∧ Nat.blt m 16777215 = true ∧ n ≠ m := by
  simp only [both, Bool.and_eq_true, Bool.not_eq_true'] at h
  obtain ⟨h1, h2, h3⟩ := h
  have hne := Nat.ne_of_beq_eq_false h3
  refine ⟨?_, h1, h2, hne⟩
  have : Nat.beq m n = false := by
    cases hb : Nat.beq m n with
    | false => rfl
    | true => exact absurd (Nat.eq_of_beq_eq_true hb).symm hne
  simp [pairs, uniq, h1, h2, lk, lkr, this]
theorem k_lpop : ∀ (args : List AV) (hp : Tr (AO O)) (nx : Nat) (K : AV → Tr (AO O) → Nat → Prop), c_lpop args hp nx K → ACall I P 53 args hp (fun v hp' => ∃ nx', K v hp' nx') := by
  intro args hp nx K h
  unfold c_lpop at h; split at h
  · rename_i n
    split at h
    · rename_i m l c sq hg
      split at h
      · rename_i xs room hb hg2
        obtain ⟨⟨h1, h2⟩, h⟩ := h
        obtain ⟨hu, _⟩ := both_iff hb
        refine hcallG mix gA1 (fn := Try.f53) (by kernel_rfl) (by kernel_rfl) (by kernel_rfl) [n, m] [qO (.sl 1 0 l c) sq, eO xs room] [.ptr 0 0] rfl hu rfl ⟨hg, hg2, trivial⟩ rfl rfl (fun hr ho => (t_lpop I _ l c room xs sq).mpr ?_)
        have hr := ho.1.1
        simp only [rgs, rg, Bool.and_eq_true, decide_eq_true_eq] at hr
        have hlc : l ≤ c ∧ c ≤ 9223372036854775807 := by
          have := hr.1; simp [blt_iff, Nat.ble_eq] at this; omega
        have e : IntKind.i64.wrap ((l : Int) - 1) = ((l - 1 : Nat) : Int) := by rw [w_i64]; omega
        rw [e]
        have e2 : (((l - 1 : Nat) : Int)).toNat = l - 1 := by omega
        rw [e2]
        refine must_mk (by simp; omega) (xget_mk (List.getElem?_eq_getElem (by omega)) (must_mk (by simp; omega) ?_))
        exact ⟨[], nx, hu, trivial, rfl, rfl, h _ _ _ _⟩
      · exact h.elim
    · exact h.elim
  · exact h.elim
theorem uniq3 {hp : Tr (AO O)} {n m nx j : Nat} (hu : uniq (pairs 0 [n, m]) = true) (hn : hp.get nx = none) (hb : Nat.blt nx 16777215 = true) (h1 : hp.get n ≠ none) (h2 : hp.get m ≠ none) (hj : lk (pairs 0 [n, m]) j = none) : uniq (pairs 0 [n, m] ++ [(j, nx)]) = true :=
  uniq_new hn hb hu hj fun p hp' => by
    simp [pairs] at hp'
    rcases hp' with rfl | rfl
    · exact h1
    · exact h2
theorem uniq2n {hp : Tr (AO O)} {n nx j : Nat} (hu : uniq (pairs 0 [n]) = true) (hn : hp.get nx = none) (hb : Nat.blt nx 16777215 = true) (h1 : hp.get n ≠ none) (hj : lk (pairs 0 [n]) j = none) : uniq (pairs 0 [n] ++ [(j, nx)]) = true :=
  uniq_new hn hb hu hj fun p hp' => by
    simp [pairs] at hp'
    rcases hp' with rfl
    exact h1
theorem k_lpush : ∀ (args : List AV) (hp : Tr (AO O)) (nx : Nat) (K : AV → Tr (AO O) → Nat → Prop), c_lpush args hp nx K → ACall I P 54 args hp (fun v hp' => ∃ nx', K v hp' nx') := by
  intro args hp nx K h
  unfold c_lpush at h; split at h
  · rename_i n a b s d
    split at h
    · rename_i m l c sq hg hfr hnb
      split at h
      · rename_i xs room hb hg2
        obtain ⟨⟨h1, h2, h3⟩, h⟩ := h
        obtain ⟨hu, _⟩ := both_iff hb
        refine hcallG mix gA1 (fn := Try.f54) (by kernel_rfl) (by kernel_rfl) (by kernel_rfl) [n, m] [qO (.sl 1 0 l c) sq, eO xs room] [.ptr 0 0, .iface 66 (.agg [.int .i64 a, .int .i64 b, .str s, .int .i64 d])] rfl hu rfl ⟨hg, hg2, trivial⟩ rfl rfl (fun hr ho => (t_lpush I _ l c room xs sq a b d s).mpr ?_)
        have hm : (l.ble xs.length && (c * [Sh.i IntKind.i64, Sh.i IntKind.i64, Sh.s, Sh.i IntKind.i64].length).ble room && Nat.blt 1 16777215) = true := by
          simp [Nat.ble_eq]; exact ⟨h1, h2⟩
        refine ⟨must_mk hm ⟨by omega, (fun c' h4 h5 => ⟨[(4, nx)], nx + 1, uniq3 hu hfr hnb (by rw [hg]; simp) (by rw [hg2]; simp) rfl, ⟨hfr, trivial⟩, rfl, rfl, h c' h4 h5⟩)⟩, must_mk hm ⟨by omega, (fun c' h4 h5 => ⟨[(4, nx)], nx + 1, uniq3 hu hfr hnb (by rw [hg]; simp) (by rw [hg2]; simp) rfl, ⟨hfr, trivial⟩, rfl, rfl, h c' h4 h5⟩)⟩⟩
      · exact h.elim
    · rename_i sq hg hfr hnb
      split at h
      · rename_i hb
        refine hcallG mix gA1 (fn := Try.f54) (by kernel_rfl) (by kernel_rfl) (by kernel_rfl) [n] [qO .nils sq] [.ptr 0 0, .iface 66 (.agg [.int .i64 a, .int .i64 b, .str s, .int .i64 d])] rfl (uniq1 hb) rfl ⟨hg, trivial⟩ rfl rfl (fun hr ho => (t_lpush0 I _ sq a b d s).mpr ?_)
        refine ⟨⟨by omega, (fun c' h4 h5 => ⟨[(3, nx)], nx + 1, uniq2n (uniq1 hb) hfr hnb (by rw [hg]; simp) rfl, ⟨hfr, trivial⟩, rfl, rfl, h c' h4 h5⟩)⟩, ⟨by omega, (fun c' h4 h5 => ⟨[(3, nx)], nx + 1, uniq2n (uniq1 hb) hfr hnb (by rw [hg]; simp) rfl, ⟨hfr, trivial⟩, rfl, rfl, h c' h4 h5⟩)⟩⟩
      · exact h.elim
    · exact h.elim
  · exact h.elim
theorem gA2 : GOk I P (Gm A2) := Gm.consH (Gm.consH (Gm.consH (Gm.consH (Gm.consH Gm.nil k_lpush) k_lpop) k_lswap) k_lless) k_llen
end Go.Tb.W

/- Queues: up and down a heap. -/
set_option linter.all false
set_option maxRecDepth 100000
namespace Go.Tb.W
open Go Go.Proofs
variable {I : Interp O}
theorem swapL_length (xs : List Rw) (i k : Nat) : (swapL xs i k).length = xs.length := by
  unfold swapL; split <;> simp
theorem upF_fuel : ∀ (f g : Nat) (xs : List Rw) (j : Nat), j < f → j < g → upF f xs j = upF g xs j
  | 0, _, _, _, h, _ => absurd h (Nat.not_lt_zero _)
  | _, 0, _, _, _, h => absurd h (Nat.not_lt_zero _)
  | f + 1, g + 1, xs, j, h1, h2 => by
    simp only [upF]
    split
    · split
      · rfl
      · rename_i hne
        split
        · exact upF_fuel f g _ _ (by omega) (by omega)
        · rfl
    · rfl
theorem childF_gt (xs : List Rw) (i n : Nat) : i < childF xs i n ∧ (childF xs i n = 2 * i + 1 ∨ childF xs i n = 2 * i + 2 ∧ 2 * i + 2 < n) := by
  unfold childF
  split
  · split
    · rename_i h; exact ⟨by omega, .inr ⟨rfl, h.1⟩⟩
    · exact ⟨by omega, .inl rfl⟩
  · exact ⟨by omega, .inl rfl⟩
theorem downF_fuel : ∀ (f g : Nat) (xs : List Rw) (i n : Nat), n - i < f → n - i < g → downF f xs i n = downF g xs i n
  | 0, _, _, _, _, h, _ => absurd h (Nat.not_lt_zero _)
  | _, 0, _, _, _, _, h => absurd h (Nat.not_lt_zero _)
  | f + 1, g + 1, xs, i, n, h1, h2 => by
    simp only [downF]
    split
    · rfl
    · split
      · split
        · have := childF_gt xs i n
          exact downF_fuel f g _ _ _ (by omega) (by omega)
        · rfl
      · rfl
theorem k_up : ∀ (args : List AV) (hp : Tr (AO O)) (nx : Nat) (K : AV → Tr (AO O) → Nat → Prop), c_up args hp nx K → ACall I P 26 args hp (fun v hp' => ∃ nx', K v hp' nx') := by
  intro args hp nx K h
  unfold c_up at h; split at h
  · rename_i n j
    split at h
    · rename_i m l c sq hg
      split at h
      · rename_i xs room hb hg2
        obtain ⟨⟨h1, h2⟩, h⟩ := h
        obtain ⟨hj, h⟩ := must_spec h
        rw [inL_iff] at hj
        obtain ⟨j, rfl⟩ := Int.eq_ofNat_of_zero_le hj.1
        have hj2 : j < l := by omega
        rw [Int.toNat_natCast] at h
        obtain ⟨hu, _⟩ := both_iff hb
        refine hcallG mix gA2 (fn := Try.f26) (by kernel_rfl) (by kernel_rfl) (by kernel_rfl) [n, m] [qO (.sl 1 0 l c) sq, eO xs room] [.iface 64 (.ptr 0 0), .int .i64 j] rfl hu rfl ⟨hg, hg2, trivial⟩ rfl rfl (fun hr ho => (t_up I _ l c room xs sq j).mpr ?_)
        refine ALoop.invg (ps := []) (ts := [0, 1]) (nx := 2) (fun x : List Rw × Nat => j_up l c room x.1 sq (x.2 : Nat)) (fun x => (x.1.length = xs.length ∧ x.2 < l) ∧ upF (x.2 + 1) x.1 x.2 = upF (j + 1) xs j) (fun x => x.2) ?_ (by kernel_rfl) (xs, j) (by kernel_rfl) ⟨⟨rfl, hj2⟩, rfl⟩
        clear ho hr
        rintro ⟨ys, i⟩ ⟨⟨g1, g2⟩, g3⟩
        simp only at g1 g2 g3 ⊢
        refine (t_upR I _ _ l c room ys sq i).mpr ?_
        have e1 : IntKind.i64.wrap ((IntKind.i64.wrap ((i : Int) - 1)).tdiv 2) = (((i - 1) / 2 : Nat) : Int) := by
          rw [w_i64 ((i : Int) - 1)]
          cases i with
          | zero => rw [w_i64]; rfl
          | succ i =>
            have : ((i + 1 : Nat) : Int) - 1 = (i : Int) := by omega
            rw [this]
            have : ((i : Int) + 9223372036854775808) % 18446744073709551616 - 9223372036854775808 = (i : Int) := by omega
            rw [this, show (2 : Int) = ((2 : Nat) : Int) from rfl, ← Int.ofNat_tdiv, w_i64]
            have : i + 1 - 1 = i := by omega
            rw [this]; omega
        simp only [e1, Int.toNat_natCast]
        have done : upF (j + 1) xs j = ys → AllBack hp [n, m] K (.tup []) (.node (.node .leaf (some (eO ys room)) .leaf) (some (qO (.sl 1 0 l c) sq)) .leaf) := fun e => ⟨[], nx, hu, trivial, rfl, rfl, by rw [e] at h; exact h⟩
        have hx := List.getElem?_eq_getElem (show i < ys.length by omega)
        have hy := List.getElem?_eq_getElem (show (i - 1) / 2 < ys.length by omega)
        have hst : upF (i + 1) ys i = if (i - 1) / 2 = i then ys else if lessE ys[i] ys[(i - 1) / 2] then upF i (swapL ys ((i - 1) / 2) i) ((i - 1) / 2) else ys := by
          simp only [upF, hx, hy]
        refine bsplit_both (fun hc => done ?_) (fun hc => must_mk ?_ (xget_mk hx (xget_mk hy (bsplit_both (fun hd => done ?_) (fun hd => ⟨by omega, must_mk ?_ ⟨(swapL ys ((i - 1) / 2) i, (i - 1) / 2), ⟨⟨?_, ?_⟩, ?_⟩, ?_, rfl⟩⟩)))))
        · have hc : (i - 1) / 2 = i := by have := eq_of_beq hc; omega
          rw [← g3, hst, if_pos hc]
        · simp only [Bool.and_eq_true, inL_iff]; omega
        · have hc : ¬ (i - 1) / 2 = i := by
            have := ne_of_beq_false hc; omega
          have hd : lessE ys[i] ys[(i - 1) / 2] = false := by simpa using hd
          rw [← g3, hst, if_neg hc, hd]; rfl
        · simp only [Bool.and_eq_true, inL_iff]; omega
        · simp only [swapL_length]; exact g1
        · show (i - 1) / 2 < l; omega
        · have hc : ¬ (i - 1) / 2 = i := by
            have := ne_of_beq_false hc; omega
          have hd : lessE ys[i] ys[(i - 1) / 2] = true := by simpa using hd
          rw [← g3, hst, if_neg hc, hd]
          exact upF_fuel _ _ _ _ (by omega) (by omega)
        · have hc : ¬ (i - 1) / 2 = i := by
            have := ne_of_beq_false hc; omega
          show (i - 1) / 2 < i; omega
      · exact h.elim
    · exact h.elim
  · exact h.elim
theorem k_down : ∀ (args : List AV) (hp : Tr (AO O)) (nx : Nat) (K : AV → Tr (AO O) → Nat → Prop), c_down args hp nx K → ACall I P 27 args hp (fun v hp' => ∃ nx', K v hp' nx') := by
  intro args hp nx K h
  unfold c_down at h; split at h
  · rename_i n i0 k
    split at h
    · rename_i m l c sq hg
      split at h
      · rename_i xs room hb hg2
        obtain ⟨⟨h1, h2, h3, h4, h5, h6⟩, h⟩ := h
        obtain ⟨i0, rfl⟩ := Int.eq_ofNat_of_zero_le h3
        obtain ⟨k, rfl⟩ := Int.eq_ofNat_of_zero_le h5
        rw [Int.toNat_natCast, Int.toNat_natCast] at h
        obtain ⟨hu, _⟩ := both_iff hb
        refine hcallG mix gA2 (fn := Try.f27) (by kernel_rfl) (by kernel_rfl) (by kernel_rfl) [n, m] [qO (.sl 1 0 l c) sq, eO xs room] [.iface 64 (.ptr 0 0), .int .i64 i0, .int .i64 k] rfl hu rfl ⟨hg, hg2, trivial⟩ rfl rfl (fun hr ho => (t_down I _ l c room xs sq i0 k).mpr ?_)
        refine ALoop.invg (ps := []) (ts := [0, 1, 2, 7]) (nx := 2) (fun x : List Rw × Nat => j_down l c room x.1 sq i0 k (x.2 : Nat)) (fun x => (x.1.length = xs.length ∧ x.2 ≤ l) ∧ downF (k - x.2 + 1) x.1 x.2 k = downF (k + 1) xs i0 k) (fun x => k - x.2) ?_ (by kernel_rfl) (xs, i0) (by kernel_rfl) ⟨⟨rfl, by show i0 ≤ l; omega⟩, downF_fuel _ _ _ _ _ (by show k - i0 < k - i0 + 1; omega) (by show k - i0 < k + 1; omega)⟩
        clear ho hr
        rintro ⟨ys, i⟩ ⟨⟨g1, g2⟩, g3⟩
        simp only at g1 g2 g3 ⊢
        refine (t_downR I _ _ l c room ys sq i0 k i).mpr ?_
        have e0 : IntKind.i64.wrap (2 * (i : Int)) = ((2 * i : Nat) : Int) := by rw [w_i64]; omega
        have e1 : IntKind.i64.wrap (((2 * i : Nat) : Int) + 1) = ((2 * i + 1 : Nat) : Int) := by rw [w_i64]; omega
        have e2 : IntKind.i64.wrap (((2 * i + 1 : Nat) : Int) + 1) = ((2 * i + 2 : Nat) : Int) := by rw [w_i64]; omega
        simp only [e0, e1, e2, Int.toNat_natCast]
        have done : downF (k + 1) xs i0 k = ys → ∀ b, AllBack hp [n, m] K (.bool b) (.node (.node .leaf (some (eO ys room)) .leaf) (some (qO (.sl 1 0 l c) sq)) .leaf) := fun e b => ⟨[], nx, hu, trivial, rfl, rfl, by rw [e] at h; exact h b⟩
        refine bsplit_both (fun hc => done ?_ _) (fun hc => bsplit_both (fun hd => ?_) (fun hd => ?_))
        · have hc := of_decide_eq_true hc
          rw [← g3]; simp only [downF]; rw [if_pos (by omega)]
        · have := of_decide_eq_true hd; omega
        have hc := of_decide_eq_false hc
        have hi := List.getElem?_eq_getElem (show i < ys.length by omega)
        have h1' := List.getElem?_eq_getElem (show 2 * i + 1 < ys.length by omega)
        -- the lesser child
        have hst : ∀ (j : Nat) (hj : j < ys.length), childF ys i k = j → downF (k - i + 1) ys i k = if lessE ys[j] ys[i] then downF (k - i) (swapL ys i j) j k else ys := fun j hj e => by
          simp only [downF, e]
          rw [if_neg (by omega), List.getElem?_eq_getElem hj, hi]
        have go : ∀ (j : Nat) (hj : j < ys.length), childF ys i k = j → j < k → (lessE ys[j] ys[i] = true → ((swapL ys i j).length = xs.length ∧ j ≤ l) ∧ downF (k - j + 1) (swapL ys i j) j k = downF (k + 1) xs i0 k) ∧ (lessE ys[j] ys[i] = false → downF (k + 1) xs i0 k = ys) := fun j hj e hk => by
          refine ⟨fun hl => ⟨⟨by rw [swapL_length]; exact g1, by omega⟩, ?_⟩, fun hl => ?_⟩
          · rw [← g3, hst j hj e, hl]
            have := (childF_gt ys i k).1
            exact downF_fuel _ _ _ _ _ (by omega) (by omega)
          · rw [← g3, hst j hj e, hl]; rfl
        have hinl : ∀ a b : Nat, a < l → b < l → (inL (a : Int) l && inL (b : Int) l) = true := fun a b ha hb => by simp only [Bool.and_eq_true, inL_iff]; omega
        refine bsplit_both (fun he => ?_) (fun he => ?_)
        · have he := of_decide_eq_true he
          have h2' := List.getElem?_eq_getElem (show 2 * i + 2 < ys.length by omega)
          refine must_mk (hinl _ _ (by omega) (by omega)) (xget_mk h2' (xget_mk h1' (bsplit_both (fun hf => ?_) (fun hf => ?_))))
          · have hch : childF ys i k = 2 * i + 2 := by unfold childF; rw [h1', h2']; simp only; rw [if_pos ⟨by omega, hf⟩]
            refine must_mk (hinl _ _ (by omega) (by omega)) (xget_mk h2' (xget_mk hi (bsplit_both (fun hx => ?_) (fun hx => ⟨by omega, must_mk (hinl _ _ (by omega) (by omega)) ⟨(swapL ys i (2 * i + 2), 2 * i + 2), ?_, ?_, rfl⟩⟩))))
            · exact done ((go _ (by omega) hch (by omega)).2 (by simpa using hx)) _
            · exact (go _ (by omega) hch (by omega)).1 (by simpa using hx)
            · show k - (2 * i + 2) < k - i; omega
          · have hch : childF ys i k = 2 * i + 1 := by unfold childF; rw [h1', h2']; simp only; rw [if_neg (fun h => by rw [hf] at h; cases h.2)]
            refine must_mk (hinl _ _ (by omega) (by omega)) (xget_mk h1' (xget_mk hi (bsplit_both (fun hx => ?_) (fun hx => ⟨by omega, must_mk (hinl _ _ (by omega) (by omega)) ⟨(swapL ys i (2 * i + 1), 2 * i + 1), ?_, ?_, rfl⟩⟩))))
            · exact done ((go _ (by omega) hch (by omega)).2 (by simpa using hx)) _
            · exact (go _ (by omega) hch (by omega)).1 (by simpa using hx)
            · show k - (2 * i + 1) < k - i; omega
        · have he := of_decide_eq_false he
          have hch : childF ys i k = 2 * i + 1 := by
            unfold childF
            split
            · rw [if_neg (fun h => by omega)]
            · rfl
          refine must_mk (hinl _ _ (by omega) (by omega)) (xget_mk h1' (xget_mk hi (bsplit_both (fun hx => ?_) (fun hx => ⟨by omega, must_mk (hinl _ _ (by omega) (by omega)) ⟨(swapL ys i (2 * i + 1), 2 * i + 1), ?_, ?_, rfl⟩⟩))))
          · exact done ((go _ (by omega) hch (by omega)).2 (by simpa using hx)) _
          · exact (go _ (by omega) hch (by omega)).1 (by simpa using hx)
          · show k - (2 * i + 1) < k - i; omega
      · exact h.elim
    · exact h.elim
  · exact h.elim
end Go.Tb.W

/- Queues: what the functions of the library's heaps tell and leave. -/
set_option linter.all false
set_option maxRecDepth 100000
namespace Go.Tb.W
open Go Go.Proofs
def c_hpush (args : List AV) (hp : Tr (AO O)) (nx : Nat) (K : AV → Tr (AO O) → Nat → Prop) : Prop := match args with
  | [.iface 64 (.ptr n 0), .iface 66 (.agg [.int .i64 a, .int .i64 b, .str s, .int .i64 d])] => match hp.get n, hp.get nx, Nat.blt nx 16777215 with
    | some (.cells 27 [.sl m 0 l c, .int .i64 sq] 2), none, true => match both n m, hp.get m with
      | true, some (.rows 66 [.i .i64, .i .i64, .s, .i .i64] xs room) => (l ≤ xs.length ∧ c * 4 ≤ room ∧ l ≤ 100000) ∧ ∀ c' : Nat, l + 1 ≤ c' → c' ≤ 9223372036854775807 →
        K (.tup []) (((hp.set nx (some (eO (upF (l + 1) (xs.take l ++ [mkE a b s d]) l) (c' * 4)))).set m (some .gone)).set n (some (qO (.sl nx 0 (l + 1) c') sq))) (nx + 1)
      | _, _ => False
    | some (.cells 27 [.nils, .int .i64 sq] 2), none, true => match Nat.blt n 16777215 with
      | true => ∀ c' : Nat, 1 ≤ c' → c' ≤ 9223372036854775807 →
        K (.tup []) ((hp.set nx (some (eO (upF 1 [mkE a b s d] 0) (c' * 4)))).set n (some (qO (.sl nx 0 1 c') sq))) (nx + 1)
      | _ => False
    | _, _, _ => False
  | _ => False
def c_hpop (args : List AV) (hp : Tr (AO O)) (nx : Nat) (K : AV → Tr (AO O) → Nat → Prop) : Prop := match args with
  | [.iface 64 (.ptr n 0)] => match hp.get n with
    | some (.cells 27 [.sl m 0 l c, .int .i64 sq] 2) => match both n m, hp.get m with
      | true, some (.rows 66 [.i .i64, .i .i64, .s, .i .i64] xs room) => (1 ≤ l ∧ l ≤ xs.length ∧ l ≤ 100001) ∧ ∀ a b s d,
        K (.iface 66 (.agg [.int .i64 a, .int .i64 b, .str s, .int .i64 d])) ((hp.set m (some (eO (downF l (swapL xs 0 (l - 1)) 0 (l - 1)) room))).set n (some (qO (.sl m 0 (l - 1) c) sq))) nx
      | _, _ => False
    | _ => False
  | _ => False
/-- All of it made a heap. -/
def initF : Nat → List Rw → Nat → List Rw
  | 0, xs, _ => xs
  | i + 1, xs, n => initF i (downF (n + 1) xs i n) n
def c_hinit (args : List AV) (hp : Tr (AO O)) (nx : Nat) (K : AV → Tr (AO O) → Nat → Prop) : Prop := match args with
  | [.iface 64 (.ptr n 0)] => match hp.get n with
    | some (.cells 27 [.sl m 0 l c, .int .i64 sq] 2) => match both n m, hp.get m with
      | true, some (.rows 66 [.i .i64, .i .i64, .s, .i .i64] xs room) => (l ≤ xs.length ∧ l ≤ 100001) ∧
        K (.tup []) ((hp.set m (some (eO (initF (l / 2) xs l) room))).set n (some (qO (.sl m 0 l c) sq))) nx
      | _, _ => False
    | some (.cells 27 [.nils, .int .i64 sq] 2) => match Nat.blt n 16777215 with
      | true => K (.tup []) (hp.set n (some (qO .nils sq))) nx
      | _ => False
    | _ => False
  | _ => False
abbrev kO (kd : Int) : AO O := .cells 3 [.int .i64 kd] 1
def c_drop1 (args : List AV) (hp : Tr (AO O)) (nx : Nat) (K : AV → Tr (AO O) → Nat → Prop) : Prop := match args with
  | [.agg [.int .i64 a, .int .i64 b, .str s, .int .i64 d], .ptr k 0] => match Nat.blt k 16777215, hp.get k with
    | true, some (.cells 3 [.int .i64 kd] 1) => K (.bool (b == kd)) hp nx
    | _, _ => False
  | _ => False
def idxF (xs : List Rw) (kd : Int) : Int := match xs.findIdx? (fun x => x.i 1 == kd) with | some i => (i : Int) | none => -1
def c_indexf (args : List AV) (hp : Tr (AO O)) (nx : Nat) (K : AV → Tr (AO O) → Nat → Prop) : Prop := match args with
  | [.sl m 0 l c, .fn (.func 24) [] [.ptr k 0]] => match both m k, hp.get m, hp.get k with
    | true, some (.rows 66 [.i .i64, .i .i64, .s, .i .i64] xs room), some (.cells 3 [.int .i64 kd] 1) => l ≤ xs.length ∧ K (.int .i64 (idxF (xs.take l) kd)) hp nx
    | _, _, _ => False
  | [.nils, .fn (.func 24) [] [.ptr k 0]] => match Nat.blt k 16777215, hp.get k with
    | true, some (.cells 3 [.int .i64 kd] 1) => K (.int .i64 (-1)) hp nx
    | _, _ => False
  | _ => False
def NR (xs : List Rw) : Prop := ∀ x ∈ xs, nE x = x
def c_deletef (args : List AV) (hp : Tr (AO O)) (nx : Nat) (K : AV → Tr (AO O) → Nat → Prop) : Prop := match args with
  | [.sl m 0 l c, .fn (.func 24) [] [.ptr k 0]] => match both m k, hp.get m, hp.get k with
    | true, some (.rows 66 [.i .i64, .i .i64, .s, .i .i64] xs room), some (.cells 3 [.int .i64 kd] 1) => (l ≤ xs.length ∧ NR (xs.take l)) ∧ ∀ (ys : List Rw) (i : Nat),
      (ys.length = xs.length ∧ i ≤ l ∧ ys.take i = (xs.take l).filter (fun x => !(x.i 1 == kd))) → K (.sl m 0 i c) ((hp.set k (some (kO kd))).set m (some (eO ys room))) nx
    | _, _, _ => False
  | [.nils, .fn (.func 24) [] [.ptr k 0]] => match Nat.blt k 16777215, hp.get k with
    | true, some (.cells 3 [.int .i64 kd] 1) => K .nils hp nx
    | _, _ => False
  | _ => False
noncomputable abbrev A3 : List (FuncId × Sp O) :=
  (26, .h c_up) ::
  (27, .h c_down) ::
  A2
noncomputable abbrev A5 : List (FuncId × Sp O) :=
  (24, .h c_drop1) ::
  []
noncomputable abbrev A6 : List (FuncId × Sp O) :=
  (28, .h c_indexf) ::
  A5
noncomputable abbrev A4 : List (FuncId × Sp O) :=
  (21, .h c_hpush) ::
  (22, .h c_hpop) ::
  (25, .h c_hinit) ::
  (23, .h c_deletef) ::
  []
noncomputable abbrev j_init (l c room : Nat) (xs : List Rw) (sq i : Int) : St O := ⟨Tr.setL [(0, .iface 64 (.ptr 0 0)), (2, .int .i64 l), (3, .int .i64 i)] .leaf, Tr.setL [(0, qO (.sl 1 0 l c) sq), (1, eO xs room)] .leaf, 2, 17⟩
noncomputable abbrev j_init0 (sq : Int) : St O := ⟨Tr.setL [(0, .iface 64 (.ptr 0 0)), (2, .int .i64 0), (3, .int .i64 (-1))] .leaf, Tr.setL [(0, qO .nils sq)] .leaf, 1, 17⟩
noncomputable abbrev j_idx (l c room : Nat) (xs : List Rw) (kd i : Int) : St O := ⟨Tr.setL [(0, .sl 0 0 l c), (1, .fn (.func 24) [] [.ptr 1 0]), (7, .int .i64 l), (8, .int .i64 i)] .leaf, Tr.setL [(0, eO xs room), (1, kO kd)] .leaf, 2, 19⟩
noncomputable abbrev j_idx0 (kd : Int) : St O := ⟨Tr.setL [(0, .nils), (1, .fn (.func 24) [] [.ptr 0 0]), (7, .int .i64 0), (8, .int .i64 0)] .leaf, Tr.setL [(0, kO kd)] .leaf, 1, 19⟩
noncomputable abbrev j_del (l c room : Nat) (xs : List Rw) (kd i k : Int) : St O := ⟨Tr.setL [(0, .sl 0 0 l c), (1, .fn (.func 24) [] [.ptr 1 0]), (5, .int .i64 i), (6, .int .i64 k)] .leaf, Tr.setL [(0, eO xs room), (1, kO kd)] .leaf, 2, 42⟩
end Go.Tb.W

/- What the functions' bodies come to: each line is what the abstract machine makes of one function, or of one round of a loop, over the contracts of the functions that it calls (the text was printed by a program of mine; Lean proves it again). -/
set_option linter.all false
set_option maxRecDepth 100000
set_option maxHeartbeats 2000000
namespace Go.Tb
open Go Go.Proofs
namespace W
theorem t_hpush (I : Interp O) (K : AV → Tr (AO O) → Nat → Prop) (l c room : Nat) (xs : List Rw) (sq a b d : Int) (s : ByteArray) : abody I P (Gm A3) (adraw P (Gm A3)) 2 Try.f21 [.iface 64 (.ptr 0 0), .iface 66 (.agg [.int .i64 a, .int .i64 b, .str s, .int .i64 d])] (Tr.ofList 0 [qO (.sl 1 0 l c) sq, eO xs room] .leaf) 2 K =
  ((l ≤ xs.length ∧ c * (4 : Nat) ≤ room ∧ l ≤ (100000 : Nat)) ∧ (∀ (c'0 : Nat), (l + 1 ≤ c'0 → (c'0 ≤ 9223372036854775807 → ((l + (1 : Nat) ≤ (List.take l xs ++ [rwA [AV.int IntKind.i64 a, AV.int IntKind.i64 b, AV.str s, AV.int IntKind.i64 d]]).length ∧ l + (1 : Nat) ≤ (100001 : Nat)) ∧ (must (inL (IntKind.i64.wrap ((↑(l + 1) : Int) - 1)) (l + 1)) (K (.tup []) (.node (.node .leaf (some .gone) .leaf) (some (.cells 27 [(.sl 2 0 (l + 1) (c'0)), (.int IntKind.i64 (sq))] 2)) (.node .leaf (some (.rows 66 [Sh.i IntKind.i64, Sh.i IntKind.i64, Sh.s, Sh.i IntKind.i64] (upF ((IntKind.i64.wrap ((↑(l + 1) : Int) - 1)).toNat + 1) (List.take l xs ++ [rwA [AV.int IntKind.i64 a, AV.int IntKind.i64 b, AV.str s, AV.int IntKind.i64 d]]) (IntKind.i64.wrap ((↑(l + 1) : Int) - 1)).toNat) (c'0 * 4))) .leaf)) 3))))))) := by kernel_rfl
theorem t_hpush0 (I : Interp O) (K : AV → Tr (AO O) → Nat → Prop) (sq a b d : Int) (s : ByteArray) : abody I P (Gm A3) (adraw P (Gm A3)) 1 Try.f21 [.iface 64 (.ptr 0 0), .iface 66 (.agg [.int .i64 a, .int .i64 b, .str s, .int .i64 d])] (Tr.ofList 0 [qO .nils sq] .leaf) 1 K =
  (∀ (c'0 : Nat), (1 ≤ c'0 → (c'0 ≤ 9223372036854775807 → (((1 : Nat) ≤ [rwA [AV.int IntKind.i64 a, AV.int IntKind.i64 b, AV.str s, AV.int IntKind.i64 d]].length ∧ (1 : Nat) ≤ (100001 : Nat)) ∧ (K (.tup []) (.node (.node .leaf (some (.rows 66 [Sh.i IntKind.i64, Sh.i IntKind.i64, Sh.s, Sh.i IntKind.i64] (upF ((IntKind.i64.wrap ((↑1 : Int) - 1)).toNat + 1) [rwA [AV.int IntKind.i64 a, AV.int IntKind.i64 b, AV.str s, AV.int IntKind.i64 d]] (IntKind.i64.wrap ((↑1 : Int) - 1)).toNat) (c'0 * 4))) .leaf) (some (.cells 27 [(.sl 1 0 1 (c'0)), (.int IntKind.i64 (sq))] 2)) .leaf) 2))))) := by kernel_rfl
theorem t_hpop (I : Interp O) (K : AV → Tr (AO O) → Nat → Prop) (l c room : Nat) (xs : List Rw) (sq : Int) : abody I P (Gm A3) (adraw P (Gm A3)) 2 Try.f22 [.iface 64 (.ptr 0 0)] (Tr.ofList 0 [qO (.sl 1 0 l c) sq, eO xs room] .leaf) 2 K =
  ((l ≤ xs.length) ∧ (must (inL 0 l && inL (IntKind.i64.wrap ((↑l : Int) - 1)) l) ((l ≤ (swapL xs (Int.toNat (0 : Int)) (IntKind.i64.wrap ((↑l : Int) - (1 : Int))).toNat).length ∧ l ≤ (100001 : Nat) ∧ (0 : Int) ≤ (0 : Int) ∧ (0 : Int) ≤ (↑l : Int) ∧ (0 : Int) ≤ IntKind.i64.wrap ((↑l : Int) - (1 : Int)) ∧ IntKind.i64.wrap ((↑l : Int) - (1 : Int)) ≤ (↑l : Int)) ∧ (∀ (b0 : Bool), (((1 : Nat) ≤ l ∧ l ≤ (downF ((IntKind.i64.wrap ((↑l : Int) - (1 : Int))).toNat + (1 : Nat)) (swapL xs (Int.toNat (0 : Int)) (IntKind.i64.wrap ((↑l : Int) - (1 : Int))).toNat) (Int.toNat (0 : Int)) (IntKind.i64.wrap ((↑l : Int) - (1 : Int))).toNat).length) ∧ (∀ (a1 : Int), (∀ (b2 : Int), (∀ (s3 : ByteArray), (∀ (d4 : Int), (K (.iface 66 (.agg [(.int IntKind.i64 (a1)), (.int IntKind.i64 (b2)), (.str (s3)), (.int IntKind.i64 (d4))])) (.node (.node .leaf (some (.rows 66 [Sh.i IntKind.i64, Sh.i IntKind.i64, Sh.s, Sh.i IntKind.i64] (downF ((IntKind.i64.wrap ((↑l : Int) - 1)).toNat + 1) (swapL xs (Int.toNat 0) (IntKind.i64.wrap ((↑l : Int) - 1)).toNat) (Int.toNat 0) (IntKind.i64.wrap ((↑l : Int) - 1)).toNat) (room))) .leaf) (some (.cells 27 [(.sl 1 0 (l - 1) (c)), (.int IntKind.i64 (sq))] 2)) .leaf) 2)))))))))) := by kernel_rfl
theorem t_hinit (I : Interp O) (K : AV → Tr (AO O) → Nat → Prop) (l c room : Nat) (xs : List Rw) (sq : Int) : abody I P (Gm A3) (adraw P (Gm A3)) 2 Try.f25 [.iface 64 (.ptr 0 0)] (Tr.ofList 0 [qO (.sl 1 0 l c) sq, eO xs room] .leaf) 2 K =
  (ALoop I 2 (cd Try.f25 [true, true, false, false]) (acode I P (Gm A3) (adraw P (Gm A3)) 2 (cd Try.f25 [true, true, false, false])) (ablock 0 (kret P Try.f25 (K))) ⟨(.node (.node (.node (.node .leaf (some (.int IntKind.i64 (IntKind.i64.wrap ((↑l : Int).tdiv 2)))) .leaf) (some (.int IntKind.i64 (IntKind.i64.wrap (IntKind.i64.wrap ((↑l : Int).tdiv 2) - 1)))) .leaf) none (.node .leaf (some (.int IntKind.i64 ((↑l : Int)))) .leaf)) (some (.iface 64 (.ptr 0 0))) (.node (.node (.node .leaf (some (.int IntKind.i64 (IntKind.i64.wrap (IntKind.i64.wrap ((↑l : Int).tdiv 2) - 1)))) .leaf) (some (.iface 64 (.ptr 0 0))) .leaf) (some (.int IntKind.i64 ((↑l : Int)))) (.node .leaf (some (.int IntKind.i64 ((↑l : Int)))) .leaf))), (.node (.node .leaf (some (.rows 66 [Sh.i IntKind.i64, Sh.i IntKind.i64, Sh.s, Sh.i IntKind.i64] (xs) (room))) .leaf) (some (.cells 27 [(.sl 1 0 (l) (c)), (.int IntKind.i64 (sq))] 2)) .leaf), 2, 17⟩) := by kernel_rfl
theorem t_hinit0 (I : Interp O) (K : AV → Tr (AO O) → Nat → Prop) (sq : Int) : abody I P (Gm A3) (adraw P (Gm A3)) 1 Try.f25 [.iface 64 (.ptr 0 0)] (Tr.ofList 0 [qO .nils sq] .leaf) 1 K =
  (ALoop I 1 (cd Try.f25 [true, true, false, false]) (acode I P (Gm A3) (adraw P (Gm A3)) 1 (cd Try.f25 [true, true, false, false])) (ablock 0 (kret P Try.f25 (K))) ⟨(.node (.node (.node (.node .leaf (some (.int IntKind.i64 (0 : Int))) .leaf) (some (.int IntKind.i64 (-1 : Int))) .leaf) none (.node .leaf (some (.int IntKind.i64 (0 : Int))) .leaf)) (some (.iface 64 (.ptr 0 0))) (.node (.node (.node .leaf (some (.int IntKind.i64 (-1 : Int))) .leaf) (some (.iface 64 (.ptr 0 0))) .leaf) (some (.int IntKind.i64 (0 : Int))) (.node .leaf (some (.int IntKind.i64 (0 : Int))) .leaf))), (.node .leaf (some (.cells 27 [.nils, (.int IntKind.i64 (sq))] 2)) .leaf), 1, 17⟩) := by kernel_rfl
theorem t_drop1 (I : Interp O) (K : AV → Tr (AO O) → Nat → Prop) (a b d kd : Int) (s : ByteArray) : abody I P (Gm N0) (adraw P (Gm N0)) 1 Try.f24 [.agg [.int .i64 a, .int .i64 b, .str s, .int .i64 d], .ptr 0 0] (Tr.ofList 0 [kO kd] .leaf) 1 K =
  (K (.bool (b == kd)) (.node (.node .leaf (some (.cells 66 [(.int IntKind.i64 (a)), (.int IntKind.i64 (b)), (.str (s)), (.int IntKind.i64 (d))] 4)) .leaf) (some (.cells 3 [(.int IntKind.i64 (kd))] 1)) .leaf) 2) := by kernel_rfl
theorem t_indexf (I : Interp O) (K : AV → Tr (AO O) → Nat → Prop) (l c room : Nat) (xs : List Rw) (kd : Int) : abody I P (Gm A5) (adraw P (Gm A5)) 2 Try.f28 [.sl 0 0 l c, .fn (.func 24) [] [.ptr 1 0]] (Tr.ofList 0 [eO xs room, kO kd] .leaf) 2 K =
  (ALoop I 2 (cd Try.f28 [true, false, true, false, false]) (acode I P (Gm A5) (adraw P (Gm A5)) 2 (cd Try.f28 [true, false, true, false, false])) (ablock 0 (athen (cd Try.f28 [true, true]) (fun s => acode I P (Gm A5) (adraw P (Gm A5)) 2 (cd Try.f28 [true, true]) s (kret P Try.f28 (K))) (kret P Try.f28 (K)))) ⟨(.node (.node (.node (.node .leaf (some (.int IntKind.i64 ((↑l : Int)))) .leaf) none .leaf) (some (.fn (Fn.func 24) [] [(.ptr 1 0)])) .leaf) (some (.sl 0 0 (l) (c))) (.node (.node (.node .leaf (some (.int IntKind.i64 (0 : Int))) .leaf) (some (.int IntKind.i64 (0 : Int))) .leaf) none (.node .leaf (some (.sl 0 0 (l) (c))) .leaf))), (.node (.node .leaf (some (.cells 3 [(.int IntKind.i64 (kd))] 1)) .leaf) (some (.rows 66 [Sh.i IntKind.i64, Sh.i IntKind.i64, Sh.s, Sh.i IntKind.i64] (xs) (room))) .leaf), 2, 19⟩) := by kernel_rfl
theorem t_indexf0 (I : Interp O) (K : AV → Tr (AO O) → Nat → Prop) (kd : Int) : abody I P (Gm A5) (adraw P (Gm A5)) 1 Try.f28 [.nils, .fn (.func 24) [] [.ptr 0 0]] (Tr.ofList 0 [kO kd] .leaf) 1 K =
  (ALoop I 1 (cd Try.f28 [true, false, true, false, false]) (acode I P (Gm A5) (adraw P (Gm A5)) 1 (cd Try.f28 [true, false, true, false, false])) (ablock 0 (athen (cd Try.f28 [true, true]) (fun s => acode I P (Gm A5) (adraw P (Gm A5)) 1 (cd Try.f28 [true, true]) s (kret P Try.f28 (K))) (kret P Try.f28 (K)))) ⟨(.node (.node (.node (.node .leaf (some (.int IntKind.i64 (0 : Int))) .leaf) none .leaf) (some (.fn (Fn.func 24) [] [(.ptr 0 0)])) .leaf) (some .nils) (.node (.node (.node .leaf (some (.int IntKind.i64 (0 : Int))) .leaf) (some (.int IntKind.i64 (0 : Int))) .leaf) none (.node .leaf (some .nils) .leaf))), (.node .leaf (some (.cells 3 [(.int IntKind.i64 (kd))] 1)) .leaf), 1, 19⟩) := by kernel_rfl
theorem t_deletef (I : Interp O) (K : AV → Tr (AO O) → Nat → Prop) (l c room : Nat) (xs : List Rw) (kd : Int) : abody I P (Gm A6) (adraw P (Gm A6)) 2 Try.f23 [.sl 0 0 l c, .fn (.func 24) [] [.ptr 1 0]] (Tr.ofList 0 [eO xs room, kO kd] .leaf) 2 K =
  ((l ≤ xs.length) ∧ (bsplit (idxF (List.take l xs) kd == -1) fun | true => (K (.sl 0 0 (l) (c)) (.node (.node .leaf (some (.cells 3 [(.int IntKind.i64 (kd))] 1)) .leaf) (some (.rows 66 [Sh.i IntKind.i64, Sh.i IntKind.i64, Sh.s, Sh.i IntKind.i64] (xs) (room))) .leaf) 2) | false => (ALoop I 2 (cd Try.f23 [true, true, true, false, true, false, false]) (acode I P (Gm A6) (adraw P (Gm A6)) 2 (cd Try.f23 [true, true, true, false, true, false, false])) (ablock 0 (athen (cd Try.f23 [true, true, true, true]) (fun s => acode I P (Gm A6) (adraw P (Gm A6)) 2 (cd Try.f23 [true, true, true, true]) s (kret P Try.f23 (K))) (kret P Try.f23 (K)))) ⟨(.node (.node (.node (.node (.node .leaf (some (.int IntKind.i64 (IntKind.i64.wrap (idxF (List.take l xs) kd + 1)))) .leaf) none .leaf) none (.node .leaf (some (.int IntKind.i64 (idxF (List.take l xs) kd))) .leaf)) (some (.fn (Fn.func 24) [] [(.ptr 1 0)])) (.node (.node .leaf (some (.fn (Fn.func 24) [] [(.ptr 1 0)])) .leaf) (some (.int IntKind.i64 (idxF (List.take l xs) kd))) .leaf)) (some (.sl 0 0 (l) (c))) (.node (.node (.node .leaf (some (.sl 0 0 (l) (c))) .leaf) (some .nils) (.node .leaf (some (.bool false)) .leaf)) none (.node (.node .leaf (some (.int IntKind.i64 (idxF (List.take l xs) kd))) .leaf) (some (.int IntKind.i64 (IntKind.i64.wrap (idxF (List.take l xs) kd + 1)))) (.node .leaf (some (.int IntKind.i64 (idxF (List.take l xs) kd))) .leaf)))), (.node (.node .leaf (some (.cells 3 [(.int IntKind.i64 (kd))] 1)) .leaf) (some (.rows 66 [Sh.i IntKind.i64, Sh.i IntKind.i64, Sh.s, Sh.i IntKind.i64] (xs) (room))) .leaf), 2, 42⟩))) := by kernel_rfl
theorem t_deletef0 (I : Interp O) (K : AV → Tr (AO O) → Nat → Prop) (kd : Int) : abody I P (Gm A6) (adraw P (Gm A6)) 1 Try.f23 [.nils, .fn (.func 24) [] [.ptr 0 0]] (Tr.ofList 0 [kO kd] .leaf) 1 K =
  (K .nils (.node .leaf (some (.cells 3 [(.int IntKind.i64 (kd))] 1)) .leaf) 1) := by kernel_rfl
theorem t_hinitR (I : Interp O) (K : AV → Tr (AO O) → Nat → Prop) (X : St O → Prop) (l c room : Nat) (xs : List Rw) (sq i : Int) : acode I P (Gm A3) (adraw P (Gm A3)) 2 (cd Try.f25 [true, true, false, false]) (j_init l c room xs sq i) (lpg 2 [] [0, 2, 3] 2 X (ablock 0 (kret P Try.f25 (K)))) =
  (bsplit (decide (i ≥ 0)) fun | true => ((l ≤ xs.length ∧ l ≤ (100001 : Nat) ∧ (0 : Int) ≤ i ∧ i ≤ (↑l : Int) ∧ (0 : Int) ≤ (↑l : Int) ∧ (↑l : Int) ≤ (↑l : Int)) ∧ (∀ (b0 : Bool), (X ⟨(.node (.node (.node .leaf (some (.int IntKind.i64 (IntKind.i64.wrap (i - 1)))) .leaf) none .leaf) (some (.iface 64 (.ptr 0 0))) (.node .leaf (some (.int IntKind.i64 ((↑l : Int)))) .leaf)), (.node (.node .leaf (some (.rows 66 [Sh.i IntKind.i64, Sh.i IntKind.i64, Sh.s, Sh.i IntKind.i64] (downF ((↑l : Int).toNat + 1) xs i.toNat (↑l : Int).toNat) (room))) .leaf) (some (.cells 27 [(.sl 1 0 (l) (c)), (.int IntKind.i64 (sq))] 2)) .leaf), 2, 17⟩))) | false => (K (.tup []) (.node (.node .leaf (some (.rows 66 [Sh.i IntKind.i64, Sh.i IntKind.i64, Sh.s, Sh.i IntKind.i64] (xs) (room))) .leaf) (some (.cells 27 [(.sl 1 0 (l) (c)), (.int IntKind.i64 (sq))] 2)) .leaf) 2)) := by kernel_rfl
theorem t_hinit0R (I : Interp O) (K : AV → Tr (AO O) → Nat → Prop) (X : St O → Prop) (sq : Int) : acode I P (Gm A3) (adraw P (Gm A3)) 1 (cd Try.f25 [true, true, false, false]) (j_init0 sq) (lpg 1 [] [0, 2, 3] 1 X (ablock 0 (kret P Try.f25 (K)))) =
  (K (.tup []) (.node .leaf (some (.cells 27 [.nils, (.int IntKind.i64 (sq))] 2)) .leaf) 1) := by kernel_rfl
theorem t_indexfR (I : Interp O) (K : AV → Tr (AO O) → Nat → Prop) (X : St O → Prop) (l c room : Nat) (xs : List Rw) (kd i : Int) : acode I P (Gm A5) (adraw P (Gm A5)) 2 (cd Try.f28 [true, false, true, false, false]) (j_idx l c room xs kd i) (lpg 2 [] [0, 1, 7, 8] 2 X (ablock 0 (athen (cd Try.f28 [true, true]) (fun s => acode I P (Gm A5) (adraw P (Gm A5)) 2 (cd Try.f28 [true, true]) s (kret P Try.f28 (K))) (kret P Try.f28 (K))))) =
  (bsplit (decide (i < (↑l : Int))) fun | true => (must (decide ((0 : Int) ≤ i ∧ i < (↑l : Int))) (xget (xs) (i.toNat) fun x0 => (bsplit (x0.i (0 + 1) == kd) fun | true => (K (.int IntKind.i64 (i)) (.node (.node .leaf (some (.cells 3 [(.int IntKind.i64 (kd))] 1)) .leaf) (some (.rows 66 [Sh.i IntKind.i64, Sh.i IntKind.i64, Sh.s, Sh.i IntKind.i64] (xs) (room))) .leaf) 2) | false => (X ⟨(.node (.node (.node (.node .leaf (some (.int IntKind.i64 ((↑l : Int)))) .leaf) none .leaf) (some (.fn (Fn.func 24) [] [(.ptr 1 0)])) .leaf) (some (.sl 0 0 (l) (c))) (.node (.node (.node .leaf (some (.int IntKind.i64 (IntKind.i64.wrap (i + 1)))) .leaf) none .leaf) none .leaf)), (.node (.node .leaf (some (.cells 3 [(.int IntKind.i64 (kd))] 1)) .leaf) (some (.rows 66 [Sh.i IntKind.i64, Sh.i IntKind.i64, Sh.s, Sh.i IntKind.i64] (xs) (room))) .leaf), 2, 19⟩)))) | false => (K (.int IntKind.i64 (-1 : Int)) (.node (.node .leaf (some (.cells 3 [(.int IntKind.i64 (kd))] 1)) .leaf) (some (.rows 66 [Sh.i IntKind.i64, Sh.i IntKind.i64, Sh.s, Sh.i IntKind.i64] (xs) (room))) .leaf) 2)) := by kernel_rfl
theorem t_indexf0R (I : Interp O) (K : AV → Tr (AO O) → Nat → Prop) (X : St O → Prop) (kd : Int) : acode I P (Gm A5) (adraw P (Gm A5)) 1 (cd Try.f28 [true, false, true, false, false]) (j_idx0 kd) (lpg 1 [] [0, 1, 7, 8] 1 X (ablock 0 (athen (cd Try.f28 [true, true]) (fun s => acode I P (Gm A5) (adraw P (Gm A5)) 1 (cd Try.f28 [true, true]) s (kret P Try.f28 (K))) (kret P Try.f28 (K))))) =
  (K (.int IntKind.i64 (-1 : Int)) (.node .leaf (some (.cells 3 [(.int IntKind.i64 (kd))] 1)) .leaf) 1) := by kernel_rfl
theorem t_deletefR (I : Interp O) (K : AV → Tr (AO O) → Nat → Prop) (X : St O → Prop) (l c room : Nat) (xs : List Rw) (kd i k : Int) : acode I P (Gm A6) (adraw P (Gm A6)) 2 (cd Try.f23 [true, true, true, false, true, false, false]) (j_del l c room xs kd i k) (lpg 2 [] [0, 1, 5, 6] 2 X (ablock 0 (athen (cd Try.f23 [true, true, true, true]) (fun s => acode I P (Gm A6) (adraw P (Gm A6)) 2 (cd Try.f23 [true, true, true, true]) s (kret P Try.f23 (K))) (kret P Try.f23 (K))))) =
  (bsplit (decide (k < (↑l : Int))) fun | true => (must (decide ((0 : Int) ≤ k ∧ k < (↑l : Int))) (xget (xs) (k.toNat) fun x0 => (bsplit (!x0.i (0 + 1) == kd) fun | true => (must (decide ((0 : Int) ≤ i ∧ i < (↑l : Int))) (xget (xs) (i.toNat) fun x1 => (X ⟨(.node (.node .leaf (some (.fn (Fn.func 24) [] [(.ptr 1 0)])) (.node .leaf (some (.int IntKind.i64 (IntKind.i64.wrap (i + 1)))) .leaf)) (some (.sl 0 0 (l) (c))) (.node .leaf none (.node .leaf (some (.int IntKind.i64 (IntKind.i64.wrap (k + 1)))) .leaf))), (.node (.node .leaf (some (.cells 3 [(.int IntKind.i64 (kd))] 1)) .leaf) (some (.rows 66 [Sh.i IntKind.i64, Sh.i IntKind.i64, Sh.s, Sh.i IntKind.i64] (xs.set i.toNat (rwA (acells (AV.agg [encS x0 0 (Sh.i IntKind.i64), encS x0 (0 + 1) (Sh.i IntKind.i64), encS x0 (0 + 1 + 1) Sh.s, encS x0 (0 + 1 + 1 + 1) (Sh.i IntKind.i64)])))) (room))) .leaf), 2, 42⟩))) | false => (X ⟨(.node (.node .leaf (some (.fn (Fn.func 24) [] [(.ptr 1 0)])) (.node .leaf (some (.int IntKind.i64 (i))) .leaf)) (some (.sl 0 0 (l) (c))) (.node .leaf none (.node .leaf (some (.int IntKind.i64 (IntKind.i64.wrap (k + 1)))) .leaf))), (.node (.node .leaf (some (.cells 3 [(.int IntKind.i64 (kd))] 1)) .leaf) (some (.rows 66 [Sh.i IntKind.i64, Sh.i IntKind.i64, Sh.s, Sh.i IntKind.i64] (xs) (room))) .leaf), 2, 42⟩)))) | false => (must (decide ((0 : Int) ≤ i ∧ i ≤ (↑l : Int))) (must (fitsA eS (acells (AV.agg [AV.int IntKind.i64 0, AV.int IntKind.i64 0, AV.str (ByteArray.mk #[]), AV.int IntKind.i64 0])) && (Nat.blt 0 eS.length && ((i.toNat + (l - i.toNat)).ble xs.length && (P.types[66].size.beq eS.length && Nat.blt 0 16777215)))) (must (decide ((0 : Int) ≤ i ∧ i ≤ (↑c : Int))) (K (.sl 0 0 (i.toNat) (c)) (.node (.node .leaf (some (.cells 3 [(.int IntKind.i64 (kd))] 1)) .leaf) (some (.rows 66 [Sh.i IntKind.i64, Sh.i IntKind.i64, Sh.s, Sh.i IntKind.i64] (clearR xs i.toNat (l - i.toNat) (rwA (acells (AV.agg [AV.int IntKind.i64 0, AV.int IntKind.i64 0, AV.str (ByteArray.mk #[]), AV.int IntKind.i64 0])))) (room))) .leaf) 2))))) := by kernel_rfl
end W
end Go.Tb

/- Queues: the library's heaps, and what is dropped, proved. -/
set_option linter.all false
set_option maxRecDepth 100000
namespace Go.Tb.W
open Go Go.Proofs
variable {I : Interp O}
theorem gA3 : GOk I P (Gm A3) := Gm.consH (Gm.consH gA2 k_down) k_up
theorem k_drop1 : ∀ (args : List AV) (hp : Tr (AO O)) (nx : Nat) (K : AV → Tr (AO O) → Nat → Prop), c_drop1 args hp nx K → ACall I P 24 args hp (fun v hp' => ∃ nx', K v hp' nx') := by
  intro args hp nx K h
  unfold c_drop1 at h; split at h
  · rename_i a b s d k
    split at h
    · rename_i kd hb hg
      refine hcallK mix Gm.nil (fn := Try.f24) (by kernel_rfl) (by kernel_rfl) (by kernel_rfl) [k] [kO kd] [.agg [.int .i64 a, .int .i64 b, .str s, .int .i64 d], .ptr 0 0] (fun v lh => v = .bool (b == kd) ∧ lh.get 0 = some (kO kd)) rfl (uniq1 hb) rfl ⟨hg, trivial⟩ rfl rfl (fun hr ho => (t_drop1 I _ a b d kd s).mpr ⟨rfl, rfl⟩) ?_
      rintro v lh ⟨rfl, h0⟩
      refine ⟨[], [], uniq1 hb, trivial, rfl, fun j g hj => (by cases hj), ⟨?_, trivial⟩, ?_, rfl, ⟨nx, h⟩⟩
      · show hp.get k = (lh.get 0).map _; rw [hg, h0]; rfl
      · simp [pairs, nmAll, h0, nmO]; rfl
    · exact h.elim
  · exact h.elim
theorem gA5 : GOk I P (Gm A5) := Gm.consH Gm.nil k_drop1
theorem idxF_some {xs : List Rw} {kd : Int} {i : Nat} (hi : i < xs.length) (h : (xs[i]).i 1 = kd) (hb : ∀ (j : Nat) (hj : j < i), (xs[j]).i 1 ≠ kd) : idxF xs kd = i := by
  unfold idxF
  rw [List.findIdx?_eq_some_iff_getElem.2 ⟨hi, by simpa using h, fun j hj => by simpa using hb j hj⟩]
theorem idxF_none {xs : List Rw} {kd : Int} (hb : ∀ (j : Nat) (hj : j < xs.length), (xs[j]).i 1 ≠ kd) : idxF xs kd = -1 := by
  unfold idxF
  rw [List.findIdx?_eq_none_iff.2 fun x hx => by
    obtain ⟨j, hj, rfl⟩ := List.mem_iff_getElem.1 hx
    simpa using hb j hj]
theorem k_indexf : ∀ (args : List AV) (hp : Tr (AO O)) (nx : Nat) (K : AV → Tr (AO O) → Nat → Prop), c_indexf args hp nx K → ACall I P 28 args hp (fun v hp' => ∃ nx', K v hp' nx') := by
  intro args hp nx K h
  unfold c_indexf at h; split at h
  · rename_i m l c k
    split at h
    · rename_i xs room kd hb hg hg2
      obtain ⟨h1, h⟩ := h
      obtain ⟨hu, _⟩ := both_iff hb
      refine hcallK mix gA5 (fn := Try.f28) (by kernel_rfl) (by kernel_rfl) (by kernel_rfl) [m, k] [eO xs room, kO kd] [.sl 0 0 l c, .fn (.func 24) [] [.ptr 1 0]] (fun v lh => v = .int .i64 (idxF (xs.take l) kd) ∧ lh.get 0 = some (eO xs room) ∧ lh.get 1 = some (kO kd)) rfl hu rfl ⟨hg, hg2, trivial⟩ rfl rfl (fun hr ho => (t_indexf I _ l c room xs kd).mpr ?_) ?_
      · have hlc : l ≤ 9223372036854775807 := by
          simp only [rgs, rg, Bool.and_eq_true, Nat.ble_eq] at hr
          omega
        refine ALoop.invg (ps := []) (ts := [0, 1, 7, 8]) (nx := 2) (fun i : Nat => j_idx l c room xs kd (i : Nat)) (fun i => i ≤ l ∧ ∀ (j : Nat) (hj : j < i) (hx : j < xs.length), (xs[j]).i 1 ≠ kd) (fun i => l - i) ?_ (by kernel_rfl) 0 (by kernel_rfl) ⟨Nat.zero_le _, fun j hj => absurd hj (Nat.not_lt_zero _)⟩
        rintro i ⟨hi, hb⟩
        have hlen : (xs.take l).length = l := by simp; omega
        refine (t_indexfR I _ _ l c room xs kd i).mpr (bsplit_both (fun hx => ?_) (fun hx => ?_))
        · have hx := of_decide_eq_true hx
          have hil : i < l := by omega
          refine must_mk (decide_eq_true ⟨by omega, hx⟩) (xget_mk (List.getElem?_eq_getElem (show (i : Int).toNat < xs.length by omega)) (bsplit_both (fun hq => ⟨?_, rfl, rfl⟩) (fun hq => ⟨i + 1, ⟨hil, fun j hj hx => ?_⟩, by omega, ?_⟩)))
          · have hq : (xs[i]'(by omega)).i 1 = kd := by simpa using hq
            rw [idxF_some (xs := xs.take l) (i := i) (by omega) (by rw [List.getElem_take]; exact hq) (fun j hj => by rw [List.getElem_take]; exact hb j hj (by omega))]
          · have hq : (xs[i]'(by omega)).i 1 ≠ kd := by simpa using hq
            by_cases e : j = i
            · subst e; exact hq
            · exact hb j (by omega) hx
          · have e : IntKind.i64.wrap ((i : Int) + 1) = ((i + 1 : Nat) : Int) := by rw [w_i64]; omega
            simp only [e]; rfl
        · have hx := of_decide_eq_false hx
          refine ⟨?_, rfl, rfl⟩
          rw [idxF_none (xs := xs.take l) (fun j hj => by rw [List.getElem_take]; exact hb j (by omega) (by omega))]
      · rintro v lh ⟨rfl, h0, h1'⟩
        refine ⟨[], [], hu, trivial, rfl, fun j g hj => (by cases hj), ⟨?_, ?_, trivial⟩, ?_, rfl, ⟨nx, h⟩⟩
        · show hp.get m = (lh.get 0).map _; rw [hg, h0]; rfl
        · show hp.get k = (lh.get 1).map _; rw [hg2, h1']; rfl
        · simp [pairs, nmAll, h0, h1', nmO]; rfl
    · exact h.elim
  · rename_i k
    split at h
    · rename_i kd hb hg
      refine hcallK mix gA5 (fn := Try.f28) (by kernel_rfl) (by kernel_rfl) (by kernel_rfl) [k] [kO kd] [.nils, .fn (.func 24) [] [.ptr 0 0]] (fun v lh => v = .int .i64 (-1) ∧ lh.get 0 = some (kO kd)) rfl (uniq1 hb) rfl ⟨hg, trivial⟩ rfl rfl (fun hr ho => (t_indexf0 I _ kd).mpr ?_) ?_
      · refine ALoop.start [] [0, 1, 7, 8] 1 (j_idx0 kd) (by kernel_rfl) (by kernel_rfl) ?_
        refine ALoop.stepg [] [0, 1, 7, 8] 1 ?_
        exact (t_indexf0R I _ _ kd).mpr ⟨rfl, rfl⟩
      · rintro v lh ⟨rfl, h0⟩
        refine ⟨[], [], uniq1 hb, trivial, rfl, fun j g hj => (by cases hj), ⟨?_, trivial⟩, ?_, rfl, ⟨nx, h⟩⟩
        · show hp.get k = (lh.get 0).map _; rw [hg, h0]; rfl
        · simp [pairs, nmAll, h0, nmO]; rfl
    · exact h.elim
  · exact h.elim
theorem gA6 : GOk I P (Gm A6) := Gm.consH gA5 k_indexf
theorem filter_all {xs : List Rw} {p : Rw → Bool} (h : ∀ x ∈ xs, p x = true) : xs.filter p = xs := List.filter_eq_self.2 h
theorem take_succ_get {xs : List Rw} {k : Nat} (h : k < xs.length) : xs.take (k + 1) = xs.take k ++ [xs[k]] := by
  rw [List.take_add_one, List.getElem?_eq_getElem h]; rfl
theorem k_deletef : ∀ (args : List AV) (hp : Tr (AO O)) (nx : Nat) (K : AV → Tr (AO O) → Nat → Prop), c_deletef args hp nx K → ACall I P 23 args hp (fun v hp' => ∃ nx', K v hp' nx') := by
  intro args hp nx K h
  unfold c_deletef at h; split at h
  · rename_i m l c k
    split at h
    · rename_i xs room kd hb hg hg2
      obtain ⟨⟨h1, hnr⟩, h⟩ := h
      obtain ⟨hu, _⟩ := both_iff hb
      refine hcallG mix gA6 (fn := Try.f23) (by kernel_rfl) (by kernel_rfl) (by kernel_rfl) [m, k] [eO xs room, kO kd] [.sl 0 0 l c, .fn (.func 24) [] [.ptr 1 0]] rfl hu rfl ⟨hg, hg2, trivial⟩ rfl rfl (fun hr ho => (t_deletef I _ l c room xs kd).mpr ⟨h1, ?_⟩)
      have hlc : l ≤ c ∧ c ≤ 9223372036854775807 := by
        simp only [rgs, rg, Bool.and_eq_true, Nat.ble_eq] at hr
        exact hr.1
      clear hr ho
      have hlen : (xs.take l).length = l := by simp; omega
      have fin : ∀ (ys : List Rw) (i : Nat), ys.length = xs.length → i ≤ l → ys.take i = (xs.take l).filter (fun x => !(x.i 1 == kd)) → AllBack hp [m, k] K (.sl 0 0 i c) (.node (.node .leaf (some (kO kd)) .leaf) (some (eO ys room)) .leaf) := fun ys i a b d => ⟨[], nx, hu, trivial, rfl, rfl, h ys i ⟨a, b, d⟩⟩
      cases hf : (xs.take l).findIdx? (fun x => x.i 1 == kd) with
      | none =>
        have e : idxF (xs.take l) kd = -1 := by unfold idxF; rw [hf]
        rw [e]
        refine bsplit_both (fun _ => fin xs l rfl (Nat.le_refl _) ?_) (fun hx => absurd hx (by decide))
        rw [filter_all]
        intro x hx
        have := List.findIdx?_eq_none_iff.1 hf x hx
        simp only [this]; rfl
      | some i0 =>
        have e : idxF (xs.take l) kd = (i0 : Int) := by unfold idxF; rw [hf]
        obtain ⟨hi0, hp0, hb0⟩ := List.findIdx?_eq_some_iff_getElem.1 hf
        rw [hlen] at hi0
        have e1 : IntKind.i64.wrap ((i0 : Int) + 1) = ((i0 + 1 : Nat) : Int) := by rw [w_i64]; omega
        simp only [e, e1]
        refine bsplit_both (fun hx => absurd (eq_of_beq hx) (by omega)) (fun hx => ?_)
        refine ALoop.invg (ps := []) (ts := [0, 1, 5, 6]) (nx := 2) (fun x : List Rw × Nat × Nat => j_del l c room x.1 kd (x.2.1 : Nat) (x.2.2 : Nat)) (fun x => (x.1.length = xs.length ∧ x.2.1 < x.2.2 ∧ x.2.2 ≤ l) ∧ x.1.take x.2.1 = (xs.take x.2.2).filter (fun x => !(x.i 1 == kd)) ∧ x.1.drop x.2.2 = xs.drop x.2.2) (fun x => l - x.2.2) ?_ (by kernel_rfl) (xs, i0, i0 + 1) (by kernel_rfl) ⟨⟨rfl, by show i0 < i0 + 1; omega, hi0⟩, ?_, rfl⟩
        · rintro ⟨ys, i, q⟩ ⟨⟨g1, g2, g3⟩, g4, g5⟩
          simp only at g1 g2 g3 g4 g5 ⊢
          refine (t_deletefR I _ _ l c room ys kd i q).mpr (bsplit_both (fun hx => ?_) (fun hx => ?_))
          · have hx := of_decide_eq_true hx
            have hq : q < l := by omega
            have gq : ys[q]'(by omega) = xs[q]'(by omega) := by
              have a : (ys.drop q)[0]? = (xs.drop q)[0]? := by rw [g5]
              simp only [List.getElem?_drop, Nat.add_zero] at a
              rw [List.getElem?_eq_getElem (by omega), List.getElem?_eq_getElem (by omega)] at a
              exact Option.some.inj a
            have e2 : IntKind.i64.wrap ((i : Int) + 1) = ((i + 1 : Nat) : Int) := by rw [w_i64]; omega
            have e3 : IntKind.i64.wrap ((q : Int) + 1) = ((q + 1 : Nat) : Int) := by rw [w_i64]; omega
            have hdrop : ∀ zs : List Rw, zs.drop q = xs.drop q → zs.drop (q + 1) = xs.drop (q + 1) := fun zs e => by
              have := congrArg (List.drop 1) e
              simpa [List.drop_drop, Nat.add_comm] using this
            have hts := take_succ_get (xs := xs) (k := q) (by omega)
            simp only [e2, e3, Int.toNat_natCast]
            refine must_mk (decide_eq_true ⟨by omega, hx⟩) (xget_mk (List.getElem?_eq_getElem (by omega)) (bsplit_both (fun hc => must_mk (decide_eq_true ⟨by omega, by omega⟩) (xget_mk (List.getElem?_eq_getElem (by omega)) ?_)) (fun hc => ⟨(ys, i, q + 1), ⟨⟨g1, by show i < q + 1; omega, hq⟩, ?_, hdrop _ g5⟩, by show l - (q + 1) < l - q; omega, rfl⟩)))
            · have hn : nE (xs[q]'(by omega)) = xs[q]'(by omega) := hnr _ (by
                rw [List.mem_iff_getElem]
                exact ⟨q, by omega, by rw [List.getElem_take]⟩)
              rw [gq] at hc ⊢
              refine ⟨(ys.set i xs[q], i + 1, q + 1), ⟨⟨by simp [g1], by show i + 1 < q + 1; omega, hq⟩, ?_, hdrop _ (by
                show (ys.set i xs[q]).drop q = _
                rw [List.drop_set_of_lt (by omega)]; exact g5)⟩, by show l - (q + 1) < l - q; omega, ?_⟩
              · show (ys.set i xs[q]).take (i + 1) = _
                rw [take_succ_get (by simp; omega), List.take_set_of_le (Nat.le_refl _), g4, hts, List.filter_append]
                have : List.filter (fun x : Rw => !(x.i 1 == kd)) [xs[q]] = [xs[q]] := by
                  rw [List.filter_cons_of_pos (by exact hc)]; rfl
                rw [this]; simp
              · show _ = j_del l c room (ys.set i xs[q]) kd _ _
                rw [← hn]; rfl
            · show ys.take i = (xs.take (q + 1)).filter _
              rw [gq] at hc
              rw [hts, List.filter_append, g4]
              have : List.filter (fun x : Rw => !(x.i 1 == kd)) [xs[q]] = [] := by
                rw [List.filter_cons_of_neg (by
                  have hc : (!(xs[q]'(by omega)).i 1 == kd) = false := hc
                  rw [hc]; simp)]; rfl
              rw [this, List.append_nil]
          · have hx := of_decide_eq_false hx
            have hq : q = l := by omega
            subst hq
            simp only [Int.toNat_natCast]
            refine must_mk (decide_eq_true ⟨by omega, by omega⟩) (must_mk ?_ (must_mk (decide_eq_true ⟨by omega, by omega⟩) (fin _ i ?_ (by omega) ?_)))
            · have t1 : fitsA eS (acells (AV.agg [AV.int IntKind.i64 0, AV.int IntKind.i64 0, AV.str { data := #[] }, AV.int IntKind.i64 0])) = true := rfl
              have t2 : (P.types[66].size.beq eS.length) = true := by kernel_rfl
              rw [t1, t2]
              simp [Nat.ble_eq]; omega
            · rw [clearR_length (by omega)]; exact g1
            · rw [← g4]; unfold clearR
              rw [List.append_assoc, List.take_append_of_le_length (by simp; omega), List.take_take, Nat.min_self]
        · show xs.take i0 = (xs.take (i0 + 1)).filter _
          rw [take_succ_get (by omega), List.filter_append]
          have : List.filter (fun x : Rw => !(x.i 1 == kd)) [xs[i0]'(by omega)] = [] := by
            rw [List.filter_cons_of_neg (by
              rw [List.getElem_take] at hp0
              rw [hp0]; simp)]; rfl
          rw [this, List.append_nil, filter_all]
          intro x hx
          obtain ⟨j, hj, rfl⟩ := List.mem_iff_getElem.1 hx
          have hj' : j < i0 := by simp at hj; omega
          have := hb0 j hj'
          rw [List.getElem_take] at this
          rw [List.getElem_take]
          simpa using this
    · exact h.elim
  · rename_i k
    split at h
    · rename_i kd hb hg
      refine hcallK mix gA6 (fn := Try.f23) (by kernel_rfl) (by kernel_rfl) (by kernel_rfl) [k] [kO kd] [.nils, .fn (.func 24) [] [.ptr 0 0]] (fun v lh => v = .nils ∧ lh.get 0 = some (kO kd)) rfl (uniq1 hb) rfl ⟨hg, trivial⟩ rfl rfl (fun hr ho => (t_deletef0 I _ kd).mpr ⟨rfl, rfl⟩) ?_
      rintro v lh ⟨rfl, h0⟩
      refine ⟨[], [], uniq1 hb, trivial, rfl, fun j g hj => (by cases hj), ⟨?_, trivial⟩, ?_, rfl, ⟨nx, h⟩⟩
      · show hp.get k = (lh.get 0).map _; rw [hg, h0]; rfl
      · simp [pairs, nmAll, h0, nmO]; rfl
    · exact h.elim
  · exact h.elim
end Go.Tb.W

/- Queues: what is pushed, popped, made a heap. -/
set_option linter.all false
set_option maxRecDepth 100000
namespace Go.Tb.W
open Go Go.Proofs
variable {I : Interp O}
theorem k_hpush : ∀ (args : List AV) (hp : Tr (AO O)) (nx : Nat) (K : AV → Tr (AO O) → Nat → Prop), c_hpush args hp nx K → ACall I P 21 args hp (fun v hp' => ∃ nx', K v hp' nx') := by
  intro args hp nx K h
  unfold c_hpush at h; split at h
  · rename_i n a b s d
    split at h
    · rename_i m l c sq hg hfr hnb
      split at h
      · rename_i xs room hb hg2
        obtain ⟨⟨h1, h2, h3⟩, h⟩ := h
        obtain ⟨hu, _⟩ := both_iff hb
        refine hcallG mix gA3 (fn := Try.f21) (by kernel_rfl) (by kernel_rfl) (by kernel_rfl) [n, m] [qO (.sl 1 0 l c) sq, eO xs room] [.iface 64 (.ptr 0 0), .iface 66 (.agg [.int .i64 a, .int .i64 b, .str s, .int .i64 d])] rfl hu rfl ⟨hg, hg2, trivial⟩ rfl rfl (fun hr ho => (t_hpush I _ l c room xs sq a b d s).mpr ⟨⟨h1, h2, h3⟩, fun c' h4 h5 => ?_⟩)
        have e : IntKind.i64.wrap (((l + 1 : Nat) : Int) - 1) = (l : Int) := by rw [w_i64]; omega
        rw [e, Int.toNat_natCast]
        exact ⟨⟨by simp; omega, by omega⟩, must_mk (inL_iff.2 (by omega)) ⟨[(2, nx)], nx + 1, uniq3 hu hfr hnb (by rw [hg]; simp) (by rw [hg2]; simp) rfl, ⟨hfr, trivial⟩, rfl, rfl, h c' h4 h5⟩⟩
      · exact h.elim
    · rename_i sq hg hfr hnb
      split at h
      · rename_i hb
        refine hcallG mix gA3 (fn := Try.f21) (by kernel_rfl) (by kernel_rfl) (by kernel_rfl) [n] [qO .nils sq] [.iface 64 (.ptr 0 0), .iface 66 (.agg [.int .i64 a, .int .i64 b, .str s, .int .i64 d])] rfl (uniq1 hb) rfl ⟨hg, trivial⟩ rfl rfl (fun hr ho => (t_hpush0 I _ sq a b d s).mpr fun c' h4 h5 => ⟨⟨by simp, by omega⟩, ⟨[(1, nx)], nx + 1, uniq2n (uniq1 hb) hfr hnb (by rw [hg]; simp) rfl, ⟨hfr, trivial⟩, rfl, rfl, h c' h4 h5⟩⟩)
      · exact h.elim
    · exact h.elim
  · exact h.elim
theorem downF_length : ∀ (f : Nat) (xs : List Rw) (i n : Nat), (downF f xs i n).length = xs.length
  | 0, _, _, _ => rfl
  | f + 1, xs, i, n => by
    simp only [downF]
    split
    · rfl
    · split
      · split
        · rw [downF_length, swapL_length]
        · rfl
      · rfl
theorem upF_length : ∀ (f : Nat) (xs : List Rw) (i : Nat), (upF f xs i).length = xs.length
  | 0, _, _ => rfl
  | f + 1, xs, i => by
    simp only [upF]
    split
    · split
      · rfl
      · split
        · rw [upF_length, swapL_length]
        · rfl
    · rfl
theorem k_hpop : ∀ (args : List AV) (hp : Tr (AO O)) (nx : Nat) (K : AV → Tr (AO O) → Nat → Prop), c_hpop args hp nx K → ACall I P 22 args hp (fun v hp' => ∃ nx', K v hp' nx') := by
  intro args hp nx K h
  unfold c_hpop at h; split at h
  · rename_i n
    split at h
    · rename_i m l c sq hg
      split at h
      · rename_i xs room hb hg2
        obtain ⟨⟨h1, h2, h3⟩, h⟩ := h
        obtain ⟨hu, _⟩ := both_iff hb
        refine hcallG mix gA3 (fn := Try.f22) (by kernel_rfl) (by kernel_rfl) (by kernel_rfl) [n, m] [qO (.sl 1 0 l c) sq, eO xs room] [.iface 64 (.ptr 0 0)] rfl hu rfl ⟨hg, hg2, trivial⟩ rfl rfl (fun hr ho => (t_hpop I _ l c room xs sq).mpr ?_)
        have e : IntKind.i64.wrap ((l : Int) - 1) = ((l - 1 : Nat) : Int) := by rw [w_i64]; omega
        rw [e, Int.toNat_natCast]
        have e2 : l - 1 + 1 = l := by omega
        rw [e2]
        refine ⟨h2, must_mk (by simp only [Bool.and_eq_true, inL_iff]; omega) ⟨⟨by rw [swapL_length]; exact h2, h3, by omega, by omega, by omega, by omega⟩, fun _ => ⟨⟨h1, by rw [downF_length, swapL_length]; exact h2⟩, fun a b s d => ⟨[], nx, hu, trivial, rfl, rfl, h a b s d⟩⟩⟩⟩
      · exact h.elim
    · exact h.elim
  · exact h.elim
theorem initF_length : ∀ (i : Nat) (xs : List Rw) (n : Nat), (initF i xs n).length = xs.length
  | 0, _, _ => rfl
  | i + 1, xs, n => by rw [initF, initF_length, downF_length]
theorem k_hinit : ∀ (args : List AV) (hp : Tr (AO O)) (nx : Nat) (K : AV → Tr (AO O) → Nat → Prop), c_hinit args hp nx K → ACall I P 25 args hp (fun v hp' => ∃ nx', K v hp' nx') := by
  intro args hp nx K h
  unfold c_hinit at h; split at h
  · rename_i n
    split at h
    · rename_i m l c sq hg
      split at h
      · rename_i xs room hb hg2
        obtain ⟨⟨h1, h3⟩, h⟩ := h
        obtain ⟨hu, _⟩ := both_iff hb
        refine hcallG mix gA3 (fn := Try.f25) (by kernel_rfl) (by kernel_rfl) (by kernel_rfl) [n, m] [qO (.sl 1 0 l c) sq, eO xs room] [.iface 64 (.ptr 0 0)] rfl hu rfl ⟨hg, hg2, trivial⟩ rfl rfl (fun hr ho => (t_hinit I _ l c room xs sq).mpr ?_)
        have e : IntKind.i64.wrap (IntKind.i64.wrap ((l : Int).tdiv 2) - 1) = ((l / 2 : Nat) : Int) - 1 := by
          rw [show (2 : Int) = ((2 : Nat) : Int) from rfl, ← Int.ofNat_tdiv, w_i64 ((l / 2 : Nat) : Int), w_i64]; omega
        rw [e]
        refine ALoop.invg (ps := []) (ts := [0, 2, 3]) (nx := 2) (fun x : List Rw × Nat => j_init l c room x.1 sq ((x.2 : Nat) - 1 : Int)) (fun x => (x.1.length = xs.length ∧ x.2 ≤ l / 2) ∧ initF x.2 x.1 l = initF (l / 2) xs l) (fun x => x.2) ?_ (by kernel_rfl) (xs, l / 2) (by kernel_rfl) ⟨⟨rfl, Nat.le_refl _⟩, rfl⟩
        rintro ⟨ys, i⟩ ⟨⟨g1, g2⟩, g3⟩
        simp only at g1 g2 g3 ⊢
        refine (t_hinitR I _ _ l c room ys sq _).mpr (bsplit_both (fun hx => ?_) (fun hx => ?_))
        · have hx := of_decide_eq_true hx
          cases i with
          | zero => omega
          | succ i =>
            have e1 : ((i + 1 : Nat) : Int) - 1 = (i : Int) := by omega
            have e2 : IntKind.i64.wrap ((i : Int) - 1) = (i : Int) - 1 := by rw [w_i64]; omega
            rw [e1]
            simp only [e2, Int.toNat_natCast]
            exact ⟨⟨by omega, h3, by omega, by omega, by omega, by omega⟩, fun _ => ⟨(downF (l + 1) ys i l, i), ⟨⟨by rw [downF_length]; exact g1, by show i ≤ l / 2; omega⟩, g3⟩, Nat.lt_succ_self i, rfl⟩⟩
        · have hx := of_decide_eq_false hx
          have : i = 0 := by omega
          subst this
          have g3 : ys = initF (l / 2) xs l := g3
          exact ⟨[], nx, hu, trivial, rfl, rfl, by rw [← g3] at h; exact h⟩
      · exact h.elim
    · rename_i sq hg
      split at h
      · rename_i hb
        refine hcallG mix gA3 (fn := Try.f25) (by kernel_rfl) (by kernel_rfl) (by kernel_rfl) [n] [qO .nils sq] [.iface 64 (.ptr 0 0)] rfl (uniq1 hb) rfl ⟨hg, trivial⟩ rfl rfl (fun hr ho => (t_hinit0 I _ sq).mpr ?_)
        refine ALoop.start [] [0, 2, 3] 1 (j_init0 sq) (by kernel_rfl) (by kernel_rfl) ?_
        refine ALoop.stepg [] [0, 2, 3] 1 ?_
        exact (t_hinit0R I _ _ sq).mpr ⟨[], nx, uniq1 hb, trivial, rfl, rfl, h⟩
      · exact h.elim
    · exact h.elim
  · exact h.elim
theorem gA4 : GOk I P (Gm A4) := Gm.consH (Gm.consH (Gm.consH (Gm.consH Gm.nil k_deletef) k_hinit) k_hpop) k_hpush
end Go.Tb.W

/- Queues: what heaps are; plain. -/
set_option linter.all false
set_option maxRecDepth 100000
namespace Go.Tb.W
open Go Go.Proofs
def gE (xs : List Rw) (j : Nat) : Rw := (xs[j]?).getD (mkE 0 0 ByteArray.empty 0)
theorem gE_get {xs : List Rw} {j : Nat} (h : j < xs.length) : xs[j]? = some (gE xs j) := by
  unfold gE; rw [List.getElem?_eq_getElem h]; rfl
theorem less_iff {x y : Rw} : lessE x y = true ↔ x.i 0 < y.i 0 ∨ (x.i 0 = y.i 0 ∧ x.i 3 < y.i 3) := by
  unfold lessE orI cmpI
  rw [decide_eq_true_iff]
  by_cases h1 : x.i 0 < y.i 0
  · rw [if_pos h1]; simp [h1]
  · by_cases h2 : y.i 0 < x.i 0
    · rw [if_neg h1, if_pos h2]; simp; omega
    · rw [if_neg h1, if_neg h2, if_pos rfl]
      by_cases h3 : x.i 3 < y.i 3
      · rw [if_pos h3]; omega
      · rw [if_neg h3]; by_cases h4 : y.i 3 < x.i 3
        · rw [if_pos h4]; omega
        · rw [if_neg h4]; omega
/-- Not behind. -/
def leE (x y : Rw) : Prop := x.i 0 < y.i 0 ∨ (x.i 0 = y.i 0 ∧ x.i 3 ≤ y.i 3)
theorem leE_of_not {x y : Rw} (h : lessE x y = false) : leE y x := by
  have : ¬ (lessE x y = true) := by rw [h]; decide
  rw [less_iff] at this
  unfold leE; omega
theorem leE_of_less {x y : Rw} (h : lessE x y = true) : leE x y := by
  rw [less_iff] at h
  unfold leE; omega
theorem leE_trans {x y z : Rw} (h : leE x y) (k : leE y z) : leE x z := by unfold leE at *; omega
theorem not_less {x y : Rw} (h : leE x y) : lessE y x = false := by
  cases hb : lessE y x with
  | false => rfl
  | true => rw [less_iff] at hb; unfold leE at h; omega
theorem gE_swap {xs : List Rw} {i k : Nat} (hi : i < xs.length) (hk : k < xs.length) (hn : nE (gE xs i) = gE xs i) (hm : nE (gE xs k) = gE xs k) (j : Nat) : gE (swapL xs i k) j = if j = k then gE xs i else if j = i then gE xs k else gE xs j := by
  unfold swapL
  rw [gE_get hi, gE_get hk]
  simp only [hn, hm]
  unfold gE
  by_cases e : j = k
  · subst e; rw [if_pos rfl, List.getElem?_set_self (by simpa using hk)]; rfl
  · rw [if_neg e, List.getElem?_set_ne (fun h => e h.symm)]
    by_cases e2 : j = i
    · subst e2; rw [if_pos rfl, List.getElem?_set_self hi]; rfl
    · rw [if_neg e2, List.getElem?_set_ne (fun h => e2 h.symm)]
theorem swap_perm {xs : List Rw} {i k : Nat} (hi : i < xs.length) (hk : k < xs.length) : ((xs.set i (gE xs k)).set k (gE xs i)).Perm xs := by
  have h := Array.swap_perm (xs := xs.toArray) (i := i) (j := k) (by simpa using hi) (by simpa using hk)
  have h := Array.perm_iff_toList_perm.1 h
  have e : (xs.toArray.swap i k (by simpa using hi) (by simpa using hk)).toList = (xs.set i (gE xs k)).set k (gE xs i) := by
    have a : gE xs i = xs[i] := by unfold gE; rw [List.getElem?_eq_getElem hi]; rfl
    have b : gE xs k = xs[k] := by unfold gE; rw [List.getElem?_eq_getElem hk]; rfl
    rw [a, b]
    simp [Array.swap]
  rw [e] at h
  exact h
/-- The first n put about; the others as they were. -/
structure Abt (n : Nat) (xs ys : List Rw) : Prop where
  l : ys.length = xs.length
  p : (ys.take n).Perm (xs.take n)
  d : ys.drop n = xs.drop n
theorem Abt.refl (n : Nat) (xs : List Rw) : Abt n xs xs := ⟨rfl, .refl _, rfl⟩
theorem Abt.trans {n : Nat} {xs ys zs : List Rw} (h : Abt n xs ys) (k : Abt n ys zs) : Abt n xs zs := ⟨k.l.trans h.l, k.p.trans h.p, k.d.trans h.d⟩
theorem Abt.nr {n : Nat} {xs ys : List Rw} (h : Abt n xs ys) (k : NR (xs.take n)) : NR (ys.take n) := fun x hx => k x (h.p.mem_iff.1 hx)
theorem nr_g {n : Nat} {xs : List Rw} (k : NR (xs.take n)) {j : Nat} (hj : j < n) (hl : n ≤ xs.length) : nE (gE xs j) = gE xs j := k _ (by
  rw [List.mem_iff_getElem?]
  exact ⟨j, by rw [List.getElem?_take, if_pos hj, gE_get (by omega)]⟩)
theorem gE_take {n : Nat} {xs : List Rw} {j : Nat} (hj : j < n) : gE (xs.take n) j = gE xs j := by unfold gE; rw [List.getElem?_take, if_pos hj]
theorem Abt.swap {n : Nat} {xs : List Rw} {i k : Nat} (hn : NR (xs.take n)) (hl : n ≤ xs.length) (hi : i < n) (hk : k < n) : Abt n xs (swapL xs i k) := by
  have e : swapL xs i k = (xs.set i (gE xs k)).set k (gE xs i) := by
    unfold swapL; rw [gE_get (by omega), gE_get (by omega)]; simp only; rw [nr_g hn hi hl, nr_g hn hk hl]
  refine ⟨swapL_length .., ?_, ?_⟩
  · rw [e, List.take_set, List.take_set]
    have := swap_perm (xs := xs.take n) (i := i) (k := k) (by simp; omega) (by simp; omega)
    rwa [gE_take hi, gE_take hk] at this
  · rw [e, List.drop_set_of_lt hk, List.drop_set_of_lt hi]
theorem Abt.up : ∀ (f : Nat) {n : Nat} {xs : List Rw} {j : Nat}, NR (xs.take n) → n ≤ xs.length → j < n → Abt n xs (upF f xs j)
  | 0, _, _, _, _, _, _ => Abt.refl _ _
  | f + 1, n, xs, j, hn, hl, hj => by
    rw [upF, gE_get (show j < xs.length by omega), gE_get (show (j - 1) / 2 < xs.length by omega)]
    simp only
    split
    · exact Abt.refl _ _
    · split
      · have a := Abt.swap hn hl (show (j - 1) / 2 < n by omega) hj
        exact a.trans (Abt.up f (a.nr hn) (by rw [a.l]; exact hl) (by omega))
      · exact Abt.refl _ _
theorem childF_lt {xs : List Rw} {i n : Nat} (h : 2 * i + 1 < n) : childF xs i n < n := by
  have := (childF_gt xs i n).2; omega
theorem Abt.down : ∀ (f : Nat) {n : Nat} {xs : List Rw} {i : Nat}, NR (xs.take n) → n ≤ xs.length → Abt n xs (downF f xs i n)
  | 0, _, _, _, _, _ => Abt.refl _ _
  | f + 1, n, xs, i, hn, hl => by
    rw [downF]
    split
    · exact Abt.refl _ _
    · have hc := childF_lt (xs := xs) (i := i) (n := n) (by omega)
      rw [gE_get (show childF xs i n < xs.length by omega), gE_get (show i < xs.length by omega)]
      simp only
      split
      · have a := Abt.swap hn hl (show i < n by omega) hc
        exact a.trans (Abt.down f (a.nr hn) (by rw [a.l]; exact hl))
      · exact Abt.refl _ _
theorem Abt.init : ∀ (i : Nat) {n : Nat} {xs : List Rw}, NR (xs.take n) → n ≤ xs.length → Abt n xs (initF i xs n)
  | 0, _, _, _, _ => Abt.refl _ _
  | i + 1, n, xs, hn, hl => by
    have a := Abt.down (n + 1) (i := i) hn hl
    exact a.trans (Abt.init i (a.nr hn) (by rw [a.l]; exact hl))
/-- Of the first n, those whose parents are lo or behind it are not ahead of these. -/
def Hp (xs : List Rw) (lo n : Nat) : Prop := ∀ j, 0 < j → j < n → lo ≤ (j - 1) / 2 → leE (gE xs ((j - 1) / 2)) (gE xs j)
theorem childF_le {xs : List Rw} {i n j : Nat} (hl : n ≤ xs.length) (hj : 0 < j) (hn : j < n) (hp : (j - 1) / 2 = i) : leE (gE xs (childF xs i n)) (gE xs j) := by
  have h1 := gE_get (show 2 * i + 1 < xs.length by omega)
  have hjj : j = 2 * i + 1 ∨ j = 2 * i + 2 := by omega
  have rf : ∀ x, leE x x := fun x => .inr ⟨rfl, Int.le_refl _⟩
  unfold childF
  rw [h1]
  by_cases h2 : 2 * i + 2 < n
  · rw [gE_get (show 2 * i + 2 < xs.length by omega)]
    simp only
    split
    · rename_i hc
      rcases hjj with rfl | rfl
      · exact leE_of_less hc.2
      · exact rf _
    · rename_i hc
      rcases hjj with rfl | rfl
      · exact rf _
      · exact leE_of_not (by cases hb : lessE (gE xs (2 * i + 2)) (gE xs (2 * i + 1)) with | false => rfl | true => exact absurd ⟨h2, hb⟩ hc)
  · have : j = 2 * i + 1 := by omega
    subst this
    split
    · rw [if_neg (fun h => h2 h.1)]; exact rf _
    · exact rf _
theorem Hp.down : ∀ (f : Nat) {xs : List Rw} {i n lo : Nat}, n - i < f → n ≤ xs.length → NR (xs.take n) → lo ≤ i →
    (∀ j, 0 < j → j < n → lo ≤ (j - 1) / 2 → (j - 1) / 2 ≠ i → leE (gE xs ((j - 1) / 2)) (gE xs j)) →
    (∀ j, 0 < j → j < n → (j - 1) / 2 = i → 0 < i → lo ≤ (i - 1) / 2 → leE (gE xs ((i - 1) / 2)) (gE xs j)) → Hp (downF f xs i n) lo n
  | 0, _, _, _, _, h, _, _, _, _, _ => absurd h (Nat.not_lt_zero _)
  | f + 1, xs, i, n, lo, hf, hl, hn, hlo, ha, hb => by
    rw [downF]
    split
    · exact fun j h1 h2 h3 => ha j h1 h2 h3 (by omega)
    · have hc := childF_lt (xs := xs) (i := i) (n := n) (by omega)
      have hcg := childF_gt xs i n
      have hpc : (childF xs i n - 1) / 2 = i := by omega
      have hm := fun {j} h1 h2 h3 => childF_le (xs := xs) (i := i) (n := n) (j := j) hl h1 h2 h3
      rw [gE_get (show childF xs i n < xs.length by omega), gE_get (show i < xs.length by omega)]
      simp only
      generalize childF xs i n = c at *
      split
      · rename_i hls
        have hi : i < n := by omega
        have g := gE_swap (xs := xs) (i := i) (k := c) (by omega) (by omega) (nr_g hn hi hl) (nr_g hn hc hl)
        have a := Abt.swap hn hl hi hc
        have hic : i ≠ c := by omega
        refine Hp.down f (by omega) (by rw [a.l]; exact hl) (a.nr hn) (by omega) (fun j h1 h2 h3 h4 => ?_) (fun j h1 h2 h3 h4 h5 => ?_)
        · rw [g, g]
          rw [if_neg h4]
          by_cases ej : j = c
          · subst ej
            rw [if_pos hpc, if_pos rfl]
            exact leE_of_less hls
          · rw [if_neg ej]
            by_cases ei : j = i
            · subst ei
              rw [if_pos rfl, if_neg (by omega)]
              exact hb c (by omega) hc hpc h1 h3
            · rw [if_neg ei]
              by_cases ep : (j - 1) / 2 = i
              · rw [if_pos ep]; exact hm h1 h2 ep
              · rw [if_neg ep]; exact ha j h1 h2 h3 ep
        · rw [g, g, hpc, if_neg hic, if_pos rfl, if_neg (by omega), if_neg (by omega)]
          have := ha j h1 h2 (by omega) (by omega)
          rwa [h3] at this
      · rename_i hls
        have hls : lessE (gE xs c) (gE xs i) = false := by simpa using hls
        intro j h1 h2 h3
        by_cases ep : (j - 1) / 2 = i
        · rw [ep]; exact leE_trans (leE_of_not hls) (hm h1 h2 ep)
        · exact ha j h1 h2 h3 ep
theorem Hp.init : ∀ (i : Nat) {xs : List Rw} {n : Nat}, n ≤ xs.length → NR (xs.take n) → Hp xs i n → Hp (initF i xs n) 0 n
  | 0, _, _, _, _, h => h
  | i + 1, xs, n, hl, hn, h => by
    have a := Abt.down (n + 1) (i := i) hn hl
    refine Hp.init i (by rw [a.l]; exact hl) (a.nr hn) (Hp.down (n + 1) (by omega) hl hn (Nat.le_refl _) (fun j h1 h2 h3 h4 => h j h1 h2 (by omega)) (fun j h1 h2 h3 h4 h5 => by omega))
theorem Hp.up : ∀ (f : Nat) {xs : List Rw} {j n : Nat}, j < f → j < n → n ≤ xs.length → NR (xs.take n) →
    (∀ k, 0 < k → k < n → k ≠ j → leE (gE xs ((k - 1) / 2)) (gE xs k)) →
    (∀ k, 0 < k → k < n → (k - 1) / 2 = j → 0 < j → leE (gE xs ((j - 1) / 2)) (gE xs k)) → Hp (upF f xs j) 0 n
  | 0, _, _, _, h, _, _, _, _, _ => absurd h (Nat.not_lt_zero _)
  | f + 1, xs, j, n, hf, hj, hl, hn, ha, hb => by
    rw [upF, gE_get (show j < xs.length by omega), gE_get (show (j - 1) / 2 < xs.length by omega)]
    simp only
    split
    · exact fun k h1 h2 _ => ha k h1 h2 (by omega)
    · rename_i hne
      split
      · rename_i hls
        have hp : (j - 1) / 2 < n := by omega
        have g := gE_swap (xs := xs) (i := (j - 1) / 2) (k := j) (by omega) (by omega) (nr_g hn hp hl) (nr_g hn hj hl)
        have a := Abt.swap hn hl hp hj
        refine Hp.up f (by omega) hp (by rw [a.l]; exact hl) (a.nr hn) (fun k h1 h2 h3 => ?_) (fun k h1 h2 h3 h4 => ?_)
        · rw [g, g]
          by_cases ek : k = j
          · subst ek
            rw [if_neg (by omega), if_pos rfl, if_pos rfl]
            exact leE_of_less hls
          · rw [if_neg ek, if_neg h3]
            by_cases ep : (k - 1) / 2 = j
            · rw [if_pos ep]; exact hb k h1 h2 ep (by omega)
            · rw [if_neg ep]
              by_cases eq : (k - 1) / 2 = (j - 1) / 2
              · rw [if_pos eq]
                have := ha k h1 h2 ek
                rw [eq] at this
                exact leE_trans (leE_of_less hls) this
              · rw [if_neg eq]; exact ha k h1 h2 ek
        · have h5 := ha ((j - 1) / 2) h4 hp (by omega)
          rw [g, g, if_neg (by omega), if_neg (by omega)]
          by_cases ek : k = j
          · subst ek; rw [if_pos rfl]; exact h5
          · rw [if_neg ek, if_neg (by omega)]
            have := ha k h1 h2 ek
            rw [h3] at this
            exact leE_trans h5 this
      · rename_i hls
        have hls : lessE (gE xs j) (gE xs ((j - 1) / 2)) = false := by simpa using hls
        intro k h1 h2 _
        by_cases ek : k = j
        · subst ek; exact leE_of_not hls
        · exact ha k h1 h2 ek
/-- The first one is none the later. -/
theorem Hp.root {xs : List Rw} {n : Nat} (h : Hp xs 0 n) : ∀ (j : Nat), j < n → leE (gE xs 0) (gE xs j) := by
  intro j
  induction j using Nat.strongRecOn with
  | _ j ih =>
    intro hj
    by_cases e : j = 0
    · subst e; exact .inr ⟨rfl, Int.le_refl _⟩
    · exact leE_trans (ih ((j - 1) / 2) (by omega) (by omega)) (h j (by omega) hj (Nat.zero_le _))
end Go.Tb.W

/- Queues: what their methods tell and leave; the package that a queue is. -/
set_option linter.all false
set_option maxRecDepth 100000
namespace Go.Tb.W
open Go Go.Proofs
/-- The length, of a queue that lies open. -/
def c_len1 (args : List AV) (hp : Tr (AO O)) (nx : Nat) (K : AV → Tr (AO O) → Nat → Prop) : Prop := match args with
  | [.ptr n 0] => match hp.get n with
    | some (.cells 27 [.sl m 0 l c, .int .i64 sq] 2) => match both n m, hp.get m with
      | true, some (.rows 66 [.i .i64, .i .i64, .s, .i .i64] xs room) => K (.int .i64 l) hp nx
      | _, _ => False
    | some (.cells 27 [.nils, .int .i64 sq] 2) => match Nat.blt n 16777215 with
      | true => K (.int .i64 0) hp nx
      | _ => False
    | _ => False
  | _ => False
noncomputable abbrev A7 : List (FuncId × Sp O) :=
  (20, .h c_len1) ::
  A4
end Go.Tb.W

/- What the functions' bodies come to: each line is what the abstract machine makes of one function, or of one round of a loop, over the contracts of the functions that it calls (the text was printed by a program of mine; Lean proves it again). -/
set_option linter.all false
set_option maxRecDepth 100000
set_option maxHeartbeats 2000000
namespace Go.Tb
open Go Go.Proofs
namespace W
theorem t_len1 (I : Interp O) (K : AV → Tr (AO O) → Nat → Prop) (l c room : Nat) (xs : List Rw) (sq : Int) : abody I P (Gm N0) (adraw P (Gm N0)) 2 Try.f20 [.ptr 0 0] (Tr.ofList 0 [qO (.sl 1 0 l c) sq, eO xs room] .leaf) 2 K =
  (K (.int IntKind.i64 ((↑l : Int))) (.node (.node .leaf (some (.rows 66 [Sh.i IntKind.i64, Sh.i IntKind.i64, Sh.s, Sh.i IntKind.i64] (xs) (room))) .leaf) (some (.cells 27 [(.sl 1 0 (l) (c)), (.int IntKind.i64 (sq))] 2)) .leaf) 2) := by kernel_rfl
theorem t_len10 (I : Interp O) (K : AV → Tr (AO O) → Nat → Prop) (sq : Int) : abody I P (Gm N0) (adraw P (Gm N0)) 1 Try.f20 [.ptr 0 0] (Tr.ofList 0 [qO .nils sq] .leaf) 1 K =
  (K (.int IntKind.i64 (0 : Int)) (.node .leaf (some (.cells 27 [.nils, (.int IntKind.i64 (sq))] 2)) .leaf) 1) := by kernel_rfl
theorem t_put (I : Interp O) (K : AV → Tr (AO O) → Nat → Prop) (l c room : Nat) (xs : List Rw) (sq a b : Int) (s : ByteArray) : abody I P (Gm A7) (adraw P (Gm A7)) 2 Try.f10 [.ptr 0 0, .agg [.int .i64 a, .int .i64 b, .str s]] (Tr.ofList 0 [qO (.sl 1 0 l c) sq, eO xs room] .leaf) 2 K =
  (bsplit (decide ((↑l : Int) ≥ 1000)) fun | true => (K (.int IntKind.i64 (4 : Int)) (.node (.node .leaf (some (.rows 66 [Sh.i IntKind.i64, Sh.i IntKind.i64, Sh.s, Sh.i IntKind.i64] (xs) (room))) .leaf) (some (.cells 27 [(.sl 1 0 (l) (c)), (.int IntKind.i64 (sq))] 2)) (.node .leaf (some (.cells 33 [(.int IntKind.i64 (a)), (.int IntKind.i64 (b)), (.str (s))] 3)) .leaf)) 3) | false => ((l ≤ xs.length ∧ c * (4 : Nat) ≤ room ∧ l ≤ (100000 : Nat)) ∧ (∀ (c'0 : Nat), (l + 1 ≤ c'0 → (c'0 ≤ 9223372036854775807 → (((some (.cells 33 [(.int IntKind.i64 (a)), (.int IntKind.i64 (b)), (.str (s))] 3) : Option (AO O)) = some (.cells 33 [(.int IntKind.i64 (a)), (.int IntKind.i64 (b)), (.str (s))] 3)) ∧ (K (.int IntKind.i64 (0 : Int)) (.node (.node (.node .leaf (some (.rows 66 [Sh.i IntKind.i64, Sh.i IntKind.i64, Sh.s, Sh.i IntKind.i64] (upF (l + 1) (List.take l xs ++ [W.mkE a b s sq]) l) (c'0 * 4))) .leaf) (some .gone) .leaf) (some (.cells 27 [(.sl 3 0 (l + 1) (c'0)), (.int IntKind.i64 (IntKind.i64.wrap (sq + 1)))] 2)) (.node .leaf (some (.cells 33 [(.int IntKind.i64 (a)), (.int IntKind.i64 (b)), (.str (s))] 3)) .leaf)) 4))))))) := by kernel_rfl
theorem t_put0 (I : Interp O) (K : AV → Tr (AO O) → Nat → Prop) (sq a b : Int) (s : ByteArray) : abody I P (Gm A7) (adraw P (Gm A7)) 1 Try.f10 [.ptr 0 0, .agg [.int .i64 a, .int .i64 b, .str s]] (Tr.ofList 0 [qO .nils sq] .leaf) 1 K =
  (∀ (c'0 : Nat), (1 ≤ c'0 → (c'0 ≤ 9223372036854775807 → (((some (.cells 33 [(.int IntKind.i64 (a)), (.int IntKind.i64 (b)), (.str (s))] 3) : Option (AO O)) = some (.cells 33 [(.int IntKind.i64 (a)), (.int IntKind.i64 (b)), (.str (s))] 3)) ∧ (K (.int IntKind.i64 (0 : Int)) (.node (.node .leaf (some (.cells 33 [(.int IntKind.i64 (a)), (.int IntKind.i64 (b)), (.str (s))] 3)) .leaf) (some (.cells 27 [(.sl 2 0 1 (c'0)), (.int IntKind.i64 (IntKind.i64.wrap (sq + 1)))] 2)) (.node .leaf (some (.rows 66 [Sh.i IntKind.i64, Sh.i IntKind.i64, Sh.s, Sh.i IntKind.i64] (upF 1 [W.mkE a b s sq] 0) (c'0 * 4))) .leaf)) 3))))) := by kernel_rfl
theorem t_next (I : Interp O) (K : AV → Tr (AO O) → Nat → Prop) (l c room : Nat) (xs : List Rw) (sq : Int) : abody I P (Gm A7) (adraw P (Gm A7)) 2 Try.f12 [.ptr 0 0] (Tr.ofList 0 [qO (.sl 1 0 l c) sq, eO xs room] .leaf) 2 K =
  (bsplit ((↑l : Int) == 0) fun | true => (K (.tup [(.agg [(.int IntKind.i64 (0 : Int)), (.int IntKind.i64 (0 : Int)), (.str ((ByteArray.mk #[])))]), (.int IntKind.i64 (10 : Int))]) (.node (.node .leaf (some (.rows 66 [Sh.i IntKind.i64, Sh.i IntKind.i64, Sh.s, Sh.i IntKind.i64] (xs) (room))) .leaf) (some (.cells 27 [(.sl 1 0 (l) (c)), (.int IntKind.i64 (sq))] 2)) (.node .leaf (some (.cells 33 [(.int IntKind.i64 (0 : Int)), (.int IntKind.i64 (0 : Int)), (.str ((ByteArray.mk #[])))] 3)) .leaf)) 3) | false => (must (decide ((0 : Int) ≤ 0 ∧ 0 < (↑l : Int))) (xget (xs) 0 fun x0 => (((1 : Nat) ≤ l ∧ l ≤ xs.length ∧ l ≤ (100001 : Nat)) ∧ (∀ (a1 : Int), (∀ (b2 : Int), (∀ (s3 : ByteArray), (∀ (d4 : Int), (K (.tup [(.agg [(.int IntKind.i64 ((x0).i 0)), (.int IntKind.i64 ((x0).i 1)), (.str ((x0).s 2))]), (.int IntKind.i64 (0 : Int))]) (.node (.node (.node .leaf (some (.cells 33 [(.int IntKind.i64 ((x0).i 0)), (.int IntKind.i64 ((x0).i 1)), (.str ((x0).s 2))] 3)) .leaf) (some (.rows 66 [Sh.i IntKind.i64, Sh.i IntKind.i64, Sh.s, Sh.i IntKind.i64] (downF l (swapL xs 0 (l - 1)) 0 (l - 1)) (room))) .leaf) (some (.cells 27 [(.sl 1 0 (l - 1) (c)), (.int IntKind.i64 (sq))] 2)) (.node .leaf (some (.cells 33 [(.int IntKind.i64 ((x0).i 0)), (.int IntKind.i64 ((x0).i 1)), (.str ((x0).s 2))] 3)) .leaf)) 4))))))))) := by kernel_rfl
theorem t_next0 (I : Interp O) (K : AV → Tr (AO O) → Nat → Prop) (sq : Int) : abody I P (Gm A7) (adraw P (Gm A7)) 1 Try.f12 [.ptr 0 0] (Tr.ofList 0 [qO .nils sq] .leaf) 1 K =
  (K (.tup [(.agg [(.int IntKind.i64 (0 : Int)), (.int IntKind.i64 (0 : Int)), (.str ((ByteArray.mk #[])))]), (.int IntKind.i64 (10 : Int))]) (.node (.node .leaf (some (.cells 33 [(.int IntKind.i64 (0 : Int)), (.int IntKind.i64 (0 : Int)), (.str ((ByteArray.mk #[])))] 3)) .leaf) (some (.cells 27 [.nils, (.int IntKind.i64 (sq))] 2)) .leaf) 2) := by kernel_rfl
theorem t_peek (I : Interp O) (K : AV → Tr (AO O) → Nat → Prop) (l c room : Nat) (xs : List Rw) (sq : Int) : abody I P (Gm A7) (adraw P (Gm A7)) 2 Try.f19 [.ptr 0 0] (Tr.ofList 0 [qO (.sl 1 0 l c) sq, eO xs room] .leaf) 2 K =
  (bsplit ((↑l : Int) == 0) fun | true => (K (.tup [(.int IntKind.i64 (0 : Int)), (.bool false)]) (.node (.node .leaf (some (.rows 66 [Sh.i IntKind.i64, Sh.i IntKind.i64, Sh.s, Sh.i IntKind.i64] (xs) (room))) .leaf) (some (.cells 27 [(.sl 1 0 (l) (c)), (.int IntKind.i64 (sq))] 2)) .leaf) 2) | false => (must (decide ((0 : Int) ≤ 0 ∧ 0 < (↑l : Int))) (xget (xs) 0 fun x0 => (K (.tup [(.int IntKind.i64 ((x0).i 0)), (.bool true)]) (.node (.node .leaf (some (.rows 66 [Sh.i IntKind.i64, Sh.i IntKind.i64, Sh.s, Sh.i IntKind.i64] (xs) (room))) .leaf) (some (.cells 27 [(.sl 1 0 (l) (c)), (.int IntKind.i64 (sq))] 2)) .leaf) 2)))) := by kernel_rfl
theorem t_peek0 (I : Interp O) (K : AV → Tr (AO O) → Nat → Prop) (sq : Int) : abody I P (Gm A7) (adraw P (Gm A7)) 1 Try.f19 [.ptr 0 0] (Tr.ofList 0 [qO .nils sq] .leaf) 1 K =
  (K (.tup [(.int IntKind.i64 (0 : Int)), (.bool false)]) (.node .leaf (some (.cells 27 [.nils, (.int IntKind.i64 (sq))] 2)) .leaf) 1) := by kernel_rfl
theorem t_drop (I : Interp O) (K : AV → Tr (AO O) → Nat → Prop) (l c room : Nat) (xs : List Rw) (sq kd : Int) : abody I P (Gm A7) (adraw P (Gm A7)) 2 Try.f17 [.ptr 0 0, .int .i64 kd] (Tr.ofList 0 [qO (.sl 1 0 l c) sq, eO xs room] .leaf) 2 K =
  ((l ≤ xs.length ∧ NR (List.take l xs)) ∧ (∀ (ys0 : List Rw), (∀ (i1 : Nat), (ys0.length = xs.length ∧ i1 ≤ l ∧ List.take i1 ys0 = List.filter (fun x => !x.i 1 == kd) (List.take l xs) → ((i1 ≤ ys0.length ∧ i1 ≤ (100001 : Nat)) ∧ (K (.int IntKind.i64 (IntKind.i64.wrap ((↑l : Int) - (↑i1 : Int)))) (.node (.node .leaf (some (.rows 66 [Sh.i IntKind.i64, Sh.i IntKind.i64, Sh.s, Sh.i IntKind.i64] (initF (i1 / 2) ys0 i1) (room))) .leaf) (some (.cells 27 [(.sl 1 0 (i1) (c)), (.int IntKind.i64 (sq))] 2)) (.node .leaf (some (.cells 3 [(.int IntKind.i64 (kd))] 1)) .leaf)) 3)))))) := by kernel_rfl
theorem t_drop0 (I : Interp O) (K : AV → Tr (AO O) → Nat → Prop) (sq kd : Int) : abody I P (Gm A7) (adraw P (Gm A7)) 1 Try.f17 [.ptr 0 0, .int .i64 kd] (Tr.ofList 0 [qO .nils sq] .leaf) 1 K =
  (K (.int IntKind.i64 (0 : Int)) (.node (.node .leaf (some (.cells 3 [(.int IntKind.i64 (kd))] 1)) .leaf) (some (.cells 27 [.nils, (.int IntKind.i64 (sq))] 2)) .leaf) 2) := by kernel_rfl
end W
end Go.Tb

/- Queues: what their methods tell and leave. -/
set_option linter.all false
set_option maxRecDepth 100000
namespace Go.Tb.W
open Go Go.Proofs
def lo (t : Int) (l : List Rw) : List Rw := l.filter (fun x => decide (x.i 0 ≤ t))
def hi (t : Int) (l : List Rw) : List Rw := l.filter (fun x => !decide (x.i 0 ≤ t))
def insQ (l : List Rw) (e : Rw) : List Rw := lo (e.i 0) l ++ e :: hi (e.i 0) l
/-- The queue that lies there, or is the new variable that lies there. -/
def asQ : Option (AO O) → Option (List Rw × Int)
  | some (.own (.q l sq)) => some (l, sq)
  | some (.cells 27 [.nils, .int .i64 sq] 2) => some ([], sq)
  | _ => none
/-- What lies at n is a queue. -/
def isQ (hp : Tr (AO O)) (n : Nat) (K : List Rw → Int → Prop) : Prop := match Nat.blt n 16777215, asQ (hp.get n) with
  | true, some (l, sq) => K l sq
  | _, _ => False
abbrev nQ (hp : Tr (AO O)) (n : Nat) (l : List Rw) (sq : Int) : Tr (AO O) := hp.set n (some (.own (.q l sq)))
/-- In order. -/
def so (l : List Rw) : Prop := l.Pairwise (fun x y => lessE x y = true) ∧ l.length ≤ 1000
def c_qlen (args : List AV) (hp : Tr (AO O)) (nx : Nat) (K : AV → Tr (AO O) → Nat → Prop) : Prop := match args with
  | [.ptr n 0] => isQ hp n fun l sq => so l → K (.int .i64 l.length) (nQ hp n l sq) nx
  | _ => False
def c_qput (args : List AV) (hp : Tr (AO O)) (nx : Nat) (K : AV → Tr (AO O) → Nat → Prop) : Prop := match args with
  | [.ptr n 0, .agg [.int .i64 a, .int .i64 b, .str s]] => isQ hp n fun l sq => (0 ≤ sq ∧ sq ≤ 1000000) ∧ ((1000 ≤ l.length → K (.int .i64 4) (nQ hp n l sq) nx) ∧
    (l.length < 1000 → K (.int .i64 0) (nQ hp n (insQ l (mkE a b s sq)) (sq + 1)) nx))
  | _ => False
def c_qnext (args : List AV) (hp : Tr (AO O)) (nx : Nat) (K : AV → Tr (AO O) → Nat → Prop) : Prop := match args with
  | [.ptr n 0] => isQ hp n fun l sq => (l = [] → K (.tup [.agg [.int .i64 0, .int .i64 0, .str ⟨#[]⟩], .int .i64 10]) (nQ hp n [] sq) nx) ∧
    ∀ x t, l = x :: t → so (x :: t) → K (.tup [.agg [.int .i64 (x.i 0), .int .i64 (x.i 1), .str (x.s 2)], .int .i64 0]) (nQ hp n t sq) nx
  | _ => False
def c_qpeek (args : List AV) (hp : Tr (AO O)) (nx : Nat) (K : AV → Tr (AO O) → Nat → Prop) : Prop := match args with
  | [.ptr n 0] => isQ hp n fun l sq => (l = [] → K (.tup [.int .i64 0, .bool false]) (nQ hp n [] sq) nx) ∧
    ∀ x t, l = x :: t → so (x :: t) → K (.tup [.int .i64 (x.i 0), .bool true]) (nQ hp n (x :: t) sq) nx
  | _ => False
/-- Those of a kind gone. -/
def rest (k : Int) (l : List Rw) : List Rw := l.filter (fun x => !(x.i 1 == k))
def c_qdrop (args : List AV) (hp : Tr (AO O)) (nx : Nat) (K : AV → Tr (AO O) → Nat → Prop) : Prop := match args with
  | [.ptr n 0, .int .i64 k] => isQ hp n fun l sq => K (.int .i64 ((l.length : Int) - ((rest k l).length : Int))) (nQ hp n (rest k l) sq) nx
  | _ => False
abbrev iO (xs : List Rw) (room : Nat) : AO O := .rows 33 iS xs room
def it (x : Rw) : Rw := rwA [.int .i64 (x.i 0), .int .i64 (x.i 1), .str (x.s 2)]
def c_quntil (args : List AV) (hp : Tr (AO O)) (nx : Nat) (K : AV → Tr (AO O) → Nat → Prop) : Prop := match args with
  | [.ptr n 0, .int .i64 t] => isQ hp n fun l sq => match Nat.blt nx 16777215, hp.get nx with
    | true, none => (so l → lo t l = [] → K .nils (nQ hp n l sq) nx) ∧ (so l → 0 < (lo t l).length → ∀ c room, K (.sl nx 0 (lo t l).length c) (nQ (hp.set nx (some (iO ((lo t l).map it) room))) n (hi t l) sq) (nx + 1))
    | _, _ => False
  | _ => False
noncomputable abbrev j_untA (l : List Rw) (sq t : Int) : St O := ⟨Tr.setL [(0, .ptr 0 0), (1, .int .i64 t), (5, .nils)] .leaf, Tr.setL [(0, .own (.q l sq))] .leaf, 1, 32⟩
noncomputable abbrev j_untB (l : List Rw) (sq t : Int) (n c : Nat) (xs : List Rw) (room : Nat) : St O := ⟨Tr.setL [(0, .ptr 0 0), (1, .int .i64 t), (5, .sl 1 0 n c)] .leaf, Tr.setL [(0, .own (.q l sq)), (1, iO xs room)] .leaf, 2, 32⟩
noncomputable abbrev j_unt0 (sq t : Int) : St O := ⟨Tr.setL [(0, .ptr 0 0), (1, .int .i64 t), (5, .nils)] .leaf, Tr.setL [(0, qO .nils sq)] .leaf, 1, 32⟩
noncomputable abbrev B0 : List (FuncId × Sp O) :=
  (20, .h c_qlen) ::
  (10, .h c_qput) ::
  (12, .h c_qnext) ::
  (19, .h c_qpeek) ::
  (17, .h c_qdrop) ::
  []
noncomputable abbrev awO : AO O := .cells 33 [.int .i64 5, .int .i64 0, .str ⟨#[97]⟩, .int .i64 3, .int .i64 0, .str ⟨#[98]⟩, .int .i64 5, .int .i64 1, .str ⟨#[99]⟩, .int .i64 3, .int .i64 0, .str ⟨#[100]⟩] 12
noncomputable abbrev j_aw (l : List Rw) (sq i : Int) : St O := ⟨Tr.setL [(1, .ptr 0 0), (3, .int .i64 10), (23, .sl 1 0 4 4), (24, .int .i64 4), (25, .int .i64 i)] .leaf, Tr.setL [(0, .own (.q l sq)), (1, awO)] .leaf, 2, 101⟩
noncomputable abbrev B1 : List (FuncId × Sp O) :=
  (15, .h c_quntil) ::
  B0
def c_awake (args : List AV) (K : AV → Prop) : Prop := match args with
  | [] => K (.bool true)
  | _ => False
noncomputable abbrev B2 : List (FuncId × Sp O) :=
  (9, .p c_awake) ::
  B1
end Go.Tb.W

/- Queues: the package that a queue is. -/
set_option linter.all false
set_option maxRecDepth 100000
namespace Go.Tb.W
open Go Go.Proofs
/-- A queue that lies open holds what comes in order. -/
structure QInv (l : List Rw) (sq : Int) (n c : Nat) (xs : List Rw) (room : Nat) : Prop where
  len : n ≤ xs.length
  cap : c * 4 ≤ room
  mx : n ≤ 1000
  nr : NR (xs.take n)
  hp : Hp xs 0 n
  pm : l.Perm (xs.take n)
  so : l.Pairwise (fun x y => lessE x y = true)
  sq : ∀ x ∈ l, x.i 3 < sq
theorem QInv.ln {l : List Rw} {sq : Int} {n c : Nat} {xs : List Rw} {room : Nat} (h : QInv l sq n c xs room) : l.length = n := by
  have := h.pm.length_eq
  have := h.len
  simp at *; omega
def Hq : O → List (AO O) → Prop
  | .q l sq, os => (l = [] ∧ os = [qO .nils sq]) ∨ ∃ n c xs room, os = [qO (.sl 1 0 n c) sq, eO xs room] ∧ QInv l sq n c xs room
  | .r _, _ => False
def zq : AO O → Option O
  | .cells 27 [.nils, .int .i64 sq] 2 => some (.q [] sq)
  | _ => none
def pk : Pk O where
  H := Hq
  z := zq
  zok := fun o s h => by
    unfold zq at h
    split at h
    · cases h; exact ⟨.inl ⟨rfl, rfl⟩, _, _, _, rfl, rfl⟩
    · cases h
theorem lohi (t : Int) (l : List Rw) : (lo t l ++ hi t l).Perm l := List.filter_append_perm _ l
theorem insQ_perm (l : List Rw) (e : Rw) : (insQ l e).Perm (l ++ [e]) := by
  unfold insQ
  refine List.Perm.trans List.perm_middle ?_
  exact ((lohi _ l).cons e).trans (List.perm_append_singleton e l).symm
theorem insQ_so {l : List Rw} {e : Rw} (h : l.Pairwise (fun x y => lessE x y = true)) (hs : ∀ x ∈ l, x.i 3 < e.i 3) : (insQ l e).Pairwise (fun x y => lessE x y = true) := by
  unfold insQ
  refine List.pairwise_append.2 ⟨h.sublist (List.filter_sublist ..), List.pairwise_cons.2 ⟨fun y hy => ?_, h.sublist (List.filter_sublist ..)⟩, fun x hx y hy => ?_⟩
  · obtain ⟨_, hy⟩ := List.mem_filter.1 hy
    simp at hy
    exact less_iff.2 (.inl hy)
  · obtain ⟨hx1, hx⟩ := List.mem_filter.1 hx
    have hx : x.i 0 ≤ e.i 0 := by simpa using hx
    have := hs x hx1
    rcases List.mem_cons.1 hy with rfl | hy
    · exact less_iff.2 (by omega)
    · obtain ⟨_, hy⟩ := List.mem_filter.1 hy
      simp at hy
      exact less_iff.2 (by omega)
theorem nE_mk (a b : Int) (s : ByteArray) (d : Int) : nE (mkE a b s d) = mkE a b s d := rfl
theorem QInv.push {l : List Rw} {sq : Int} {n c : Nat} {xs : List Rw} {room : Nat} (h : QInv l sq n c xs room) (hn : n < 1000) (a b : Int) (s : ByteArray) (c' : Nat) :
    QInv (insQ l (mkE a b s sq)) (sq + 1) (n + 1) c' (upF (n + 1) (xs.take n ++ [mkE a b s sq]) n) (c' * 4) := by
  have hl : (xs.take n).length = n := by have := h.len; simp; omega
  have hln : (xs.take n ++ [mkE a b s sq]).length = n + 1 := by rw [List.length_append, hl]; rfl
  have ht : (xs.take n ++ [mkE a b s sq]).take (n + 1) = xs.take n ++ [mkE a b s sq] := List.take_of_length_le (by omega)
  have hnr : NR ((xs.take n ++ [mkE a b s sq]).take (n + 1)) := by
    rw [ht]
    intro x hx
    rcases List.mem_append.1 hx with hx | hx
    · exact h.nr x hx
    · simp at hx; subst hx; rfl
  have ab := Abt.up (n + 1) (j := n) hnr (by omega) (by omega)
  have hg : ∀ j, j < n → gE (xs.take n ++ [mkE a b s sq]) j = gE xs j := fun j hj => by
    unfold gE
    rw [List.getElem?_append_left (by omega), List.getElem?_take, if_pos hj]
  refine ⟨by rw [ab.l]; omega, Nat.le_refl _, by omega, ab.nr hnr, ?_, ?_, insQ_so h.so h.sq, fun x hx => ?_⟩
  · refine Hp.up (n + 1) (by omega) (by omega) (by omega) hnr (fun k h1 h2 h3 => ?_) (fun k h1 h2 h3 h4 => by omega)
    rw [hg _ (by omega), hg _ (by omega)]
    exact h.hp k h1 (by omega) (Nat.zero_le _)
  · refine (insQ_perm _ _).trans ((h.pm.append_right _).trans ?_)
    have := ab.p.symm
    rw [ht] at this
    exact this
  · rcases List.mem_append.1 ((insQ_perm _ _).mem_iff.1 hx) with hx | hx
    · have := h.sq x hx; omega
    · simp at hx; subst hx; show sq < sq + 1; omega
theorem QInv.first {a b : Int} {s : ByteArray} {sq : Int} (c' : Nat) : QInv (insQ [] (mkE a b s sq)) (sq + 1) 1 c' (upF 1 [mkE a b s sq] 0) (c' * 4) :=
  QInv.push (l := []) (sq := sq) (n := 0) (c := 0) (xs := []) (room := 0) ⟨Nat.le_refl _, Nat.le_refl _, by omega, fun x hx => by simp at hx, fun j h1 h2 => by omega, .refl _, .nil, fun x hx => by simp at hx⟩ (by omega) a b s c'
theorem QInv.root {x : Rw} {t : List Rw} {sq : Int} {n c : Nat} {xs : List Rw} {room : Nat} (h : QInv (x :: t) sq n c xs room) : 0 < n ∧ x = gE xs 0 := by
  have hn : n = t.length + 1 := by have := h.ln; simp at this; omega
  have hl := h.len
  refine ⟨by omega, ?_⟩
  have hx : x ∈ xs.take n := h.pm.mem_iff.1 (List.mem_cons_self ..)
  obtain ⟨j, hj, hjx⟩ := List.mem_iff_getElem.1 hx
  have hjn : j < n := by simp at hj; omega
  have hjg : gE xs j = x := by rw [← hjx, List.getElem_take]; unfold gE; rw [List.getElem?_eq_getElem (by omega)]; rfl
  have hr := Hp.root h.hp j hjn
  rw [hjg] at hr
  have h0 : gE xs 0 ∈ x :: t := h.pm.mem_iff.2 (by
    rw [List.mem_iff_getElem?]
    exact ⟨0, by rw [List.getElem?_take, if_pos (by omega), gE_get (by omega)]⟩)
  rcases List.mem_cons.1 h0 with e | h0
  · exact e.symm
  · have := (List.pairwise_cons.1 h.so).1 _ h0
    rw [not_less hr] at this; cases this
theorem QInv.pop {x : Rw} {t : List Rw} {sq : Int} {n c : Nat} {xs : List Rw} {room : Nat} (h : QInv (x :: t) sq n c xs room) : QInv t sq (n - 1) c (downF n (swapL xs 0 (n - 1)) 0 (n - 1)) room := by
  obtain ⟨hn, hx⟩ := h.root
  have hl := h.len
  have a := Abt.swap h.nr hl (show 0 < n by omega) (show n - 1 < n by omega)
  have g := gE_swap (xs := xs) (i := 0) (k := n - 1) (by omega) (by omega) (nr_g h.nr (by omega) hl) (nr_g h.nr (by omega) hl)
  have hnr1 : NR ((swapL xs 0 (n - 1)).take (n - 1)) := fun y hy => a.nr h.nr y (by
    have : (swapL xs 0 (n - 1)).take (n - 1) = ((swapL xs 0 (n - 1)).take n).take (n - 1) := by rw [List.take_take, Nat.min_eq_left (by omega)]
    rw [this] at hy
    exact List.mem_of_mem_take hy)
  have b := Abt.down n (xs := swapL xs 0 (n - 1)) (i := 0) hnr1 (by rw [a.l]; omega)
  have hpm : t.Perm ((swapL xs 0 (n - 1)).take (n - 1)) := by
    have h1 := h.pm.trans a.p.symm
    have e : (swapL xs 0 (n - 1)).take n = (swapL xs 0 (n - 1)).take (n - 1) ++ [x] := by
      have h2 := take_succ_get (xs := swapL xs 0 (n - 1)) (k := n - 1) (by rw [a.l]; omega)
      rw [show n - 1 + 1 = n by omega] at h2
      have h3 := g (n - 1)
      rw [if_pos rfl, ← hx] at h3
      unfold gE at h3
      rw [List.getElem?_eq_getElem (by rw [a.l]; omega)] at h3
      rw [h2]; simp only [Option.getD_some] at h3; rw [h3]
    rw [e] at h1
    exact List.Perm.cons_inv (h1.trans (List.perm_append_singleton _ _))
  refine ⟨by rw [b.l, a.l]; omega, h.cap, by have := h.mx; omega, b.nr hnr1, ?_, hpm.trans b.p.symm, (List.pairwise_cons.1 h.so).2, fun y hy => h.sq y (List.mem_cons_of_mem _ hy)⟩
  refine Hp.down n (by omega) (by rw [a.l]; omega) hnr1 (Nat.le_refl _) (fun j h1 h2 h3 h4 => ?_) (fun j h1 h2 h3 h4 => absurd h4 (Nat.lt_irrefl _))
  rw [g, g, if_neg (by omega), if_neg (by omega), if_neg (by omega), if_neg (by omega)]
  exact h.hp j h1 (by omega) (Nat.zero_le _)
theorem QInv.drop {l : List Rw} {sq : Int} {n c : Nat} {xs ys : List Rw} {room i : Nat} (h : QInv l sq n c xs room) (p : Rw → Bool) (h1 : ys.length = xs.length) (h2 : i ≤ n) (h3 : ys.take i = (xs.take n).filter p) : QInv (l.filter p) sq i c (initF (i / 2) ys i) room := by
  have hl := h.len
  have hnr : NR (ys.take i) := by
    rw [h3]; exact fun x hx => h.nr x (List.mem_filter.1 hx).1
  have a := Abt.init (i / 2) (n := i) hnr (by omega)
  refine ⟨by rw [a.l]; omega, h.cap, by have := h.mx; omega, a.nr hnr, ?_, ?_, h.so.sublist (List.filter_sublist ..), fun x hx => h.sq x (List.mem_filter.1 hx).1⟩
  · exact Hp.init _ (by omega) hnr (fun j q1 q2 q3 => by omega)
  · refine (h.pm.filter p).trans ?_
    rw [← h3]; exact a.p.symm
end Go.Tb.W

/- Queues: methods, proved of the package. -/
set_option linter.all false
set_option maxRecDepth 100000
namespace Go.Tb
open Go
theorem own_body {O : Type} {P : Program} {I : Interp O} {p : Pk O} (hI : I.R = p.R) (hmix : P.follows .mixedOrders = true) {Γ : Gam O} (hΓ : GOk I P Γ) {f : FuncId} {fn : Func} (hf : P.funcs[f]? = some fn) (hname : (fn.name == "runtime.NumGoroutine") = false) (hbd : fn.body.isSome = true)
    {hp : Tr (AO O)} {g : Nat} {s : O} (hg : asO p (hp.get g) = some s) (hb : Nat.blt g 16777215 = true) (largs : List AV) (hn : nms (fun n => Nat.beq n 0) largs = true) (hla : Nat.blt largs.length 16777215 = true) {K : AV → Tr (AO O) → Nat → Prop}
    (h : ∀ os, p.H s os → rgs largs = true → RgOs os → abody I P Γ (adraw P Γ) os.length fn largs (Tr.ofList 0 os .leaf) os.length (fun v lh _ => OwnPost p hp g (fun v hp' => ∃ nx', K v hp' nx') v lh)) :
    ACall I P f (rns (fun _ => g) largs) hp (fun v hp' => ∃ nx', K v hp' nx') := by
  refine own_call hI hg hb largs hn (callable hf hname hbd) fun os hH hpl hlen => ?_
  refine ACall.of_rg (callable hf hname hbd) fun hr => ⟨callable hf hname hbd, fun ρ fp w args' hs hd => ?_⟩
  have hro : RgOs os := RgOs_of fun i o ho => okO_rg (hs.ok i o (ofList_mem hlen ho))
  have hm : ∀ n, os.length ≤ n → (Tr.ofList 0 os .leaf).get n = none := fun n hn => by
    cases hg : (Tr.ofList 0 os .leaf).get n with
    | none => rfl
    | some o => have := ofList_get0 hlen hg; have := (List.getElem?_eq_some_iff.1 this).1; omega
  refine ((body_call hΓ (adraw_ok hmix hΓ) hf (callable hf hname hbd) hm hla (h os hH hr hro)).2 ρ fp w args' hs hd).mono fun e w' hh => ?_
  obtain ⟨v, hp', ρ', fp', x, ⟨nx', hk'⟩, r⟩ := hh
  exact ⟨v, hp', ρ', fp', x, hk', r⟩
end Go.Tb
namespace Go.Tb.W
open Go Go.Proofs
abbrev IQ : Interp O := pkI pk
variable {I : Interp O} (hI : I.R = pk.R)
theorem s2_inv {l : List Rw} {sq : Int} {n c : Nat} {xs : List Rw} {room : Nat} (h : QInv l sq n c xs room) : so l := ⟨h.so, by rw [h.ln]; exact h.mx⟩
theorem asQ_spec {o : Option (AO O)} {l : List Rw} {sq : Int} (h : asQ o = some (l, sq)) : asO pk o = some (.q l sq) := by
  unfold asQ at h
  split at h
  · cases h; rfl
  · cases h; rfl
  · cases h
theorem isQ_spec {hp : Tr (AO O)} {n : Nat} {K : List Rw → Int → Prop} (h : isQ hp n K) : Nat.blt n 16777215 = true ∧ ∃ l sq, asO pk (hp.get n) = some (.q l sq) ∧ K l sq := by
  unfold isQ at h
  split at h
  · rename_i l sq hb hg; exact ⟨hb, l, sq, asQ_spec hg, h⟩
  · exact h.elim
theorem kl_len1 : ∀ (args : List AV) (hp : Tr (AO O)) (nx : Nat) (K : AV → Tr (AO O) → Nat → Prop), c_len1 args hp nx K → ACall I P 20 args hp (fun v hp' => ∃ nx', K v hp' nx') := by
  intro args hp nx K h
  unfold c_len1 at h; split at h
  · rename_i n
    split at h
    · rename_i m l c sq hg
      split at h
      · rename_i xs room hb hg2
        obtain ⟨hu, _⟩ := both_iff hb
        refine hcallK mix Gm.nil (fn := Try.f20) (by kernel_rfl) (by kernel_rfl) (by kernel_rfl) [n, m] [qO (.sl 1 0 l c) sq, eO xs room] [.ptr 0 0] (fun v lh => v = .int .i64 l ∧ lh.get 0 = some (qO (.sl 1 0 l c) sq) ∧ lh.get 1 = some (eO xs room)) rfl hu rfl ⟨hg, hg2, trivial⟩ rfl rfl (fun hr ho => (t_len1 I _ l c room xs sq).mpr ⟨rfl, rfl, rfl⟩) ?_
        rintro v lh ⟨rfl, h0, h1⟩
        refine ⟨[], [], hu, trivial, rfl, fun j g hj => (by cases hj), ⟨?_, ?_, trivial⟩, ?_, rfl, ⟨nx, h⟩⟩
        · show hp.get n = (lh.get 0).map _; rw [hg, h0]; rfl
        · show hp.get m = (lh.get 1).map _; rw [hg2, h1]; rfl
        · simp [pairs, nmAll, h0, h1, nmO]; rfl
      · exact h.elim
    · rename_i sq hg
      split at h
      · rename_i hb
        refine hcallK mix Gm.nil (fn := Try.f20) (by kernel_rfl) (by kernel_rfl) (by kernel_rfl) [n] [qO .nils sq] [.ptr 0 0] (fun v lh => v = .int .i64 0 ∧ lh.get 0 = some (qO .nils sq)) rfl (uniq1 hb) rfl ⟨hg, trivial⟩ rfl rfl (fun hr ho => (t_len10 I _ sq).mpr ⟨rfl, rfl⟩) ?_
        rintro v lh ⟨rfl, h0⟩
        refine ⟨[], [], uniq1 hb, trivial, rfl, fun j g hj => (by cases hj), ⟨?_, trivial⟩, ?_, rfl, ⟨nx, h⟩⟩
        · show hp.get n = (lh.get 0).map _; rw [hg, h0]; rfl
        · simp [pairs, nmAll, h0, nmO]; rfl
      · exact h.elim
    · exact h.elim
  · exact h.elim
theorem gA7 : GOk I P (Gm A7) := Gm.consH gA4 kl_len1
include hI
theorem k_qlen : ∀ (args : List AV) (hp : Tr (AO O)) (nx : Nat) (K : AV → Tr (AO O) → Nat → Prop), c_qlen args hp nx K → ACall I P 20 args hp (fun v hp' => ∃ nx', K v hp' nx') := by
  intro args hp nx K h
  unfold c_qlen at h; split at h
  · rename_i n
    obtain ⟨hb, l, sq, hg, h⟩ := isQ_spec h
    refine own_body hI mix Gm.nil (fn := Try.f20) (by kernel_rfl) (by kernel_rfl) (by kernel_rfl) hg hb [.ptr 0 0] rfl rfl fun os hH hr ho => ?_
    rcases hH with ⟨rfl, rfl⟩ | ⟨k, c, xs, room, rfl, inv⟩
    · exact (t_len10 I _ sq).mpr ⟨.q [] sq, _, [], rfl, by decide, .inl ⟨rfl, rfl⟩, .inl ⟨rfl, nx, h ⟨.nil, by decide⟩⟩⟩
    · rw [inv.ln] at h
      exact (t_len1 I _ k c room xs sq).mpr ⟨.q l sq, _, [1], rfl, by decide, .inr ⟨k, c, xs, room, rfl, inv⟩, .inl ⟨rfl, nx, h (s2_inv inv)⟩⟩
  · exact h.elim
theorem k_qput : ∀ (args : List AV) (hp : Tr (AO O)) (nx : Nat) (K : AV → Tr (AO O) → Nat → Prop), c_qput args hp nx K → ACall I P 10 args hp (fun v hp' => ∃ nx', K v hp' nx') := by
  intro args hp nx K h
  unfold c_qput at h; split at h
  · rename_i n a b s
    obtain ⟨hb, l, sq, hg, ⟨hsq, h1, h2⟩⟩ := isQ_spec h
    have e : IntKind.i64.wrap (sq + 1) = sq + 1 := by rw [w_i64]; omega
    refine own_body hI mix gA7 (fn := Try.f10) (by kernel_rfl) (by kernel_rfl) (by kernel_rfl) hg hb [.ptr 0 0, .agg [.int .i64 a, .int .i64 b, .str s]] rfl rfl fun os hH hr ho => ?_
    rcases hH with ⟨rfl, rfl⟩ | ⟨k, c, xs, room, rfl, inv⟩
    · refine (t_put0 I _ sq a b s).mpr fun c' q1 q2 => ⟨rfl, ?_⟩
      rw [e]
      exact ⟨.q (insQ [] (mkE a b s sq)) (sq + 1), _, [2], rfl, by decide, .inr ⟨1, c', _, c' * 4, rfl, QInv.first c'⟩, .inl ⟨rfl, nx, h2 (by decide)⟩⟩
    · refine (t_put I _ k c room xs sq a b s).mpr (bsplit_both (fun hx => ?_) (fun hx => ⟨⟨inv.len, inv.cap, by have := inv.mx; omega⟩, fun c' q1 q2 => ⟨rfl, ?_⟩⟩))
      · have hx := of_decide_eq_true hx
        exact ⟨.q l sq, _, [1], rfl, by decide, .inr ⟨k, c, xs, room, rfl, inv⟩, .inl ⟨rfl, nx, h1 (by rw [inv.ln]; omega)⟩⟩
      · have hx := of_decide_eq_false hx
        rw [e]
        exact ⟨.q (insQ l (mkE a b s sq)) (sq + 1), _, [3], rfl, by decide, .inr ⟨k + 1, c', _, c' * 4, rfl, inv.push (by omega) a b s c'⟩, .inl ⟨rfl, nx, h2 (by rw [inv.ln]; omega)⟩⟩
  · exact h.elim
theorem k_qnext : ∀ (args : List AV) (hp : Tr (AO O)) (nx : Nat) (K : AV → Tr (AO O) → Nat → Prop), c_qnext args hp nx K → ACall I P 12 args hp (fun v hp' => ∃ nx', K v hp' nx') := by
  intro args hp nx K h
  unfold c_qnext at h; split at h
  · rename_i n
    obtain ⟨hb, l, sq, hg, ⟨h1, h2⟩⟩ := isQ_spec h
    refine own_body hI mix gA7 (fn := Try.f12) (by kernel_rfl) (by kernel_rfl) (by kernel_rfl) hg hb [.ptr 0 0] rfl rfl fun os hH hr ho => ?_
    rcases hH with ⟨rfl, rfl⟩ | ⟨k, c, xs, room, rfl, inv⟩
    · exact (t_next0 I _ sq).mpr ⟨.q [] sq, _, [], rfl, by decide, .inl ⟨rfl, rfl⟩, .inl ⟨rfl, nx, h1 rfl⟩⟩
    · refine (t_next I _ k c room xs sq).mpr (bsplit_both (fun hx => ?_) (fun hx => ?_))
      · have hk : k = 0 := by have := eq_of_beq hx; omega
        have hl : l = [] := List.length_eq_zero_iff.1 (by rw [inv.ln]; exact hk)
        subst hl
        exact ⟨.q [] sq, _, [1], rfl, by decide, .inr ⟨k, c, xs, room, rfl, inv⟩, .inl ⟨rfl, nx, h1 rfl⟩⟩
      · have hk : k ≠ 0 := by have := ne_of_beq_false hx; omega
        cases l with
        | nil => have := inv.ln; simp at this; omega
        | cons x t =>
          obtain ⟨hk0, hx0⟩ := inv.root
          have hl := inv.len
          have hm := inv.mx
          refine must_mk (decide_eq_true ⟨by omega, by omega⟩) (xget_mk (gE_get (by omega)) ⟨⟨by omega, hl, by omega⟩, fun a b s d => ?_⟩)
          rw [← hx0]
          exact ⟨.q t sq, _, [1], rfl, by decide, .inr ⟨k - 1, c, _, room, rfl, inv.pop⟩, .inl ⟨rfl, nx, h2 x t rfl (s2_inv inv)⟩⟩
  · exact h.elim
theorem k_qpeek : ∀ (args : List AV) (hp : Tr (AO O)) (nx : Nat) (K : AV → Tr (AO O) → Nat → Prop), c_qpeek args hp nx K → ACall I P 19 args hp (fun v hp' => ∃ nx', K v hp' nx') := by
  intro args hp nx K h
  unfold c_qpeek at h; split at h
  · rename_i n
    obtain ⟨hb, l, sq, hg, ⟨h1, h2⟩⟩ := isQ_spec h
    refine own_body hI mix gA7 (fn := Try.f19) (by kernel_rfl) (by kernel_rfl) (by kernel_rfl) hg hb [.ptr 0 0] rfl rfl fun os hH hr ho => ?_
    rcases hH with ⟨rfl, rfl⟩ | ⟨k, c, xs, room, rfl, inv⟩
    · exact (t_peek0 I _ sq).mpr ⟨.q [] sq, _, [], rfl, by decide, .inl ⟨rfl, rfl⟩, .inl ⟨rfl, nx, h1 rfl⟩⟩
    · refine (t_peek I _ k c room xs sq).mpr (bsplit_both (fun hx => ?_) (fun hx => ?_))
      · have hk : k = 0 := by have := eq_of_beq hx; omega
        have hl : l = [] := List.length_eq_zero_iff.1 (by rw [inv.ln]; exact hk)
        subst hl
        exact ⟨.q [] sq, _, [1], rfl, by decide, .inr ⟨k, c, xs, room, rfl, inv⟩, .inl ⟨rfl, nx, h1 rfl⟩⟩
      · have hk : k ≠ 0 := by have := ne_of_beq_false hx; omega
        cases l with
        | nil => have := inv.ln; simp at this; omega
        | cons x t =>
          obtain ⟨hk0, hx0⟩ := inv.root
          have hl := inv.len
          refine must_mk (decide_eq_true ⟨by omega, by omega⟩) (xget_mk (gE_get (by omega)) ?_)
          rw [← hx0]
          exact ⟨.q (x :: t) sq, _, [1], rfl, by decide, .inr ⟨k, c, xs, room, rfl, inv⟩, .inl ⟨rfl, nx, h2 x t rfl (s2_inv inv)⟩⟩
  · exact h.elim
theorem k_qdrop : ∀ (args : List AV) (hp : Tr (AO O)) (nx : Nat) (K : AV → Tr (AO O) → Nat → Prop), c_qdrop args hp nx K → ACall I P 17 args hp (fun v hp' => ∃ nx', K v hp' nx') := by
  intro args hp nx K h
  unfold c_qdrop at h; split at h
  · rename_i n kd
    obtain ⟨hb, l, sq, hg, h⟩ := isQ_spec h
    refine own_body hI mix gA7 (fn := Try.f17) (by kernel_rfl) (by kernel_rfl) (by kernel_rfl) hg hb [.ptr 0 0, .int .i64 kd] rfl rfl fun os hH hr ho => ?_
    rcases hH with ⟨rfl, rfl⟩ | ⟨k, c, xs, room, rfl, inv⟩
    · exact (t_drop0 I _ sq kd).mpr ⟨.q [] sq, _, [], rfl, by decide, .inl ⟨rfl, rfl⟩, .inl ⟨rfl, nx, h⟩⟩
    · have hm := inv.mx
      refine (t_drop I _ k c room xs sq kd).mpr ⟨⟨inv.len, inv.nr⟩, fun ys i hi => ⟨⟨by have := inv.len; omega, by omega⟩, ?_⟩⟩
      obtain ⟨q1, q2, q3⟩ := hi
      have hi2 := inv.drop (fun x => !(x.i 1 == kd)) q1 q2 q3
      have e : IntKind.i64.wrap ((k : Int) - (i : Int)) = (l.length : Int) - ((rest kd l).length : Int) := by
        rw [inv.ln, show (rest kd l).length = i from hi2.ln, w_i64]; omega
      rw [e]
      exact ⟨.q (rest kd l) sq, _, [1], rfl, by decide, .inr ⟨i, c, _, room, rfl, hi2⟩, .inl ⟨rfl, nx, h⟩⟩
  · exact h.elim
theorem gB0 : GOk I P (Gm B0) := Gm.consH (Gm.consH (Gm.consH (Gm.consH (Gm.consH Gm.nil (k_qdrop hI)) (k_qpeek hI)) (k_qnext hI)) (k_qput hI)) (k_qlen hI)
end Go.Tb.W

/- What the functions' bodies come to: each line is what the abstract machine makes of one function, or of one round of a loop, over the contracts of the functions that it calls (the text was printed by a program of mine; Lean proves it again). -/
set_option linter.all false
set_option maxRecDepth 100000
set_option maxHeartbeats 2000000
namespace Go.Tb
open Go Go.Proofs
namespace W
theorem t_until (I : Interp O) (K : AV → Tr (AO O) → Nat → Prop) (l : List Rw) (sq t : Int) : abody I P (Gm B0) (adraw P (Gm B0)) 1 Try.f15 [.ptr 0 0, .int .i64 t] (Tr.ofList 0 [.own (.q l sq)] .leaf) 1 K =
  (ALoop I 1 (cd Try.f15 [true, true, false, false]) (acode I P (Gm B0) (adraw P (Gm B0)) 1 (cd Try.f15 [true, true, false, false])) (ablock 0 (kret P Try.f15 (K))) ⟨(.node (.node .leaf (some (.int IntKind.i64 (t))) (.node .leaf (some .nils) .leaf)) (some (.ptr 0 0)) (.node (.node .leaf (some .nils) .leaf) none .leaf)), (.node .leaf (some (.own (O.q l sq))) .leaf), 1, 32⟩) := by kernel_rfl
theorem t_until0 (I : Interp O) (K : AV → Tr (AO O) → Nat → Prop) (sq t : Int) : abody I P (Gm B0) (adraw P (Gm B0)) 1 Try.f15 [.ptr 0 0, .int .i64 t] (Tr.ofList 0 [qO .nils sq] .leaf) 1 K =
  (ALoop I 1 (cd Try.f15 [true, true, false, false]) (acode I P (Gm B0) (adraw P (Gm B0)) 1 (cd Try.f15 [true, true, false, false])) (ablock 0 (kret P Try.f15 (K))) ⟨(.node (.node .leaf (some (.int IntKind.i64 (t))) (.node .leaf (some .nils) .leaf)) (some (.ptr 0 0)) (.node (.node .leaf (some .nils) .leaf) none .leaf)), (.node .leaf (some (.cells 27 [.nils, (.int IntKind.i64 (sq))] 2)) .leaf), 1, 32⟩) := by kernel_rfl
theorem t_untilA (I : Interp O) (K : AV → Tr (AO O) → Nat → Prop) (X : St O → Prop) (l : List Rw) (sq t : Int) : acode I P (Gm B0) (adraw P (Gm B0)) 1 (cd Try.f15 [true, true, false, false]) (j_untA l sq t) (lpg 1 [(3, 1)] [0, 1, 5] 2 X (ablock 0 (kret P Try.f15 (K)))) =
  ((l = [] → (K .nils (.node .leaf (some (.own (O.q [] sq))) .leaf) 1)) ∧ (∀ (x0 : Rw), (∀ (t1 : List Rw), (l = x0 :: t1 → (so (x0 :: t1) → (bsplit (decide (x0.i 0 > t)) fun | true => (K .nils (.node .leaf (some (.own (O.q (x0 :: t1) sq))) .leaf) 1) | false => ((x0 :: t1 = [] → (((0 : Nat) + (1 : Nat) ≤ (137438953472 : Nat)) ∧ (∀ (c'2 : Nat), (0 + 1 ≤ c'2 → (c'2 ≤ 9223372036854775807 → (X ⟨(.node (.node .leaf (some (.int IntKind.i64 (t))) (.node .leaf (some (.sl 1 0 1 (c'2))) .leaf)) (some (.ptr 0 0)) .leaf), (.node (.node .leaf (some (.rows 33 [Sh.i IntKind.i64, Sh.i IntKind.i64, Sh.s] ([] ++ ((rwA [(.int IntKind.i64 (0 : Int)), (.int IntKind.i64 (0 : Int)), (.str ((ByteArray.mk #[])))]) :: [])) (c'2 * [Sh.i IntKind.i64, Sh.i IntKind.i64, Sh.s].length))) .leaf) (some (.own (O.q [] sq))) .leaf), 2, 32⟩)))))) ∧ (∀ (x3 : Rw), (∀ (t4 : List Rw), (x0 :: t1 = x3 :: t4 → (so (x3 :: t4) → (((0 : Nat) + (1 : Nat) ≤ (137438953472 : Nat)) ∧ (∀ (c'5 : Nat), (0 + 1 ≤ c'5 → (c'5 ≤ 9223372036854775807 → (X ⟨(.node (.node .leaf (some (.int IntKind.i64 (t))) (.node .leaf (some (.sl 1 0 1 (c'5))) .leaf)) (some (.ptr 0 0)) .leaf), (.node (.node .leaf (some (.rows 33 [Sh.i IntKind.i64, Sh.i IntKind.i64, Sh.s] ([] ++ ((rwA [(.int IntKind.i64 ((x3).i 0)), (.int IntKind.i64 ((x3).i 1)), (.str ((x3).s 2))]) :: [])) (c'5 * [Sh.i IntKind.i64, Sh.i IntKind.i64, Sh.s].length))) .leaf) (some (.own (O.q t4 sq))) .leaf), 2, 32⟩)))))))))))))))) := by kernel_rfl
theorem t_untilB (I : Interp O) (K : AV → Tr (AO O) → Nat → Prop) (X : St O → Prop) (l : List Rw) (sq t : Int) (n c : Nat) (xs : List Rw) (room : Nat) : acode I P (Gm B0) (adraw P (Gm B0)) 1 (cd Try.f15 [true, true, false, false]) (j_untB l sq t n c xs room) (lpg 1 [(4, 1)] [0, 1, 5] 2 X (ablock 0 (kret P Try.f15 (K)))) =
  ((l = [] → (K (.sl 1 0 (n) (c)) (.node (.node .leaf (some (.rows 33 [Sh.i IntKind.i64, Sh.i IntKind.i64, Sh.s] (xs) (room))) .leaf) (some (.own (O.q [] sq))) .leaf) 2)) ∧ (∀ (x0 : Rw), (∀ (t1 : List Rw), (l = x0 :: t1 → (so (x0 :: t1) → (bsplit (decide (x0.i 0 > t)) fun | true => (K (.sl 1 0 (n) (c)) (.node (.node .leaf (some (.rows 33 [Sh.i IntKind.i64, Sh.i IntKind.i64, Sh.s] (xs) (room))) .leaf) (some (.own (O.q (x0 :: t1) sq))) .leaf) 2) | false => ((x0 :: t1 = [] → (must (n.ble xs.length && (c * [Sh.i IntKind.i64, Sh.i IntKind.i64, Sh.s].length).ble room && Nat.blt 1 16777215) ((n + (1 : Nat) ≤ (137438953472 : Nat)) ∧ (∀ (c'2 : Nat), (n + 1 ≤ c'2 → (c'2 ≤ 9223372036854775807 → (X ⟨(.node (.node .leaf (some (.int IntKind.i64 (t))) (.node .leaf (some (.sl 1 0 (n + 1) (c'2))) .leaf)) (some (.ptr 0 0)) .leaf), (.node (.node .leaf (some (.rows 33 [Sh.i IntKind.i64, Sh.i IntKind.i64, Sh.s] ((List.take n xs) ++ ((rwA [(.int IntKind.i64 (0 : Int)), (.int IntKind.i64 (0 : Int)), (.str ((ByteArray.mk #[])))]) :: [])) (c'2 * [Sh.i IntKind.i64, Sh.i IntKind.i64, Sh.s].length))) .leaf) (some (.own (O.q [] sq))) .leaf), 2, 32⟩))))))) ∧ (∀ (x3 : Rw), (∀ (t4 : List Rw), (x0 :: t1 = x3 :: t4 → (so (x3 :: t4) → (must (n.ble xs.length && (c * [Sh.i IntKind.i64, Sh.i IntKind.i64, Sh.s].length).ble room && Nat.blt 1 16777215) ((n + (1 : Nat) ≤ (137438953472 : Nat)) ∧ (∀ (c'5 : Nat), (n + 1 ≤ c'5 → (c'5 ≤ 9223372036854775807 → (X ⟨(.node (.node .leaf (some (.int IntKind.i64 (t))) (.node .leaf (some (.sl 1 0 (n + 1) (c'5))) .leaf)) (some (.ptr 0 0)) .leaf), (.node (.node .leaf (some (.rows 33 [Sh.i IntKind.i64, Sh.i IntKind.i64, Sh.s] ((List.take n xs) ++ ((rwA [(.int IntKind.i64 ((x3).i 0)), (.int IntKind.i64 ((x3).i 1)), (.str ((x3).s 2))]) :: [])) (c'5 * [Sh.i IntKind.i64, Sh.i IntKind.i64, Sh.s].length))) .leaf) (some (.own (O.q t4 sq))) .leaf), 2, 32⟩))))))))))))))))) := by kernel_rfl
end W
end Go.Tb

/- Queues: what comes up to a moment. -/
set_option linter.all false
set_option maxRecDepth 100000
namespace Go.Tb.W
open Go Go.Proofs
theorem lohi_app {t : Int} {a b : List Rw} (ha : ∀ x ∈ a, x.i 0 ≤ t) (hb : ∀ x ∈ b, t < x.i 0) : lo t (a ++ b) = a ∧ hi t (a ++ b) = b := by
  unfold lo hi
  rw [List.filter_append, List.filter_append]
  have h1 : a.filter (fun x => decide (x.i 0 ≤ t)) = a := List.filter_eq_self.2 fun x hx => by simpa using ha x hx
  have h2 : b.filter (fun x => decide (x.i 0 ≤ t)) = [] := List.filter_eq_nil_iff.2 fun x hx => by have := hb x hx; simp; omega
  have h3 : a.filter (fun x => !decide (x.i 0 ≤ t)) = [] := List.filter_eq_nil_iff.2 fun x hx => by have := ha x hx; simp; omega
  have h4 : b.filter (fun x => !decide (x.i 0 ≤ t)) = b := List.filter_eq_self.2 fun x hx => by have := hb x hx; simp; omega
  rw [h1, h2, h3, h4]; simp
theorem so_gt {t : Int} {x : Rw} {l : List Rw} (h : so (x :: l)) (hx : t < x.i 0) : ∀ y ∈ x :: l, t < y.i 0 := fun y hy => by
  rcases List.mem_cons.1 hy with rfl | hy
  · exact hx
  · have := less_iff.1 ((List.pairwise_cons.1 h.1).1 y hy); omega
theorem so_tail {x : Rw} {l : List Rw} (h : so (x :: l)) : so l := ⟨(List.pairwise_cons.1 h.1).2, by have := h.2; simp at this; omega⟩
variable {I : Interp O}
theorem until_loop {l : List Rw} {sq t : Int} {K : AV → Tr (AO O) → Nat → Prop}
    (h1 : so l → lo t l = [] → K .nils (.node .leaf (some (.own (.q l sq))) .leaf) 1)
    (h2 : so l → 0 < (lo t l).length → ∀ c room, K (.sl 1 0 (lo t l).length c) (.node (.node .leaf (some (iO ((lo t l).map it) room)) .leaf) (some (.own (.q (hi t l) sq))) .leaf) 2) :
    ALoop I 1 (cd Try.f15 [true, true, false, false]) (acode I P (Gm B0) (adraw P (Gm B0)) 1 (cd Try.f15 [true, true, false, false])) (ablock 0 (kret P Try.f15 (K))) (j_untA l sq t) := by
  refine ALoop.stepg [(3, 1)] [0, 1, 5] 2 ?_
  refine (t_untilA I _ _ l sq t).mpr ⟨fun e => ?_, fun x0 t1 e hso => bsplit_both (fun hx => ?_) (fun hx => ⟨fun e => by simp at e, fun x3 t4 e3 hs3 => ⟨by omega, fun c' q1 q2 => ?_⟩⟩)⟩
  · subst e; exact h1 ⟨.nil, by simp⟩ rfl
  · subst e
    have hx : t < x0.i 0 := of_decide_eq_true hx
    exact h1 hso (lohi_app (a := []) (b := x0 :: t1) (fun _ h => by simp at h) (so_gt hso hx)).1
  · cases e3
    have hx : x0.i 0 ≤ t := by have := of_decide_eq_false hx; omega
    have h2 := h2 (by rw [e]; exact hso)
    have hll : l.length ≤ 1000 := by rw [e]; exact hso.2
    clear h1
    refine ALoop.invj (ps := [(4, 1)]) (ts := [0, 1, 5]) (nx := 2) (fun x : List Rw × List Rw × Nat × Nat => j_untB x.2.1 sq t x.1.length x.2.2.1 (x.1.map it) x.2.2.2) (fun x => (l = x.1 ++ x.2.1 ∧ x.1 ≠ [] ∧ ∀ y ∈ x.1, y.i 0 ≤ t) ∧ x.2.2.1 * 3 ≤ x.2.2.2) (fun x => x.2.1.length) ?_ ([x0], t1, c', c' * 3) ⟨⟨e, by simp, fun y hy => by simp at hy; subst hy; exact hx⟩, Nat.le_refl _⟩
    rintro ⟨pre, rest, c, room⟩ ⟨⟨g1, g2, g3⟩, g4⟩
    simp only at g1 g2 g3 g4 ⊢
    have hlen : 0 < pre.length := List.length_pos_iff.2 g2
    have done : (∀ y ∈ rest, t < y.i 0) → K (.sl 1 0 pre.length c) (.node (.node .leaf (some (iO (pre.map it) room)) .leaf) (some (.own (.q rest sq))) .leaf) 2 := fun hr => by
      obtain ⟨e1, e2⟩ := lohi_app g3 hr
      rw [← g1] at e1 e2
      have := h2 (by rw [e1]; exact hlen) c room
      rw [e1, e2] at this
      exact this
    have hpl : pre.length + rest.length ≤ 1000 := by rw [← List.length_append, ← g1]; exact hll
    have hm : (pre.length.ble (pre.map it).length && (c * [Sh.i IntKind.i64, Sh.i IntKind.i64, Sh.s].length).ble room && Nat.blt 1 16777215) = true := by
      simp [Nat.ble_eq]; exact g4
    refine (t_untilB I _ _ rest sq t pre.length c (pre.map it) room).mpr ⟨fun e => ?_, fun y0 u1 e hso => bsplit_both (fun hy => ?_) (fun hy => ⟨fun e => by simp at e, fun x3 t4 e3 hs3 => must_mk hm ⟨by omega, fun c2 q3 q4 => ?_⟩⟩)⟩
    · subst e; exact done fun y hy => by simp at hy
    · subst e
      exact done (so_gt hso (of_decide_eq_true hy))
    · cases e3
      have hy : y0.i 0 ≤ t := by have := of_decide_eq_false hy; omega
      refine ⟨(pre ++ [y0], u1, c2, c2 * 3), ⟨⟨by rw [g1, e]; simp, by simp, fun y hq => ?_⟩, Nat.le_refl _⟩, by show u1.length < rest.length; rw [e]; simp, ?_⟩
      · rcases List.mem_append.1 hq with hq | hq
        · exact g3 y hq
        · simp at hq; subst hq; exact hy
      · have e1 : (pre.map it).take pre.length = pre.map it := List.take_of_length_le (by simp)
        have e2 : (pre ++ [y0]).length = pre.length + 1 := by simp
        have e3 : (pre ++ [y0]).map it = pre.map it ++ [it y0] := by simp
        simp only [e1, e2, e3]
        rfl
variable (hI : I.R = pk.R)
include hI
theorem k_quntil : ∀ (args : List AV) (hp : Tr (AO O)) (nx : Nat) (K : AV → Tr (AO O) → Nat → Prop), c_quntil args hp nx K → ACall I P 15 args hp (fun v hp' => ∃ nx', K v hp' nx') := by
  intro args hp nx K h
  unfold c_quntil at h; split at h
  · rename_i n t
    unfold isQ at h
    split at h
    · rename_i l sq hb hg
      split at h
      · rename_i hnb hfr
        obtain ⟨h1, h2⟩ := h
        unfold asQ at hg
        split at hg
        · rename_i o l' sq' hgo
          cases hg
          refine hcallG mix (gB0 hI) (fn := Try.f15) (by kernel_rfl) (by kernel_rfl) (by kernel_rfl) [n] [.own (.q l sq)] [.ptr 0 0, .int .i64 t] rfl (uniq1 hb) rfl ⟨hgo, trivial⟩ rfl rfl (fun hr ho => (t_until I _ l sq t).mpr ?_)
          refine ALoop.start [] [0, 1, 5] 1 (j_untA l sq t) (by kernel_rfl) (by kernel_rfl) ?_
          exact until_loop (fun hs he => ⟨[], nx, uniq1 hb, trivial, rfl, rfl, h1 hs he⟩) (fun hs he c room => ⟨[(1, nx)], nx + 1, uniq2n (uniq1 hb) hfr hnb (by rw [hgo]; simp) rfl, ⟨hfr, trivial⟩, rfl, rfl, h2 hs he c room⟩)
        · rename_i o sq' hgo
          cases hg
          refine hcallG mix (gB0 hI) (fn := Try.f15) (by kernel_rfl) (by kernel_rfl) (by kernel_rfl) [n] [qO .nils sq] [.ptr 0 0, .int .i64 t] rfl (uniq1 hb) rfl ⟨hgo, trivial⟩ rfl rfl (fun hr ho => (t_until0 I _ sq t).mpr ?_)
          refine ALoop.weak (Weak.asOwn (p := pk) hI (n := 0) (s := .q [] sq) rfl rfl rfl) ?_
          refine ALoop.start [] [0, 1, 5] 1 (j_untA [] sq t) (by kernel_rfl) (by kernel_rfl) ?_
          exact until_loop (fun hs he => ⟨[], nx, uniq1 hb, trivial, rfl, rfl, h1 hs he⟩) (fun hs he c room => by simp [lo] at he)
        · cases hg
      · exact h.elim
    · exact h.elim
  · exact h.elim
theorem gB1 : GOk I P (Gm B1) := Gm.consH (gB0 hI) (k_quntil hI)
end Go.Tb.W

/- What the functions' bodies come to: each line is what the abstract machine makes of one function, or of one round of a loop, over the contracts of the functions that it calls (the text was printed by a program of mine; Lean proves it again). -/
set_option linter.all false
set_option maxRecDepth 100000
set_option maxHeartbeats 2000000
namespace Go.Tb
open Go Go.Proofs
namespace W
theorem t_awake (I : Interp O) (K : AV → Prop) : abody I P (Gm B1) (adraw P (Gm B1)) 0 Try.f9 [] .leaf 0 (fun v _ _ => K v) =
  ((([] : List Rw) = [] → (ALoop I 0 (cd Try.f9 [true, true, true, false, true, false, false]) (acode I P (Gm B1) (adraw P (Gm B1)) 0 (cd Try.f9 [true, true, true, false, true, false, false])) (ablock 0 (athen (cd Try.f9 [true, true, true, true]) (fun s => acode I P (Gm B1) (adraw P (Gm B1)) 0 (cd Try.f9 [true, true, true, true]) s (kret P Try.f9 (fun v x x_1 => K v))) (kret P Try.f9 (fun v x x_1 => K v)))) ⟨(.node (.node (.node (.node (.node .leaf (some (.tup [(.agg [(.int IntKind.i64 (0 : Int)), (.int IntKind.i64 (0 : Int)), (.str ((ByteArray.mk #[])))]), (.int IntKind.i64 (10 : Int))])) .leaf) none (.node .leaf (some (.sl 2 0 4 4)) .leaf)) (some (.int IntKind.i64 (10 : Int))) (.node (.node .leaf (some (.agg [(.int IntKind.i64 (5 : Int)), (.int IntKind.i64 (0 : Int)), (.str ((ByteArray.mk #[97])))])) .leaf) none .leaf)) (some (.ptr 0 0)) (.node (.node (.node .leaf (some (.agg [(.int IntKind.i64 (0 : Int)), (.int IntKind.i64 (0 : Int)), (.str ((ByteArray.mk #[])))])) .leaf) none (.node .leaf (some (.int IntKind.i64 (0 : Int))) .leaf)) none (.node (.node .leaf (some (.agg [(.int IntKind.i64 (5 : Int)), (.int IntKind.i64 (1 : Int)), (.str ((ByteArray.mk #[99])))])) .leaf) none .leaf))) (some (.bool false)) (.node (.node (.node (.node .leaf (some (.tup [(.agg [(.int IntKind.i64 (0 : Int)), (.int IntKind.i64 (0 : Int)), (.str ((ByteArray.mk #[])))]), (.int IntKind.i64 (10 : Int))])) .leaf) none (.node .leaf (some (.int IntKind.i64 (4 : Int))) .leaf)) none (.node (.node .leaf (some (.agg [(.int IntKind.i64 (3 : Int)), (.int IntKind.i64 (0 : Int)), (.str ((ByteArray.mk #[98])))])) .leaf) none .leaf)) (some (.ptr 1 0)) (.node (.node (.node .leaf (some (.int IntKind.i64 (10 : Int))) .leaf) none .leaf) none (.node (.node .leaf (some (.agg [(.int IntKind.i64 (3 : Int)), (.int IntKind.i64 (0 : Int)), (.str ((ByteArray.mk #[100])))])) .leaf) none .leaf)))), (.node (.node .leaf (some (.cells 33 [(.int IntKind.i64 (0 : Int)), (.int IntKind.i64 (0 : Int)), (.str ((ByteArray.mk #[])))] 3)) .leaf) (some (.own (O.q [] 0))) (.node .leaf (some (.cells 33 [(.int IntKind.i64 (5 : Int)), (.int IntKind.i64 (0 : Int)), (.str ((ByteArray.mk #[97]))), (.int IntKind.i64 (3 : Int)), (.int IntKind.i64 (0 : Int)), (.str ((ByteArray.mk #[98]))), (.int IntKind.i64 (5 : Int)), (.int IntKind.i64 (1 : Int)), (.str ((ByteArray.mk #[99]))), (.int IntKind.i64 (3 : Int)), (.int IntKind.i64 (0 : Int)), (.str ((ByteArray.mk #[100])))] 12)) .leaf)), 3, 101⟩)) ∧ (∀ (x0 : Rw), (∀ (t1 : List Rw), (([] : List Rw) = x0 :: t1 → (so (x0 :: t1) → (ALoop I 0 (cd Try.f9 [true, true, true, false, true, false, false]) (acode I P (Gm B1) (adraw P (Gm B1)) 0 (cd Try.f9 [true, true, true, false, true, false, false])) (ablock 0 (athen (cd Try.f9 [true, true, true, true]) (fun s => acode I P (Gm B1) (adraw P (Gm B1)) 0 (cd Try.f9 [true, true, true, true]) s (kret P Try.f9 (fun v x x_1 => K v))) (kret P Try.f9 (fun v x x_1 => K v)))) ⟨(.node (.node (.node (.node (.node .leaf (some (.tup [(.agg [(.int IntKind.i64 ((x0).i 0)), (.int IntKind.i64 ((x0).i 1)), (.str ((x0).s 2))]), (.int IntKind.i64 (0 : Int))])) .leaf) none (.node .leaf (some (.sl 2 0 4 4)) .leaf)) (some (.int IntKind.i64 (0 : Int))) (.node (.node .leaf (some (.agg [(.int IntKind.i64 (5 : Int)), (.int IntKind.i64 (0 : Int)), (.str ((ByteArray.mk #[97])))])) .leaf) none .leaf)) (some (.ptr 0 0)) (.node (.node (.node .leaf (some (.agg [(.int IntKind.i64 ((x0).i 0)), (.int IntKind.i64 ((x0).i 1)), (.str ((x0).s 2))])) .leaf) none (.node .leaf (some (.int IntKind.i64 (0 : Int))) .leaf)) none (.node (.node .leaf (some (.agg [(.int IntKind.i64 (5 : Int)), (.int IntKind.i64 (1 : Int)), (.str ((ByteArray.mk #[99])))])) .leaf) none .leaf))) (some (.bool false)) (.node (.node (.node (.node .leaf (some (.tup [(.agg [(.int IntKind.i64 ((x0).i 0)), (.int IntKind.i64 ((x0).i 1)), (.str ((x0).s 2))]), (.int IntKind.i64 (0 : Int))])) .leaf) none (.node .leaf (some (.int IntKind.i64 (4 : Int))) .leaf)) none (.node (.node .leaf (some (.agg [(.int IntKind.i64 (3 : Int)), (.int IntKind.i64 (0 : Int)), (.str ((ByteArray.mk #[98])))])) .leaf) none .leaf)) (some (.ptr 1 0)) (.node (.node (.node .leaf (some (.int IntKind.i64 (0 : Int))) .leaf) none .leaf) none (.node (.node .leaf (some (.agg [(.int IntKind.i64 (3 : Int)), (.int IntKind.i64 (0 : Int)), (.str ((ByteArray.mk #[100])))])) .leaf) none .leaf)))), (.node (.node .leaf (some (.cells 33 [(.int IntKind.i64 ((x0).i 0)), (.int IntKind.i64 ((x0).i 1)), (.str ((x0).s 2))] 3)) .leaf) (some (.own (O.q t1 0))) (.node .leaf (some (.cells 33 [(.int IntKind.i64 (5 : Int)), (.int IntKind.i64 (0 : Int)), (.str ((ByteArray.mk #[97]))), (.int IntKind.i64 (3 : Int)), (.int IntKind.i64 (0 : Int)), (.str ((ByteArray.mk #[98]))), (.int IntKind.i64 (5 : Int)), (.int IntKind.i64 (1 : Int)), (.str ((ByteArray.mk #[99]))), (.int IntKind.i64 (3 : Int)), (.int IntKind.i64 (0 : Int)), (.str ((ByteArray.mk #[100])))] 12)) .leaf)), 3, 101⟩)))))) := by kernel_rfl
theorem t_aw0 (I : Interp O) (K : AV → Prop) (X : St O → Prop) (l : List Rw) (sq : Int) : acode I P (Gm B1) (adraw P (Gm B1)) 0 (cd Try.f9 [true, true, true, false, true, false, false]) (j_aw l sq 0) (lpg 0 [(0, 0), (1, 1)] [1, 3, 23, 24, 25] 2 X (ablock 0 (athen (cd Try.f9 [true, true, true, true]) (fun s => acode I P (Gm B1) (adraw P (Gm B1)) 0 (cd Try.f9 [true, true, true, true]) s (kret P Try.f9 (fun v x x_1 => K v))) (kret P Try.f9 (fun v x x_1 => K v))))) =
  (((0 : Int) ≤ sq ∧ sq ≤ (1000000 : Int)) ∧ ((1000 ≤ l.length → (K (.bool false))) ∧ (l.length < 1000 → (X ⟨(.node (.node (.node (.node .leaf none (.node .leaf (some (.sl 1 0 4 4)) .leaf)) (some (.int IntKind.i64 (10 : Int))) .leaf) (some (.ptr 0 0)) (.node (.node .leaf none (.node .leaf (some (.int IntKind.i64 (1 : Int))) .leaf)) none .leaf)) none (.node (.node (.node .leaf none (.node .leaf (some (.int IntKind.i64 (4 : Int))) .leaf)) none .leaf) none .leaf)), (.node (.node .leaf (some (.cells 33 [(.int IntKind.i64 (5 : Int)), (.int IntKind.i64 (0 : Int)), (.str ((ByteArray.mk #[97]))), (.int IntKind.i64 (3 : Int)), (.int IntKind.i64 (0 : Int)), (.str ((ByteArray.mk #[98]))), (.int IntKind.i64 (5 : Int)), (.int IntKind.i64 (1 : Int)), (.str ((ByteArray.mk #[99]))), (.int IntKind.i64 (3 : Int)), (.int IntKind.i64 (0 : Int)), (.str ((ByteArray.mk #[100])))] 12)) .leaf) (some (.own (O.q (insQ l (W.mkE 5 0 (ByteArray.mk #[97]) sq)) (sq + 1)))) .leaf), 2, 101⟩)))) := by kernel_rfl
theorem t_aw1 (I : Interp O) (K : AV → Prop) (X : St O → Prop) (l : List Rw) (sq : Int) : acode I P (Gm B1) (adraw P (Gm B1)) 0 (cd Try.f9 [true, true, true, false, true, false, false]) (j_aw l sq 1) (lpg 0 [(0, 0), (1, 1)] [1, 3, 23, 24, 25] 2 X (ablock 0 (athen (cd Try.f9 [true, true, true, true]) (fun s => acode I P (Gm B1) (adraw P (Gm B1)) 0 (cd Try.f9 [true, true, true, true]) s (kret P Try.f9 (fun v x x_1 => K v))) (kret P Try.f9 (fun v x x_1 => K v))))) =
  (((0 : Int) ≤ sq ∧ sq ≤ (1000000 : Int)) ∧ ((1000 ≤ l.length → (K (.bool false))) ∧ (l.length < 1000 → (X ⟨(.node (.node (.node (.node .leaf none (.node .leaf (some (.sl 1 0 4 4)) .leaf)) (some (.int IntKind.i64 (10 : Int))) .leaf) (some (.ptr 0 0)) (.node (.node .leaf none (.node .leaf (some (.int IntKind.i64 (2 : Int))) .leaf)) none .leaf)) none (.node (.node (.node .leaf none (.node .leaf (some (.int IntKind.i64 (4 : Int))) .leaf)) none .leaf) none .leaf)), (.node (.node .leaf (some (.cells 33 [(.int IntKind.i64 (5 : Int)), (.int IntKind.i64 (0 : Int)), (.str ((ByteArray.mk #[97]))), (.int IntKind.i64 (3 : Int)), (.int IntKind.i64 (0 : Int)), (.str ((ByteArray.mk #[98]))), (.int IntKind.i64 (5 : Int)), (.int IntKind.i64 (1 : Int)), (.str ((ByteArray.mk #[99]))), (.int IntKind.i64 (3 : Int)), (.int IntKind.i64 (0 : Int)), (.str ((ByteArray.mk #[100])))] 12)) .leaf) (some (.own (O.q (insQ l (W.mkE 3 0 (ByteArray.mk #[98]) sq)) (sq + 1)))) .leaf), 2, 101⟩)))) := by kernel_rfl
theorem t_aw2 (I : Interp O) (K : AV → Prop) (X : St O → Prop) (l : List Rw) (sq : Int) : acode I P (Gm B1) (adraw P (Gm B1)) 0 (cd Try.f9 [true, true, true, false, true, false, false]) (j_aw l sq 2) (lpg 0 [(0, 0), (1, 1)] [1, 3, 23, 24, 25] 2 X (ablock 0 (athen (cd Try.f9 [true, true, true, true]) (fun s => acode I P (Gm B1) (adraw P (Gm B1)) 0 (cd Try.f9 [true, true, true, true]) s (kret P Try.f9 (fun v x x_1 => K v))) (kret P Try.f9 (fun v x x_1 => K v))))) =
  (((0 : Int) ≤ sq ∧ sq ≤ (1000000 : Int)) ∧ ((1000 ≤ l.length → (K (.bool false))) ∧ (l.length < 1000 → (X ⟨(.node (.node (.node (.node .leaf none (.node .leaf (some (.sl 1 0 4 4)) .leaf)) (some (.int IntKind.i64 (10 : Int))) .leaf) (some (.ptr 0 0)) (.node (.node .leaf none (.node .leaf (some (.int IntKind.i64 (3 : Int))) .leaf)) none .leaf)) none (.node (.node (.node .leaf none (.node .leaf (some (.int IntKind.i64 (4 : Int))) .leaf)) none .leaf) none .leaf)), (.node (.node .leaf (some (.cells 33 [(.int IntKind.i64 (5 : Int)), (.int IntKind.i64 (0 : Int)), (.str ((ByteArray.mk #[97]))), (.int IntKind.i64 (3 : Int)), (.int IntKind.i64 (0 : Int)), (.str ((ByteArray.mk #[98]))), (.int IntKind.i64 (5 : Int)), (.int IntKind.i64 (1 : Int)), (.str ((ByteArray.mk #[99]))), (.int IntKind.i64 (3 : Int)), (.int IntKind.i64 (0 : Int)), (.str ((ByteArray.mk #[100])))] 12)) .leaf) (some (.own (O.q (insQ l (W.mkE 5 1 (ByteArray.mk #[99]) sq)) (sq + 1)))) .leaf), 2, 101⟩)))) := by kernel_rfl
theorem t_aw3 (I : Interp O) (K : AV → Prop) (X : St O → Prop) (l : List Rw) (sq : Int) : acode I P (Gm B1) (adraw P (Gm B1)) 0 (cd Try.f9 [true, true, true, false, true, false, false]) (j_aw l sq 3) (lpg 0 [(0, 0), (1, 1)] [1, 3, 23, 24, 25] 2 X (ablock 0 (athen (cd Try.f9 [true, true, true, true]) (fun s => acode I P (Gm B1) (adraw P (Gm B1)) 0 (cd Try.f9 [true, true, true, true]) s (kret P Try.f9 (fun v x x_1 => K v))) (kret P Try.f9 (fun v x x_1 => K v))))) =
  (((0 : Int) ≤ sq ∧ sq ≤ (1000000 : Int)) ∧ ((1000 ≤ l.length → (K (.bool false))) ∧ (l.length < 1000 → (X ⟨(.node (.node (.node (.node .leaf none (.node .leaf (some (.sl 1 0 4 4)) .leaf)) (some (.int IntKind.i64 (10 : Int))) .leaf) (some (.ptr 0 0)) (.node (.node .leaf none (.node .leaf (some (.int IntKind.i64 (4 : Int))) .leaf)) none .leaf)) none (.node (.node (.node .leaf none (.node .leaf (some (.int IntKind.i64 (4 : Int))) .leaf)) none .leaf) none .leaf)), (.node (.node .leaf (some (.cells 33 [(.int IntKind.i64 (5 : Int)), (.int IntKind.i64 (0 : Int)), (.str ((ByteArray.mk #[97]))), (.int IntKind.i64 (3 : Int)), (.int IntKind.i64 (0 : Int)), (.str ((ByteArray.mk #[98]))), (.int IntKind.i64 (5 : Int)), (.int IntKind.i64 (1 : Int)), (.str ((ByteArray.mk #[99]))), (.int IntKind.i64 (3 : Int)), (.int IntKind.i64 (0 : Int)), (.str ((ByteArray.mk #[100])))] 12)) .leaf) (some (.own (O.q (insQ l (W.mkE 3 0 (ByteArray.mk #[100]) sq)) (sq + 1)))) .leaf), 2, 101⟩)))) := by kernel_rfl
theorem t_aw4 (I : Interp O) (K : AV → Prop) (X : St O → Prop) (l : List Rw) (sq : Int) : acode I P (Gm B1) (adraw P (Gm B1)) 0 (cd Try.f9 [true, true, true, false, true, false, false]) (j_aw l sq 4) (lpg 0 [(0, 0), (1, 1)] [1, 3, 23, 24, 25] 2 X (ablock 0 (athen (cd Try.f9 [true, true, true, true]) (fun s => acode I P (Gm B1) (adraw P (Gm B1)) 0 (cd Try.f9 [true, true, true, true]) s (kret P Try.f9 (fun v x x_1 => K v))) (kret P Try.f9 (fun v x x_1 => K v))))) =
  ((l = [] → ((([] : List Rw) = [] → (so [] → ((so [] → (lo 4 [] = [] → ((rest 1 [] = [] → (K (.bool false))) ∧ (∀ (x0 : Rw), (∀ (t1 : List Rw), (rest 1 [] = x0 :: t1 → (so (x0 :: t1) → (K (.bool false))))))))) ∧ (so [] → (0 < (lo 4 []).length → (∀ (c2 : Nat), (∀ (room3 : Nat), ((rest 1 (hi 4 []) = [] → (K (.bool false))) ∧ (∀ (x4 : Rw), (∀ (t5 : List Rw), (rest 1 (hi 4 []) = x4 :: t5 → (so (x4 :: t5) → (K (.bool false)))))))))))))) ∧ (∀ (x6 : Rw), (∀ (t7 : List Rw), (([] : List Rw) = x6 :: t7 → (so (x6 :: t7) → (so t7 → ((so t7 → (lo 4 t7 = [] → ((rest 1 t7 = [] → (K (.bool false))) ∧ (∀ (x8 : Rw), (∀ (t9 : List Rw), (rest 1 t7 = x8 :: t9 → (so (x8 :: t9) → (K (.bool false))))))))) ∧ (so t7 → (0 < (lo 4 t7).length → (∀ (c10 : Nat), (∀ (room11 : Nat), ((rest 1 (hi 4 t7) = [] → (K (.bool false))) ∧ (∀ (x12 : Rw), (∀ (t13 : List Rw), (rest 1 (hi 4 t7) = x12 :: t13 → (so (x12 :: t13) → (K (.bool false))))))))))))))))))) ∧ (∀ (x14 : Rw), (∀ (t15 : List Rw), (l = x14 :: t15 → (so (x14 :: t15) → ((x14 :: t15 = [] → (so [] → ((so [] → (lo 4 [] = [] → ((rest 1 [] = [] → (bsplit (x14.i 0 == 3) fun | true => (K (.bool false)) | false => (K (.bool false)))) ∧ (∀ (x16 : Rw), (∀ (t17 : List Rw), (rest 1 [] = x16 :: t17 → (so (x16 :: t17) → (bsplit (x14.i 0 == 3) fun | true => (K (.bool false)) | false => (K (.bool false)))))))))) ∧ (so [] → (0 < (lo 4 []).length → (∀ (c18 : Nat), (∀ (room19 : Nat), ((rest 1 (hi 4 []) = [] → (bsplit (x14.i 0 == 3) fun | true => (K (.bool false)) | false => (K (.bool false)))) ∧ (∀ (x20 : Rw), (∀ (t21 : List Rw), (rest 1 (hi 4 []) = x20 :: t21 → (so (x20 :: t21) → (bsplit (x14.i 0 == 3) fun | true => (K (.bool false)) | false => (K (.bool false))))))))))))))) ∧ (∀ (x22 : Rw), (∀ (t23 : List Rw), (x14 :: t15 = x22 :: t23 → (so (x22 :: t23) → (so t23 → ((so t23 → (lo 4 t23 = [] → ((rest 1 t23 = [] → (bsplit (x14.i 0 == 3) fun | true => (bsplit ((x22.s 2).toList == (ByteArray.mk #[98]).toList) fun | true => (bsplit ((↑t23.length : Int) == 3) fun | true => (K (.bool false)) | false => (K (.bool false))) | false => (K (.bool false))) | false => (K (.bool false)))) ∧ (∀ (x24 : Rw), (∀ (t25 : List Rw), (rest 1 t23 = x24 :: t25 → (so (x24 :: t25) → (bsplit (x14.i 0 == 3) fun | true => (bsplit ((x22.s 2).toList == (ByteArray.mk #[98]).toList) fun | true => (bsplit ((↑t23.length : Int) == 3) fun | true => (K (.bool false)) | false => (K (.bool false))) | false => (K (.bool false))) | false => (K (.bool false)))))))))) ∧ (so t23 → (0 < (lo 4 t23).length → (∀ (c26 : Nat), (∀ (room27 : Nat), ((rest 1 (hi 4 t23) = [] → (bsplit (x14.i 0 == 3) fun | true => (bsplit ((x22.s 2).toList == (ByteArray.mk #[98]).toList) fun | true => (bsplit ((↑t23.length : Int) == 3) fun | true => (bsplit ((↑(lo 4 t23).length : Int) == 1) fun | true => (must (decide ((0 : Int) ≤ 0 ∧ 0 < (↑(lo 4 t23).length : Int))) (xget (List.map it (lo 4 t23)) 0 fun x28 => (bsplit ((x28.s (0 + 1 + 1)).toList == (ByteArray.mk #[100]).toList) fun | true => (bsplit ((↑(hi 4 t23).length : Int) - (↑(rest 1 (hi 4 t23)).length : Int) == 1) fun | true => (K (.bool false)) | false => (K (.bool false))) | false => (K (.bool false))))) | false => (K (.bool false))) | false => (K (.bool false))) | false => (K (.bool false))) | false => (K (.bool false)))) ∧ (∀ (x29 : Rw), (∀ (t30 : List Rw), (rest 1 (hi 4 t23) = x29 :: t30 → (so (x29 :: t30) → (bsplit (x14.i 0 == 3) fun | true => (bsplit ((x22.s 2).toList == (ByteArray.mk #[98]).toList) fun | true => (bsplit ((↑t23.length : Int) == 3) fun | true => (bsplit ((↑(lo 4 t23).length : Int) == 1) fun | true => (must (decide ((0 : Int) ≤ 0 ∧ 0 < (↑(lo 4 t23).length : Int))) (xget (List.map it (lo 4 t23)) 0 fun x31 => (bsplit ((x31.s (0 + 1 + 1)).toList == (ByteArray.mk #[100]).toList) fun | true => (bsplit ((↑(hi 4 t23).length : Int) - (↑(rest 1 (hi 4 t23)).length : Int) == 1) fun | true => (bsplit ((x29.s 2).toList == (ByteArray.mk #[97]).toList) fun | true => (so t30 → (bsplit ((↑t30.length : Int) == 0) fun | true => (K (.bool true)) | false => (K (.bool false)))) | false => (K (.bool false))) | false => (K (.bool false))) | false => (K (.bool false))))) | false => (K (.bool false))) | false => (K (.bool false))) | false => (K (.bool false))) | false => (K (.bool false)))))))))))))))))))))))) := by kernel_rfl
end W
end Go.Tb

/- Queues: awake. -/
set_option linter.all false
set_option maxRecDepth 100000
namespace Go.Tb.W
open Go Go.Proofs
theorem bs_t {b : Bool} {K : Bool → Prop} (hb : b = true) (h : K true) : bsplit b K := bsplit_both (fun _ => h) (fun hx => by rw [hb] at hx; cases hx)
theorem bs_f {b : Bool} {K : Bool → Prop} (hb : b = false) (h : K false) : bsplit b K := bsplit_both (fun hx => by rw [hb] at hx; cases hx) (fun _ => h)
abbrev eA : Rw := mkE 5 0 ⟨#[97]⟩ 0
abbrev eB : Rw := mkE 3 0 ⟨#[98]⟩ 1
abbrev eC : Rw := mkE 5 1 ⟨#[99]⟩ 2
abbrev eD : Rw := mkE 3 0 ⟨#[100]⟩ 3
variable {I : Interp O} (hI : I.R = pk.R)
include hI
theorem k_awake : ∀ (args : List AV) (K : AV → Prop), c_awake args K → ∀ hp, ACall I P 9 args hp (fun v hp' => K v ∧ hp' = hp) := by
  intro args K h hp
  unfold c_awake at h; split at h
  · refine pcall mix (gB1 hI) (fn := Try.f9) (by kernel_rfl) (by kernel_rfl) (by kernel_rfl) rfl rfl (fun hr => ?_) hp
    refine (t_awake I (fun v => K v ∧ cl v = true)).mpr ⟨fun _ => ?_, fun x t e => by cases e⟩
    refine ALoop.start [(0, 0), (2, 1)] [1, 3, 23, 24, 25] 2 (j_aw [] 0 0) (by kernel_rfl) (by kernel_rfl) ?_
    refine ALoop.stepg [(0, 0), (1, 1)] [1, 3, 23, 24, 25] 2 ?_
    refine (t_aw0 I _ _ [] 0).mpr ⟨by omega, fun h => absurd h (by decide), fun _ => ?_⟩
    have e1 : insQ [] (mkE 5 0 ⟨#[97]⟩ 0) = [eA] := by kernel_rfl
    rw [e1]
    refine ALoop.stepg (s := j_aw [eA] 1 1) [(0, 0), (1, 1)] [1, 3, 23, 24, 25] 2 ?_
    refine (t_aw1 I _ _ [eA] 1).mpr ⟨by omega, fun h => absurd h (by decide), fun _ => ?_⟩
    have e2 : insQ [eA] (mkE 3 0 ⟨#[98]⟩ 1) = [eB, eA] := by kernel_rfl
    rw [e2]
    refine ALoop.stepg (s := j_aw [eB, eA] 2 2) [(0, 0), (1, 1)] [1, 3, 23, 24, 25] 2 ?_
    refine (t_aw2 I _ _ [eB, eA] 2).mpr ⟨by omega, fun h => absurd h (by decide), fun _ => ?_⟩
    have e3 : insQ [eB, eA] (mkE 5 1 ⟨#[99]⟩ 2) = [eB, eA, eC] := by kernel_rfl
    rw [e3]
    refine ALoop.stepg (s := j_aw [eB, eA, eC] 3 3) [(0, 0), (1, 1)] [1, 3, 23, 24, 25] 2 ?_
    refine (t_aw3 I _ _ [eB, eA, eC] 3).mpr ⟨by omega, fun h => absurd h (by decide), fun _ => ?_⟩
    have e4 : insQ [eB, eA, eC] (mkE 3 0 ⟨#[100]⟩ 3) = [eB, eD, eA, eC] := by kernel_rfl
    rw [e4]
    refine ALoop.stepg (s := j_aw [eB, eD, eA, eC] 4 4) [(0, 0), (1, 1)] [1, 3, 23, 24, 25] 2 ?_
    refine (t_aw4 I _ _ [eB, eD, eA, eC] 4).mpr ⟨fun h => by simp at h, fun x t e hs => ?_⟩
    obtain ⟨rfl, rfl⟩ := List.cons.inj e
    refine ⟨fun h => by simp at h, fun x t e hs2 hs3 => ?_⟩
    obtain ⟨rfl, rfl⟩ := List.cons.inj e
    have l1 : lo 4 [eD, eA, eC] = [eD] := by kernel_rfl
    have l2 : hi 4 [eD, eA, eC] = [eA, eC] := by kernel_rfl
    have l3 : rest 1 [eA, eC] = [eA] := by kernel_rfl
    rw [l1, l2, l3]
    refine ⟨fun _ h => by simp at h, fun _ _ c room => ⟨fun h => by simp at h, fun x t e hs4 => ?_⟩⟩
    obtain ⟨rfl, rfl⟩ := List.cons.inj e
    refine bs_t (by decide) (bs_t (beq_self_eq_true _) (bs_t (by decide) (bs_t (by decide) (must_mk (by decide) (xget_mk rfl (bs_t (beq_self_eq_true _) (bs_t (by decide) (bs_t (beq_self_eq_true _) (fun _ => bs_t (by decide) ⟨h, rfl⟩)))))))))
  · exact h.elim
theorem gB2 : GOk I P (Gm B2) := Gm.consP (gB1 hI) (k_awake hI)
end Go.Tb.W

/- Queues: the laws' loops, as they are met. -/
set_option linter.all false
set_option maxRecDepth 100000
namespace Go.Tb.W
open Go Go.Proofs
abbrev xO (ob : Obj) (xs : List Rw) : AO O := .out ob [.i .i8] xs
abbrev wO (l : List Rw) (sq : Int) : AO O := .own (.q l sq)
noncomputable abbrev j_fullA (more : Int) (q : List Rw) (sq i : Int) : St O := ⟨Tr.setL [(0, .int .u8 more), (3, .ptr 0 0), (4, .int .i64 i)] .leaf, Tr.setL [(0, wO q sq)] .leaf, 1, 54⟩
noncomputable abbrev j_sortA (l c : Nat) (p : Bool) (ob : Obj) (xs : List Rw) (n : Int) (q : List Rw) (sq i : Int) : St O := ⟨Tr.setL [(0, .slq 0 l c p), (3, .ptr 1 0), (4, .int .i64 n), (5, .int .i64 i)] .leaf, Tr.setL [(0, xO ob xs), (1, wO q sq)] .leaf, 2, 108⟩
noncomputable abbrev j_untlA (l c : Nat) (p : Bool) (ob : Obj) (xs : List Rw) (t u n : Int) (q : List Rw) (sq e a i : Int) : St O := ⟨Tr.setL [(0, .slq 0 l c p), (1, .int .i8 t), (2, .int .i8 u), (7, .ptr 1 0), (8, .int .i64 n), (9, .int .i64 e), (10, .int .i64 a), (11, .int .i64 i)] .leaf, Tr.setL [(0, xO ob xs), (1, wO q sq)] .leaf, 2, 113⟩
noncomputable abbrev j_dropA (l c : Nat) (p : Bool) (ob : Obj) (xs : List Rw) (n k : Int) (q : List Rw) (sq : Int) (r : List Rw) (sr g i : Int) : St O := ⟨Tr.setL [(0, .slq 0 l c p), (5, .ptr 1 0), (6, .ptr 2 0), (7, .int .i64 n), (8, .int .i64 k), (9, .int .i64 g), (10, .int .i64 i)] .leaf, Tr.setL [(0, xO ob xs), (1, wO q sq), (2, wO r sr)] .leaf, 3, 95⟩
abbrev mI : MSh := ⟨.i .i64, [.i .i64], false⟩
noncomputable abbrev j_latA (l c : Nat) (p : Bool) (ob : Obj) (xs : List Rw) (q : List Rw) (sq : Int) (es : List (Rw × Nat)) (clk : Nat) (i : Int) : St O := ⟨Tr.setL [(0, .slq 0 l c p), (3, .ptr 1 0), (4, .map 2), (5, .int .i64 i)] .leaf, Tr.setL [(0, xO ob xs), (1, wO q sq), (2, .mp mI es clk)] .leaf, 3, 88⟩
abbrev mB : MSh := ⟨.i .i64, [.b], false⟩
abbrev tO (a b : Int) (s : ByteArray) : AO O := .cells 33 [.int .i64 a, .int .i64 b, .str s] 3
noncomputable abbrev j_fullB (more : Int) (q : List Rw) (sq i : Int) : St O := ⟨Tr.setL [(0, .int .u8 more), (3, .ptr 0 0), (5, .int .i64 i)] .leaf, Tr.setL [(0, wO q sq)] .leaf, 1, 54⟩
noncomputable abbrev j_sortB (l c : Nat) (p : Bool) (ob : Obj) (xs : List Rw) (n : Int) (q : List Rw) (sq : Int) (es : List (Rw × Nat)) (clk : Nat) (a b : Int) (s : ByteArray) (i : Int) : St O := ⟨Tr.setL [(0, .slq 0 l c p), (3, .ptr 1 0), (4, .int .i64 n), (6, .map 2), (7, .ptr 3 0), (8, .int .i64 i)] .leaf, Tr.setL [(0, xO ob xs), (1, wO q sq), (2, .mp mB es clk), (3, tO a b s)] .leaf, 4, 108⟩
noncomputable abbrev j_untlB (ob : Obj) (xs : List Rw) (t u n : Int) (q : List Rw) (sq e a : Int) : St O := ⟨Tr.setL [(1, .int .i8 t), (2, .int .i8 u), (7, .ptr 1 0), (8, .int .i64 n), (9, .int .i64 e), (10, .int .i64 a), (12, .nils), (56, .nils), (57, .int .i64 0), (58, .int .i64 0)] .leaf, Tr.setL [(0, xO ob xs), (1, wO q sq)] .leaf, 2, 113⟩
noncomputable abbrev j_untlC (ob : Obj) (xs : List Rw) (t u n : Int) (q : List Rw) (sq e a : Int) (m d : Nat) (ys : List Rw) (room : Nat) (i : Int) : St O := ⟨Tr.setL [(1, .int .i8 t), (2, .int .i8 u), (7, .ptr 1 0), (8, .int .i64 n), (9, .int .i64 e), (10, .int .i64 a), (12, .sl 2 0 m d), (56, .sl 2 0 m d), (57, .int .i64 m), (58, .int .i64 i)] .leaf, Tr.setL [(0, xO ob xs), (1, wO q sq), (2, iO ys room)] .leaf, 3, 113⟩
noncomputable abbrev j_dropB (ob : Obj) (xs : List Rw) (k : Int) (q : List Rw) (sq : Int) (r : List Rw) (sr : Int) : St O := ⟨Tr.setL [(5, .ptr 1 0), (6, .ptr 2 0), (8, .int .i64 k)] .leaf, Tr.setL [(0, xO ob xs), (1, wO q sq), (2, wO r sr)] .leaf, 3, 95⟩
noncomputable abbrev j_latB (l c : Nat) (p : Bool) (ob : Obj) (xs : List Rw) (q : List Rw) (sq : Int) (es : List (Rw × Nat)) (clk : Nat) (i a b : Int) (s : ByteArray) (since : Nat) (seen : List Nat) (last : Nat) (cur : Option (Rw × Nat)) : St O := ⟨Tr.setL [(0, .slq 0 l c p), (3, .ptr 1 0), (4, .map 2), (5, .int .i64 i), (7, .ptr 3 0), (57, .ptr 4 0)] .leaf, Tr.setL [(0, xO ob xs), (1, wO q sq), (2, .mp mI es clk), (3, tO a b s), (4, .it 2 since seen last cur)] .leaf, 5, 88⟩
noncomputable abbrev j_latC (ob : Obj) (xs : List Rw) (q : List Rw) (sq : Int) (es : List (Rw × Nat)) (clk : Nat) (sum : Int) (since : Nat) (seen : List Nat) (last : Nat) (cur : Option (Rw × Nat)) : St O := ⟨Tr.setL [(3, .ptr 1 0), (11, .int .i64 sum), (77, .ptr 3 0)] .leaf, Tr.setL [(0, xO ob xs), (1, wO q sq), (2, .mp mI es clk), (3, .it 2 since seen last cur)] .leaf, 4, 88⟩
end Go.Tb.W

