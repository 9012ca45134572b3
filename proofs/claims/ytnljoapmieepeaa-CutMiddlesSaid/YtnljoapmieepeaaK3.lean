/- Claims: edges, what is agreed on, and whose claims have it: contracts. -/
import Derived.Test.YtnljoapmieepeaaK1
set_option linter.all false
set_option maxRecDepth 100000
namespace Go.Tb.W
open Go Go.Proofs
abbrev fnO : AV := .fn (.func 21) [.agg []] []
def edg (p : Int × Int) : Rw := rwA [.int .i64 p.1, .int .i64 p.2]
/-- Rows that are edges, and nothing else. -/
def NE (xs : List Rw) : Prop := ∀ x ∈ xs, edg (x.i 0, x.i 1) = x
def risE (ys : List Rw) : Prop := ys.Pairwise (fun x y => x.i 0 ≤ y.i 0)
def c_of (args : List AV) (K : AV → Prop) : Prop := match args with
  | [.agg [], .agg [.int .i64 a, .int .i64 m], .agg [.int .i64 b, .int .i64 n]] => K (.int .i64 (if a < b then -1 else if b < a then 1 else 0))
  | _ => False
def c_sort (args : List AV) (hp : Tr (AO O)) (nx : Nat) (K : AV → Tr (AO O) → Nat → Prop) : Prop := match args with
  | [.sl n 0 l c, .fn (.func 21) [.agg []] []] => match Nat.blt n 16777215, hp.get n with
    | true, some (.rows 48 [.i .i64, .i .i64] xs room) => (l = xs.length ∧ l ≤ 12 ∧ NE xs) ∧ ∀ ys : List Rw, ys.Perm xs → risE ys → K (.tup []) (hp.set n (some (eO ys room))) nx
    | _, _ => False
  | [.nils, .fn (.func 21) [.agg []] []] => K (.tup []) hp nx
  | _ => False
/-- The edges of claims, as they come. -/
def rawE (es : List (Rw × Nat)) : List (Int × Int) := es.flatMap fun e => [(e.1.i 2, 1), (e.1.i 3 + 1, -1)]
/-- One more edge: there, or at the place that was the last one. -/
def putE (out : List (Int × Int)) (x : Int × Int) : List (Int × Int) := match out.getLast? with
  | some y => if y.1 = x.1 then out.dropLast ++ [(y.1, y.2 + x.2)] else out ++ [x]
  | none => [x]
def joinE (l : List (Int × Int)) : List (Int × Int) := l.foldl putE []
def insP (x : Int × Int) : List (Int × Int) → List (Int × Int)
  | [] => [x]
  | y :: l => if x.1 ≤ y.1 then x :: y :: l else y :: insP x l
def srtP : List (Int × Int) → List (Int × Int)
  | [] => []
  | x :: l => insP x (srtP l)
/-- The edges, rising, each place once. -/
def edgeF (es : List (Rw × Nat)) : List (Int × Int) := joinE (srtP (rawE es))
structure okM (es : List (Rw × Nat)) (clk : Nat) : Prop where
  key : es.Pairwise (fun x y => x.1.i 0 ≠ y.1.i 0)
  brn : es.Pairwise (fun x y => x.2 ≠ y.2)
  old : ∀ e ∈ es, e.2 < clk
  ln : es.length ≤ 6
  bd : ∀ e ∈ es, -1152921504606846976 ≤ e.1.i 2 ∧ e.1.i 2 ≤ e.1.i 3 ∧ e.1.i 3 ≤ 1152921504606846976
  id : ∀ e ∈ es, e.1.i 1 = e.1.i 0
def c_edges (args : List AV) (hp : Tr (AO O)) (nx : Nat) (K : AV → Tr (AO O) → Nat → Prop) : Prop := match args with
  | [.map n] => match Nat.blt n 16777215, hp.get n, Nat.blt nx 16777215, hp.get nx with
    | true, some (.mp ⟨.i .i64, [.i .i64, .i .i64, .i .i64], true⟩ es clk), true, none => okM es clk ∧ (es = [] → K .nils (hp.set n (some (mO es clk))) nx) ∧ (es ≠ [] → ∀ c room, K (.sl nx 0 (edgeF es).length c) ((hp.set nx (some (eO ((edgeF es).map edg) room))).set n (some (mO es clk))) (nx + 1))
    | _, _, _, _ => False
  | _ => False
def c_blen (args : List AV) (K : AV → Prop) : Prop := match args with
  | [.int .u64 n] => (0 ≤ n ∧ n ≤ 1000) ∧ ∀ r : Int, 0 ≤ r → r ≤ 64 → K (.int .i64 r)
  | _ => False
/-- The library's sort of a few. -/
def c_ins (args : List AV) (hp : Tr (AO O)) (nx : Nat) (K : AV → Tr (AO O) → Nat → Prop) : Prop := match args with
  | [.sl n 0 l c, .int .i64 a, .int .i64 b, .fn (.func 21) [.agg []] []] => match Nat.blt n 16777215, hp.get n with
    | true, some (.rows 48 [.i .i64, .i .i64] xs room) => (l = xs.length ∧ (a ≤ 0 ∧ 0 ≤ a) ∧ b = (l : Int) ∧ l ≤ 12 ∧ NE xs) ∧ ∀ ys : List Rw, ys.Perm xs → risE ys → K (.tup []) (hp.set n (some (eO ys room))) nx
    | _, _ => False
  | [.nils, .int .i64 a, .int .i64 b, .fn (.func 21) [.agg []] []] => ((a ≤ 0 ∧ 0 ≤ a) ∧ (b ≤ 0 ∧ 0 ≤ b)) ∧ K (.tup []) hp nx
  | _ => False
def c_pdq (args : List AV) (hp : Tr (AO O)) (nx : Nat) (K : AV → Tr (AO O) → Nat → Prop) : Prop := match args with
  | [.sl n 0 l c, .int .i64 a, .int .i64 b, .int .i64 m, .fn (.func 21) [.agg []] []] => match Nat.blt n 16777215, hp.get n with
    | true, some (.rows 48 [.i .i64, .i .i64] xs room) => (l = xs.length ∧ (a ≤ 0 ∧ 0 ≤ a) ∧ b = (l : Int) ∧ l ≤ 12 ∧ NE xs) ∧ ∀ ys : List Rw, ys.Perm xs → risE ys → K (.tup []) (hp.set n (some (eO ys room))) nx
    | _, _ => False
  | [.nils, .int .i64 a, .int .i64 b, .int .i64 m, .fn (.func 21) [.agg []] []] => ((a ≤ 0 ∧ 0 ≤ a) ∧ (b ≤ 0 ∧ 0 ≤ b)) ∧ K (.tup []) hp nx
  | _ => False
def c_nan (args : List AV) (K : AV → Prop) : Prop := match args with
  | [.int .i64 a] => K (.bool false)
  | _ => False
def c_cmp (args : List AV) (K : AV → Prop) : Prop := match args with
  | [.int .i64 a, .int .i64 b] => K (.int .i64 (if a < b then -1 else if b < a then 1 else 0))
  | _ => False
noncomputable abbrev S1 : List (FuncId × Sp O) := (40, .p c_nan) :: []
noncomputable abbrev S2 : List (FuncId × Sp O) := (27, .p c_cmp) :: S1
noncomputable abbrev S3 : List (FuncId × Sp O) := (21, .p c_of) :: S2
noncomputable abbrev S4 : List (FuncId × Sp O) := (30, .h c_ins) :: S3
noncomputable abbrev S5 : List (FuncId × Sp O) := (25, .h c_pdq) :: (26, .p c_blen) :: S4
noncomputable abbrev j_in1 (l c room : Nat) (xs : List Rw) (i : Int) : St O := ⟨Tr.setL [(0, .sl 0 0 l c), (1, .int .i64 0), (2, .int .i64 l), (3, fnO), (8, .int .i64 i)] .leaf, Tr.setL [(0, eO xs room)] .leaf, 1, 53⟩
noncomputable abbrev j_in2 (l c room : Nat) (xs : List Rw) (i j : Int) : St O := ⟨Tr.setL [(0, .sl 0 0 l c), (1, .int .i64 0), (2, .int .i64 l), (3, fnO), (8, .int .i64 i), (9, .int .i64 j)] .leaf, Tr.setL [(0, eO xs room)] .leaf, 1, 53⟩
noncomputable abbrev j_inN : St O := ⟨Tr.setL [(0, .nils), (1, .int .i64 0), (2, .int .i64 0), (3, fnO), (8, .int .i64 1)] .leaf, .leaf, 0, 53⟩
noncomputable abbrev j_pdN (m : Int) : St O := ⟨Tr.setL [(0, .nils), (1, .int .i64 0), (2, .int .i64 0), (3, .int .i64 m), (4, fnO), (10, .bool true), (11, .bool true)] .leaf, .leaf, 0, 148⟩
noncomputable abbrev j_pd (l c room : Nat) (xs : List Rw) (m : Int) : St O := ⟨Tr.setL [(0, .sl 0 0 l c), (1, .int .i64 0), (2, .int .i64 l), (3, .int .i64 m), (4, fnO), (10, .bool true), (11, .bool true)] .leaf, Tr.setL [(0, eO xs room)] .leaf, 1, 148⟩
noncomputable abbrev A5 : List (FuncId × Sp O) := (20, .h c_sort) :: []
noncomputable abbrev A6 : List (FuncId × Sp O) := (16, .h c_edges) :: A4
noncomputable abbrev j_edA (es : List (Rw × Nat)) (clk since : Nat) (seen : List Nat) (last : Nat) (cur : Option (Rw × Nat)) : St O := ⟨Tr.setL [(3, .nils), (11, .ptr 1 0)] .leaf, Tr.setL [(0, mO es clk), (1, .it 0 since seen last cur)] .leaf, 3, 68⟩
noncomputable abbrev j_edB (es : List (Rw × Nat)) (clk since : Nat) (seen : List Nat) (last : Nat) (cur : Option (Rw × Nat)) (n c : Nat) (xs : List Rw) (room : Nat) : St O := ⟨Tr.setL [(3, .sl 2 0 n c), (11, .ptr 1 0)] .leaf, Tr.setL [(0, mO es clk), (1, .it 0 since seen last cur), (2, eO xs room)] .leaf, 3, 68⟩
noncomputable abbrev j_agN (es : List (Rw × Nat)) (clk : Nat) : St O := ⟨Tr.setL [(2, .int .i64 0), (3, .int .i64 0), (4, .int .i64 0), (6, .map 0), (7, .int .i64 0), (8, .bool false), (21, .nils), (22, .int .i64 0), (23, .int .i64 0)] .leaf, Tr.setL [(0, mO es clk)] .leaf, 1, 56⟩
noncomputable abbrev j_agR (o : AO O) (es : List (Rw × Nat)) (clk : Nat) (lo hi vo nw : Int) (op : Bool) (n c : Nat) (ys : List Rw) (room : Nat) (i : Int) : St O := ⟨Tr.setL [(2, .int .i64 lo), (3, .int .i64 hi), (4, .int .i64 vo), (6, .map 1), (7, .int .i64 nw), (8, .bool op), (21, .sl 2 0 n c), (22, .int .i64 n), (23, .int .i64 i)] .leaf, Tr.setL [(0, o), (1, mO es clk), (2, eO ys room)] .leaf, 3, 56⟩
noncomputable abbrev j_agQ (o : AO O) (es : List (Rw × Nat)) (clk : Nat) : St O := ⟨Tr.setL [(2, .int .i64 0), (3, .int .i64 0), (4, .int .i64 0), (6, .map 1), (7, .int .i64 0), (8, .bool false), (21, .nils), (22, .int .i64 0), (23, .int .i64 0)] .leaf, Tr.setL [(0, o), (1, mO es clk)] .leaf, 2, 56⟩
noncomputable abbrev j_me0 (es : List (Rw × Nat)) (clk since : Nat) (seen : List Nat) (last : Nat) (cur : Option (Rw × Nat)) : St O := ⟨Tr.setL [(6, .nils), (30, .nils), (31, .int .i64 0), (32, .int .i64 0)] .leaf, Tr.setL [(0, mO es clk), (1, .it 0 since seen last cur)] .leaf, 3, 68⟩
noncomputable abbrev j_meA (es : List (Rw × Nat)) (clk since : Nat) (seen : List Nat) (last : Nat) (cur : Option (Rw × Nat)) (n c : Nat) (ys : List Rw) (room : Nat) (i : Int) : St O := ⟨Tr.setL [(6, .nils), (30, .sl 2 0 n c), (31, .int .i64 n), (32, .int .i64 i)] .leaf, Tr.setL [(0, mO es clk), (1, .it 0 since seen last cur), (2, eO ys room)] .leaf, 4, 68⟩
noncomputable abbrev j_meB (es : List (Rw × Nat)) (clk since : Nat) (seen : List Nat) (last : Nat) (cur : Option (Rw × Nat)) (n c : Nat) (ys : List Rw) (room : Nat) (i : Int) (k d : Nat) (out : List Rw) (r2 : Nat) : St O := ⟨Tr.setL [(6, .sl 3 0 k d), (30, .sl 2 0 n c), (31, .int .i64 n), (32, .int .i64 i)] .leaf, Tr.setL [(0, mO es clk), (1, .it 0 since seen last cur), (2, eO ys room), (3, eO out r2)] .leaf, 4, 68⟩
end Go.Tb.W
