/- Texts of this proof, run together. -/
import Derived.Test.YtnljoapmieepeaaM22
import Derived.Test.YtnljoapmieepeaaProg
import Derived.Shelf.SlIterI.Nil
import Derived.Shelf.SortM.Plain
import Derived.Shelf.SortM.SortNone
import Derived.Shelf.Small.Bits
import Derived.Ground.GgzProg
import Derived.Ground.SlgmProg
import Derived.Ground.NamesProg
/- Claims: what the functions that judge them tell and leave. -/
set_option linter.all false
set_option maxRecDepth 100000
namespace Go.Tb.W
open Go Go.Proofs
noncomputable abbrev P : Program := Try.prog
/-- No object of a layer's own is needed here. -/
abbrev O := Unit
def both (n m : Nat) : Bool := Nat.blt n 16777215 && (Nat.blt m 16777215 && !Nat.beq n m)
abbrev cS : List Sh := [.i .i64, .i .i64, .i .i64]
abbrev eS : List Sh := [.i .i64, .i .i64]
abbrev cO (xs : List Rw) (room : Nat) : AO O := .rows 31 cS xs room
abbrev oO (ob : Obj) (xs : List Rw) : AO O := .out ob cS xs
abbrev eO (xs : List Rw) (room : Nat) : AO O := .rows 48 eS xs room
abbrev mC : MSh := ⟨.i .i64, [.i .i64, .i .i64, .i .i64], true⟩
abbrev mO (es : List (Rw × Nat)) (clk : Nat) : AO O := .mp mC es clk
def setI (x : Rw) (j : Nat) (v : Int) : Rw := ⟨fun q => match q.beq j with | true => v | false => x.i q, x.b, x.s⟩
/-- May a claim be? -/
def mayC (id lo hi : Int) : Bool := decide (0 ≤ id ∧ lo ≤ hi ∧ -1152921504606846976 ≤ lo ∧ hi ≤ 1152921504606846976)
def mayR (x : Rw) : Bool := mayC (x.i 0) (x.i 1) (x.i 2)
def c_may (args : List AV) (K : AV → Prop) : Prop := match args with
  | [.agg [.int .i64 id, .int .i64 lo, .int .i64 hi]] => K (.bool (mayC id lo hi))
  | _ => False
def c_not (args : List AV) (K : AV → Prop) : Prop := match args with
  | [.agg [.int .i64 id, .int .i64 lo, .int .i64 hi]] => K (.bool (!mayC id lo hi))
  | _ => False
/-- What a slice of claims tells: there is none, or some that lie there. -/
def slC (hp : Tr (AO O)) (v : AV) (K : List Rw → (Tr (AO O) → Tr (AO O)) → Prop) : Prop := match v with
  | .nils => K [] (fun hp => hp)
  | .sl n 0 l c => match Nat.blt n 16777215, hp.get n with
    | true, some (.rows 31 [.i .i64, .i .i64, .i .i64] xs room) => l ≤ xs.length ∧ K (xs.take l) (fun hp => hp.set n (some (cO xs room)))
    | true, some (.out ob [.i .i64, .i .i64, .i .i64] xs) => l ≤ xs.length ∧ K (xs.take l) (fun hp => hp.set n (some (oO ob xs)))
    | _, _ => False
  | _ => False
def badI (xs : List Rw) : Int := match xs.findIdx? (fun x => !mayR x) with | some i => (i : Int) | none => -1
def c_index (args : List AV) (hp : Tr (AO O)) (nx : Nat) (K : AV → Tr (AO O) → Nat → Prop) : Prop := match args with
  | [v, .fn (.func 14) [] []] => slC hp v fun xs f => K (.int .i64 (badI xs)) (f hp) nx
  | _ => False
def c_contains (args : List AV) (hp : Tr (AO O)) (nx : Nat) (K : AV → Tr (AO O) → Nat → Prop) : Prop := match args with
  | [v, .fn (.func 14) [] []] => slC hp v fun xs f => K (.bool (decide (badI xs ≥ 0))) (f hp) nx
  | _ => False
noncomputable abbrev N0 : List (FuncId × Sp O) := []
noncomputable abbrev A1 : List (FuncId × Sp O) := (12, .p c_may) :: []
noncomputable abbrev A2 : List (FuncId × Sp O) := (14, .p c_not) :: A1
noncomputable abbrev A3 : List (FuncId × Sp O) := (19, .h c_index) :: A2
/-- The claims that count, by their ids. -/
def lastS (s : List (Rw × Nat) × Nat) (x : Rw) : List (Rw × Nat) × Nat := (mput (rwA [.int .i64 (x.i 0), .int .i64 (x.i 0), .int .i64 (x.i 1), .int .i64 (x.i 2)]) (.int .i64 (x.i 0)) s.2 s.1, mclk (.int .i64 (x.i 0)) s.1 s.2)
def lastF (xs : List Rw) : List (Rw × Nat) × Nat := xs.foldl lastS ([], 0)
def c_last (args : List AV) (hp : Tr (AO O)) (nx : Nat) (K : AV → Tr (AO O) → Nat → Prop) : Prop := match args with
  | [v] => slC hp v fun xs f => match Nat.blt nx 16777215, hp.get nx with
    | true, none => K (.map nx) (f (hp.set nx (some (mO (lastF xs).1 (lastF xs).2)))) (nx + 1)
    | _, _ => False
  | _ => False
noncomputable abbrev fnA : AV := .fn (.func 14) [] []
noncomputable abbrev j_ixN : St O := ⟨Tr.setL [(0, .nils), (1, fnA), (7, .int .i64 0), (8, .int .i64 0)] .leaf, .leaf, 0, 19⟩
noncomputable abbrev j_ixR (l c room : Nat) (xs : List Rw) (i : Int) : St O := ⟨Tr.setL [(0, .sl 0 0 l c), (1, fnA), (7, .int .i64 l), (8, .int .i64 i)] .leaf, Tr.setL [(0, cO xs room)] .leaf, 1, 19⟩
noncomputable abbrev j_ixO (l c : Nat) (ob : Obj) (xs : List Rw) (i : Int) : St O := ⟨Tr.setL [(0, .sl 0 0 l c), (1, fnA), (7, .int .i64 l), (8, .int .i64 i)] .leaf, Tr.setL [(0, oO ob xs)] .leaf, 1, 19⟩
noncomputable abbrev j_laN : St O := ⟨Tr.setL [(3, .map 0), (7, .nils), (8, .int .i64 0), (9, .int .i64 0)] .leaf, Tr.setL [(0, mO [] 0)] .leaf, 1, 19⟩
noncomputable abbrev j_laR (l c room : Nat) (xs : List Rw) (es : List (Rw × Nat)) (clk : Nat) (i : Int) : St O := ⟨Tr.setL [(3, .map 1), (7, .sl 0 0 l c), (8, .int .i64 l), (9, .int .i64 i)] .leaf, Tr.setL [(0, cO xs room), (1, mO es clk)] .leaf, 2, 19⟩
noncomputable abbrev j_laO (l c : Nat) (ob : Obj) (xs : List Rw) (es : List (Rw × Nat)) (clk : Nat) (i : Int) : St O := ⟨Tr.setL [(3, .map 1), (7, .sl 0 0 l c), (8, .int .i64 l), (9, .int .i64 i)] .leaf, Tr.setL [(0, oO ob xs), (1, mO es clk)] .leaf, 2, 19⟩
noncomputable abbrev A4 : List (FuncId × Sp O) := (13, .h c_contains) :: (15, .h c_last) :: []
end Go.Tb.W

/- Claims: edges, what is agreed on, and whose claims have it: contracts. -/
set_option linter.all false
set_option maxRecDepth 100000
namespace Go.Tb.W
open Go Go.Proofs
abbrev fnO : AV := .fn (.func 21) [.agg []] []
def edg (p : Int × Int) : Rw := rwA [.int .i64 p.1, .int .i64 p.2]
/-- Rows that are edges, and nothing else. -/
def NE (xs : List Rw) : Prop := ∀ x ∈ xs, edg (x.i 0, x.i 1) = x
def risE (ys : List Rw) : Prop := ys.Pairwise (fun x y => x.i 0 ≤ y.i 0)
def c_of (args : List AV) (K : AV → Prop) : Prop := match args with
  | [.agg [], .agg [.int .i64 a, .int .i64 m], .agg [.int .i64 b, .int .i64 n]] => K (.int .i64 (if a < b then -1 else if b < a then 1 else 0))
  | _ => False
def c_sort (args : List AV) (hp : Tr (AO O)) (nx : Nat) (K : AV → Tr (AO O) → Nat → Prop) : Prop := match args with
  | [.sl n 0 l c, .fn (.func 21) [.agg []] []] => match Nat.blt n 16777215, hp.get n with
    | true, some (.rows 48 [.i .i64, .i .i64] xs room) => (l = xs.length ∧ l ≤ 1000 ∧ NE xs) ∧ ∀ ys : List Rw, ys.Perm xs → risE ys → K (.tup []) (hp.set n (some (eO ys room))) nx
    | _, _ => False
  | [.nils, .fn (.func 21) [.agg []] []] => K (.tup []) hp nx
  | _ => False
/-- The edges of claims, as they come. -/
def rawE (es : List (Rw × Nat)) : List (Int × Int) := es.flatMap fun e => [(e.1.i 2, 1), (e.1.i 3 + 1, -1)]
/-- One more edge: there, or at the place that was the last one. -/
def putE (out : List (Int × Int)) (x : Int × Int) : List (Int × Int) := match out.getLast? with
  | some y => if y.1 = x.1 then out.dropLast ++ [(y.1, y.2 + x.2)] else out ++ [x]
  | none => [x]
def joinE (l : List (Int × Int)) : List (Int × Int) := l.foldl putE []
def insP (x : Int × Int) : List (Int × Int) → List (Int × Int)
  | [] => [x]
  | y :: l => if x.1 ≤ y.1 then x :: y :: l else y :: insP x l
def srtP : List (Int × Int) → List (Int × Int)
  | [] => []
  | x :: l => insP x (srtP l)
/-- The edges, rising, each place once. -/
def edgeF (es : List (Rw × Nat)) : List (Int × Int) := joinE (srtP (rawE es))
structure okM (es : List (Rw × Nat)) (clk : Nat) : Prop where
  key : es.Pairwise (fun x y => x.1.i 0 ≠ y.1.i 0)
  brn : es.Pairwise (fun x y => x.2 ≠ y.2)
  old : ∀ e ∈ es, e.2 < clk
  ln : es.length ≤ 64
  bd : ∀ e ∈ es, -1152921504606846976 ≤ e.1.i 2 ∧ e.1.i 2 ≤ e.1.i 3 ∧ e.1.i 3 ≤ 1152921504606846976
  id : ∀ e ∈ es, e.1.i 1 = e.1.i 0
def c_edges (args : List AV) (hp : Tr (AO O)) (nx : Nat) (K : AV → Tr (AO O) → Nat → Prop) : Prop := match args with
  | [.map n] => match Nat.blt n 16777215, hp.get n, Nat.blt nx 16777215, hp.get nx with
    | true, some (.mp ⟨.i .i64, [.i .i64, .i .i64, .i .i64], true⟩ es clk), true, none => okM es clk ∧ (es = [] → K .nils (hp.set n (some (mO es clk))) nx) ∧ (es ≠ [] → ∀ c room, K (.sl nx 0 (edgeF es).length c) ((hp.set nx (some (eO ((edgeF es).map edg) room))).set n (some (mO es clk))) (nx + 1))
    | _, _, _, _ => False
  | _ => False
def c_blen (args : List AV) (K : AV → Prop) : Prop := match args with
  | [.int .u64 n] => (0 ≤ n ∧ n ≤ 1000) ∧ ∀ r : Int, 0 ≤ r → r ≤ 64 → K (.int .i64 r)
  | _ => False
/-- The library's sort of a few. -/
def c_ins (args : List AV) (hp : Tr (AO O)) (nx : Nat) (K : AV → Tr (AO O) → Nat → Prop) : Prop := match args with
  | [.sl n 0 l c, .int .i64 a, .int .i64 b, .fn (.func 21) [.agg []] []] => match Nat.blt n 16777215, hp.get n with
    | true, some (.rows 48 [.i .i64, .i .i64] xs room) => (l = xs.length ∧ (a ≤ 0 ∧ 0 ≤ a) ∧ b = (l : Int) ∧ l ≤ 12 ∧ NE xs) ∧ ∀ ys : List Rw, ys.Perm xs → risE ys → K (.tup []) (hp.set n (some (eO ys room))) nx
    | _, _ => False
  | [.nils, .int .i64 a, .int .i64 b, .fn (.func 21) [.agg []] []] => ((a ≤ 0 ∧ 0 ≤ a) ∧ (b ≤ 0 ∧ 0 ≤ b)) ∧ K (.tup []) hp nx
  | _ => False
def c_pdq (args : List AV) (hp : Tr (AO O)) (nx : Nat) (K : AV → Tr (AO O) → Nat → Prop) : Prop := match args with
  | [.sl n 0 l c, .int .i64 a, .int .i64 b, .int .i64 m, .fn (.func 21) [.agg []] []] => match Nat.blt n 16777215, hp.get n with
    | true, some (.rows 48 [.i .i64, .i .i64] xs room) => (l = xs.length ∧ (a ≤ 0 ∧ 0 ≤ a) ∧ b = (l : Int) ∧ l ≤ 12 ∧ NE xs) ∧ ∀ ys : List Rw, ys.Perm xs → risE ys → K (.tup []) (hp.set n (some (eO ys room))) nx
    | _, _ => False
  | [.nils, .int .i64 a, .int .i64 b, .int .i64 m, .fn (.func 21) [.agg []] []] => ((a ≤ 0 ∧ 0 ≤ a) ∧ (b ≤ 0 ∧ 0 ≤ b)) ∧ K (.tup []) hp nx
  | _ => False
def c_nan (args : List AV) (K : AV → Prop) : Prop := match args with
  | [.int .i64 a] => K (.bool false)
  | _ => False
def c_cmp (args : List AV) (K : AV → Prop) : Prop := match args with
  | [.int .i64 a, .int .i64 b] => K (.int .i64 (if a < b then -1 else if b < a then 1 else 0))
  | _ => False
noncomputable abbrev S1 : List (FuncId × Sp O) := (40, .p c_nan) :: []
noncomputable abbrev S2 : List (FuncId × Sp O) := (27, .p c_cmp) :: S1
noncomputable abbrev S3 : List (FuncId × Sp O) := (21, .p c_of) :: S2
noncomputable abbrev S4 : List (FuncId × Sp O) := (30, .h c_ins) :: S3
noncomputable abbrev S5 : List (FuncId × Sp O) := (25, .h c_pdq) :: (26, .p c_blen) :: S4
noncomputable abbrev j_in1 (l c room : Nat) (xs : List Rw) (i : Int) : St O := ⟨Tr.setL [(0, .sl 0 0 l c), (1, .int .i64 0), (2, .int .i64 l), (3, fnO), (8, .int .i64 i)] .leaf, Tr.setL [(0, eO xs room)] .leaf, 1, 53⟩
noncomputable abbrev j_in2 (l c room : Nat) (xs : List Rw) (i j : Int) : St O := ⟨Tr.setL [(0, .sl 0 0 l c), (1, .int .i64 0), (2, .int .i64 l), (3, fnO), (8, .int .i64 i), (9, .int .i64 j)] .leaf, Tr.setL [(0, eO xs room)] .leaf, 1, 53⟩
noncomputable abbrev j_inN : St O := ⟨Tr.setL [(0, .nils), (1, .int .i64 0), (2, .int .i64 0), (3, fnO), (8, .int .i64 1)] .leaf, .leaf, 0, 53⟩
noncomputable abbrev j_pdN (m : Int) : St O := ⟨Tr.setL [(0, .nils), (1, .int .i64 0), (2, .int .i64 0), (3, .int .i64 m), (4, fnO), (10, .bool true), (11, .bool true)] .leaf, .leaf, 0, 148⟩
noncomputable abbrev j_pd (l c room : Nat) (xs : List Rw) (m : Int) : St O := ⟨Tr.setL [(0, .sl 0 0 l c), (1, .int .i64 0), (2, .int .i64 l), (3, .int .i64 m), (4, fnO), (10, .bool true), (11, .bool true)] .leaf, Tr.setL [(0, eO xs room)] .leaf, 1, 148⟩
noncomputable abbrev A5 : List (FuncId × Sp O) := (20, .h c_sort) :: []
noncomputable abbrev A6 : List (FuncId × Sp O) := (16, .h c_edges) :: A4
noncomputable abbrev j_edA (es : List (Rw × Nat)) (clk since : Nat) (seen : List Nat) (last : Nat) (cur : Option (Rw × Nat)) : St O := ⟨Tr.setL [(3, .nils), (11, .ptr 1 0)] .leaf, Tr.setL [(0, mO es clk), (1, .it 0 since seen last cur)] .leaf, 3, 68⟩
noncomputable abbrev j_edB (es : List (Rw × Nat)) (clk since : Nat) (seen : List Nat) (last : Nat) (cur : Option (Rw × Nat)) (n c : Nat) (xs : List Rw) (room : Nat) : St O := ⟨Tr.setL [(3, .sl 2 0 n c), (11, .ptr 1 0)] .leaf, Tr.setL [(0, mO es clk), (1, .it 0 since seen last cur), (2, eO xs room)] .leaf, 3, 68⟩
noncomputable abbrev j_agN (es : List (Rw × Nat)) (clk : Nat) : St O := ⟨Tr.setL [(2, .int .i64 0), (3, .int .i64 0), (4, .int .i64 0), (6, .map 0), (7, .int .i64 0), (8, .bool false), (21, .nils), (22, .int .i64 0), (23, .int .i64 0)] .leaf, Tr.setL [(0, mO es clk)] .leaf, 1, 56⟩
noncomputable abbrev j_agR (o : AO O) (es : List (Rw × Nat)) (clk : Nat) (lo hi vo nw : Int) (op : Bool) (n c : Nat) (ys : List Rw) (room : Nat) (i : Int) : St O := ⟨Tr.setL [(2, .int .i64 lo), (3, .int .i64 hi), (4, .int .i64 vo), (6, .map 1), (7, .int .i64 nw), (8, .bool op), (21, .sl 2 0 n c), (22, .int .i64 n), (23, .int .i64 i)] .leaf, Tr.setL [(0, o), (1, mO es clk), (2, eO ys room)] .leaf, 3, 56⟩
noncomputable abbrev j_agQ (o : AO O) (es : List (Rw × Nat)) (clk : Nat) : St O := ⟨Tr.setL [(2, .int .i64 0), (3, .int .i64 0), (4, .int .i64 0), (6, .map 1), (7, .int .i64 0), (8, .bool false), (21, .nils), (22, .int .i64 0), (23, .int .i64 0)] .leaf, Tr.setL [(0, o), (1, mO es clk)] .leaf, 2, 56⟩
noncomputable abbrev j_me0 (es : List (Rw × Nat)) (clk since : Nat) (seen : List Nat) (last : Nat) (cur : Option (Rw × Nat)) : St O := ⟨Tr.setL [(6, .nils), (30, .nils), (31, .int .i64 0), (32, .int .i64 0)] .leaf, Tr.setL [(0, mO es clk), (1, .it 0 since seen last cur)] .leaf, 3, 68⟩
noncomputable abbrev j_meA (es : List (Rw × Nat)) (clk since : Nat) (seen : List Nat) (last : Nat) (cur : Option (Rw × Nat)) (n c : Nat) (ys : List Rw) (room : Nat) (i : Int) : St O := ⟨Tr.setL [(6, .nils), (30, .sl 2 0 n c), (31, .int .i64 n), (32, .int .i64 i)] .leaf, Tr.setL [(0, mO es clk), (1, .it 0 since seen last cur), (2, eO ys room)] .leaf, 4, 68⟩
noncomputable abbrev j_meB (es : List (Rw × Nat)) (clk since : Nat) (seen : List Nat) (last : Nat) (cur : Option (Rw × Nat)) (n c : Nat) (ys : List Rw) (room : Nat) (i : Int) (k d : Nat) (out : List Rw) (r2 : Nat) : St O := ⟨Tr.setL [(6, .sl 3 0 k d), (30, .sl 2 0 n c), (31, .int .i64 n), (32, .int .i64 i)] .leaf, Tr.setL [(0, mO es clk), (1, .it 0 since seen last cur), (2, eO ys room), (3, eO out r2)] .leaf, 4, 68⟩
end Go.Tb.W

/- Claims: what is agreed on; contracts. -/
set_option linter.all false
set_option maxRecDepth 100000
namespace Go.Tb.W
open Go Go.Proofs
/-- Where the counting stands. -/
structure Ag where
  nw : Int
  vo : Int
  lo : Int
  hi : Int
  op : Bool
def agS (s : Ag) (p : Int × Int) : Ag :=
  if p.2 = 0 then { s with nw := s.nw + p.2 }
  else if s.nw + p.2 > s.vo then { s with nw := s.nw + p.2, vo := s.nw + p.2, lo := p.1, op := true }
  else if s.op = true then { s with nw := s.nw + p.2, hi := p.1 - 1, op := false }
  else { s with nw := s.nw + p.2 }
def agF (L : List (Int × Int)) : Ag := L.foldl agS ⟨0, 0, 0, 0, false⟩
def agM (xs : List Rw) : Ag := agF (edgeF (lastF xs).1)
/-- Why nothing is agreed on. -/
def agE (xs : List Rw) : Int := if badI xs ≥ 0 then 1 else if (xs.length : Int) > 64 then 4 else if 2 * (agM xs).vo ≤ ((lastF xs).1.length : Int) then 10 else 0
def agLo (xs : List Rw) : Int := if agE xs = 0 then (agM xs).lo else 0
def agHi (xs : List Rw) : Int := if agE xs = 0 then (agM xs).hi else 0
def agVo (xs : List Rw) : Int := if agE xs = 0 then (agM xs).vo else 0
/-- Claims that lie in a variable's cells. -/
def chk : List AV → Option (List Rw)
  | [] => some []
  | .int .i64 a :: .int .i64 b :: .int .i64 c :: l => match chk l with | some r => some (rwA [.int .i64 a, .int .i64 b, .int .i64 c] :: r) | none => none
  | _ => none
def slD (hp : Tr (AO O)) (v : AV) (K : List Rw → (Tr (AO O) → Tr (AO O)) → Prop) : Prop := match v with
  | .sl n 0 l c => match Nat.blt n 16777215, hp.get n with
    | true, some (.cells 31 L room) => match chk L with
      | some xs => l ≤ xs.length ∧ K (xs.take l) (fun hp => hp.set n (some (cO xs room)))
      | none => False
    | _, _ => slC hp v K
  | _ => slC hp v K
def c_agree (args : List AV) (hp : Tr (AO O)) (nx : Nat) (K : AV → Tr (AO O) → Nat → Prop) : Prop := match args with
  | [v] => slD hp v fun xs f => xs.length ≤ 1000 ∧ K (.tup [.int .i64 (agLo xs), .int .i64 (agHi xs), .int .i64 (agVo xs), .int .i64 (agE xs)]) (f hp) nx
  | _ => False
def insJ (x : Int) : List Int → List Int
  | [] => [x]
  | y :: l => if x ≤ y then x :: y :: l else y :: insJ x l
def srtJ : List Int → List Int
  | [] => []
  | x :: l => insJ x (srtJ l)
/-- Whose claims have it. -/
def trueF (xs : List Rw) : List Int := srtJ (((lastF xs).1.filter (fun e => decide (e.1.i 2 ≤ agLo xs) && decide (e.1.i 3 ≥ agHi xs))).map (fun e => e.1.i 0))
abbrev nO (xs : List Rw) (room : Nat) : AO O := .rows 3 [.i .i64] xs room
def iR (x : Int) : Rw := rwA [.int .i64 x]
def c_true (args : List AV) (hp : Tr (AO O)) (nx : Nat) (K : AV → Tr (AO O) → Nat → Prop) : Prop := match args with
  | [v] => slD hp v fun xs f => match Nat.blt nx 16777215, hp.get nx with
    | true, none => xs.length ≤ 1000 ∧ (agE xs ≠ 0 → K .nils (f hp) nx) ∧ (agE xs = 0 → (trueF xs = [] → K .nils (f hp) nx) ∧ (trueF xs ≠ [] → ∀ c room, K (.sl nx 0 (trueF xs).length c) (f (hp.set nx (some (nO ((trueF xs).map iR) room)))) (nx + 1)))
    | _, _ => False
  | _ => False
def c_agreeC (args : List AV) (hp : Tr (AO O)) (nx : Nat) (K : AV → Tr (AO O) → Nat → Prop) : Prop := match args with
  | [v] => slC hp v fun xs f => xs.length ≤ 1000 ∧ K (.tup [.int .i64 (agLo xs), .int .i64 (agHi xs), .int .i64 (agVo xs), .int .i64 (agE xs)]) (f hp) nx
  | _ => False
abbrev kO (n : Nat) : AO O := .kb 43 (.map n)
def c_keys (args : List AV) (hp : Tr (AO O)) (nx : Nat) (K : AV → Tr (AO O) → Nat → Prop) : Prop := match args with
  | [.map n] => match Nat.blt nx 16777215, hp.get nx with
    | true, none => K (.fn (.func 24) [] [.ptr nx 0]) (hp.set nx (some (kO n))) (nx + 1)
    | _, _ => False
  | _ => False
/-- A map whose keys can be told. -/
structure okK (es : List (Rw × Nat)) (clk : Nat) : Prop where
  key : es.Pairwise (fun x y => x.1.i 0 ≠ y.1.i 0)
  brn : es.Pairwise (fun x y => x.2 ≠ y.2)
  old : ∀ e ∈ es, e.2 < clk
  ln : es.length ≤ 1000
def keyL (es : List (Rw × Nat)) : List Int := es.map fun e => e.1.i 0
def c_sorted (args : List AV) (hp : Tr (AO O)) (nx : Nat) (K : AV → Tr (AO O) → Nat → Prop) : Prop := match args with
  | [.fn (.func 24) [] [.ptr m 0]] => match hp.get m with
    | some (.kb 43 (.map n)) => match hp.get n, Nat.blt nx 16777215, hp.get nx with
      | some (.mp ⟨.i .i64, [.i .i64, .i .i64, .i .i64], true⟩ es clk), true, none => okK es clk ∧ (es = [] → K .nils hp nx) ∧ (es ≠ [] → ∀ c room, K (.sl nx 0 es.length c) (hp.set nx (some (nO ((srtJ (keyL es)).map iR) room))) (nx + 1))
      | _, _, _ => False
    | _ => False
  | _ => False
noncomputable abbrev A7 : List (FuncId × Sp O) :=
  (10, .h c_agreeC) ::
  (15, .h c_last) ::
  (18, .h c_keys) ::
  (17, .h c_sorted) ::
  []
noncomputable abbrev j_trN (o : AO O) (es : List (Rw × Nat)) (clk : Nat) (lo hi : Int) : St O := ⟨Tr.setL [(3, .int .i64 lo), (4, .int .i64 hi), (7, .map 1), (8, .nils), (25, .nils), (26, .int .i64 0), (27, .int .i64 0)] .leaf, Tr.setL [(0, o), (1, mO es clk), (2, kO 1)] .leaf, 3, 50⟩
noncomputable abbrev j_trA (o : AO O) (es : List (Rw × Nat)) (clk : Nat) (lo hi : Int) (n c : Nat) (ys : List Rw) (room : Nat) (i : Int) : St O := ⟨Tr.setL [(3, .int .i64 lo), (4, .int .i64 hi), (7, .map 1), (8, .nils), (25, .sl 3 0 n c), (26, .int .i64 n), (27, .int .i64 i)] .leaf, Tr.setL [(0, o), (1, mO es clk), (2, kO 1), (3, nO ys room)] .leaf, 5, 50⟩
noncomputable abbrev j_trB (o : AO O) (es : List (Rw × Nat)) (clk : Nat) (lo hi : Int) (n c : Nat) (ys : List Rw) (room : Nat) (i : Int) (k d : Nat) (out : List Rw) (r2 : Nat) : St O := ⟨Tr.setL [(3, .int .i64 lo), (4, .int .i64 hi), (7, .map 1), (8, .sl 4 0 k d), (25, .sl 3 0 n c), (26, .int .i64 n), (27, .int .i64 i)] .leaf, Tr.setL [(0, o), (1, mO es clk), (2, kO 1), (3, nO ys room), (4, nO out r2)] .leaf, 5, 50⟩
def bAnd (a b : Int) : Int := bits .and .i64 a b
def bXor (a b : Int) : Int := bits .xor .i64 a b
def midI (a b : Int) : Int := (a + b).fdiv 2
def c_mid (args : List AV) (K : AV → Prop) : Prop := match args with
  | [.int .i64 a, .int .i64 b] => K (.int .i64 (midI a b))
  | _ => False
noncomputable abbrev B1 : List (FuncId × Sp O) :=
  (10, .h c_agree) ::
  (11, .h c_true) ::
  (8, .p c_mid) ::
  (12, .p c_may) ::
  []
def c_awake (args : List AV) (K : AV → Prop) : Prop := match args with
  | [] => K (.bool true)
  | _ => False
noncomputable abbrev B2 : List (FuncId × Sp O) := (7, .p c_awake) :: (9, .p c_mid) :: B1
end Go.Tb.W

/- What the functions' bodies come to: each line is what the abstract machine makes of one function, or of one round of a loop, over the contracts of the functions that it calls (the text was printed by a program of mine; Lean proves it again). -/
set_option linter.all false
set_option maxRecDepth 100000
set_option maxHeartbeats 0
namespace Go.Tb
open Go Go.Proofs
namespace W
theorem t_awake (I : Interp O) (K : AV → Prop) : abody I P (Gm B1) (adraw P (Gm B1)) 0 Try.f7 [] .leaf 0 (fun v _ _ => K v) =
  (((3 : Nat) ≤ [rwA [AV.int IntKind.i64 (1 : Int), AV.int IntKind.i64 (0 : Int), AV.int IntKind.i64 (10 : Int)], rwA [AV.int IntKind.i64 (2 : Int), AV.int IntKind.i64 (5 : Int), AV.int IntKind.i64 (15 : Int)], rwA [AV.int IntKind.i64 (3 : Int), AV.int IntKind.i64 (8 : Int), AV.int IntKind.i64 (20 : Int)]].length) ∧ (((List.take (3 : Nat) [rwA [AV.int IntKind.i64 (1 : Int), AV.int IntKind.i64 (0 : Int), AV.int IntKind.i64 (10 : Int)], rwA [AV.int IntKind.i64 (2 : Int), AV.int IntKind.i64 (5 : Int), AV.int IntKind.i64 (15 : Int)], rwA [AV.int IntKind.i64 (3 : Int), AV.int IntKind.i64 (8 : Int), AV.int IntKind.i64 (20 : Int)]]).length ≤ (1000 : Nat)) ∧ ((([] : List Rw).length ≤ (1000 : Nat)) ∧ (((1 : Nat) ≤ [rwA [AV.int IntKind.i64 (0 : Int), AV.int IntKind.i64 (1 : Int), AV.int IntKind.i64 (0 : Int)]].length) ∧ (((List.take (1 : Nat) [rwA [AV.int IntKind.i64 (0 : Int), AV.int IntKind.i64 (1 : Int), AV.int IntKind.i64 (0 : Int)]]).length ≤ (1000 : Nat)) ∧ (((3 : Nat) ≤ [rwA [AV.int IntKind.i64 (1 : Int), AV.int IntKind.i64 (0 : Int), AV.int IntKind.i64 (10 : Int)], rwA [AV.int IntKind.i64 (2 : Int), AV.int IntKind.i64 (5 : Int), AV.int IntKind.i64 (15 : Int)], rwA [AV.int IntKind.i64 (3 : Int), AV.int IntKind.i64 (8 : Int), AV.int IntKind.i64 (20 : Int)]].length) ∧ (((List.take (3 : Nat) [rwA [AV.int IntKind.i64 (1 : Int), AV.int IntKind.i64 (0 : Int), AV.int IntKind.i64 (10 : Int)], rwA [AV.int IntKind.i64 (2 : Int), AV.int IntKind.i64 (5 : Int), AV.int IntKind.i64 (15 : Int)], rwA [AV.int IntKind.i64 (3 : Int), AV.int IntKind.i64 (8 : Int), AV.int IntKind.i64 (20 : Int)]]).length ≤ (1000 : Nat)) ∧ ((agE (List.take 3 [rwA [AV.int IntKind.i64 1, AV.int IntKind.i64 0, AV.int IntKind.i64 10], rwA [AV.int IntKind.i64 2, AV.int IntKind.i64 5, AV.int IntKind.i64 15], rwA [AV.int IntKind.i64 3, AV.int IntKind.i64 8, AV.int IntKind.i64 20]]) ≠ 0 → (K (.bool false))) ∧ (agE (List.take 3 [rwA [AV.int IntKind.i64 1, AV.int IntKind.i64 0, AV.int IntKind.i64 10], rwA [AV.int IntKind.i64 2, AV.int IntKind.i64 5, AV.int IntKind.i64 15], rwA [AV.int IntKind.i64 3, AV.int IntKind.i64 8, AV.int IntKind.i64 20]]) = 0 → ((trueF (List.take 3 [rwA [AV.int IntKind.i64 1, AV.int IntKind.i64 0, AV.int IntKind.i64 10], rwA [AV.int IntKind.i64 2, AV.int IntKind.i64 5, AV.int IntKind.i64 15], rwA [AV.int IntKind.i64 3, AV.int IntKind.i64 8, AV.int IntKind.i64 20]]) = [] → (K (.bool false))) ∧ (trueF (List.take 3 [rwA [AV.int IntKind.i64 1, AV.int IntKind.i64 0, AV.int IntKind.i64 10], rwA [AV.int IntKind.i64 2, AV.int IntKind.i64 5, AV.int IntKind.i64 15], rwA [AV.int IntKind.i64 3, AV.int IntKind.i64 8, AV.int IntKind.i64 20]]) ≠ [] → (∀ (c0 : Nat), (∀ (room1 : Nat), (K (.bool true))))))))))))))) := by kernel_rfl
theorem t_lmid (I : Interp O) (K : AV → Prop) (a b : Int) : abody I P (Gm B2) (adraw P (Gm B2)) 0 Try.f3 [.int .i64 a, .int .i64 b] .leaf 0 (fun v _ _ => K v) =
  (bsplit (midI a b == midI a b) fun | true => (bsplit (decide (midI a b ≥ if b < a then b else a)) fun | true => (bsplit (decide (midI a b ≤ if b > a then b else a)) fun | true => (K (.bool (midI a b == midI b a))) | false => (K (.bool false))) | false => (K (.bool false))) | false => (K (.bool false))) := by kernel_rfl
end W
end Go.Tb

/- What the functions' bodies come to: each line is what the abstract machine makes of one function, or of one round of a loop, over the contracts of the functions that it calls (the text was printed by a program of mine; Lean proves it again). -/
set_option linter.all false
set_option maxRecDepth 100000
set_option maxHeartbeats 0
namespace Go.Tb
open Go Go.Proofs
namespace W
theorem t_trueN (I : Interp O) (K : AV → Tr (AO O) → Nat → Prop) : abody I P (Gm A7) (adraw P (Gm A7)) 0 Try.f11 [.nils] (Tr.ofList 0 [] .leaf) 0 K =
  ((([] : List Rw).length ≤ (1000 : Nat)) ∧ (K .nils .leaf 0)) := by kernel_rfl
theorem t_trueR (I : Interp O) (K : AV → Tr (AO O) → Nat → Prop) (l c room : Nat) (xs : List Rw) : abody I P (Gm A7) (adraw P (Gm A7)) 1 Try.f11 [.sl 0 0 l c] (Tr.ofList 0 [cO xs room] .leaf) 1 K =
  ((l ≤ xs.length) ∧ (((List.take l xs).length ≤ (1000 : Nat)) ∧ (bsplit (agE (List.take l xs) != 0) fun | true => (K .nils (.node .leaf (some (.rows 31 [Sh.i IntKind.i64, Sh.i IntKind.i64, Sh.i IntKind.i64] (xs) (room))) .leaf) 1) | false => ((l ≤ xs.length) ∧ ((okK (lastF (List.take l xs)).fst (lastF (List.take l xs)).snd) ∧ (((lastF (List.take l xs)).fst = [] → (ALoop I 1 (cd Try.f11 [true, true, true, true, true, false, true, false, false]) (acode I P (Gm A7) (adraw P (Gm A7)) 1 (cd Try.f11 [true, true, true, true, true, false, true, false, false])) (ablock 0 (athen (cd Try.f11 [true, true, true, true, true, true]) (fun s => acode I P (Gm A7) (adraw P (Gm A7)) 1 (cd Try.f11 [true, true, true, true, true, true]) s (kret P Try.f11 (K))) (kret P Try.f11 (K)))) ⟨(.node (.node (.node (.node (.node .leaf (some (.int IntKind.i64 (agLo (List.take l xs)))) .leaf) (some (.map 1)) (.node .leaf (some (.map 1)) .leaf)) (some (.int IntKind.i64 (agLo (List.take l xs)))) (.node (.node .leaf (some (.int IntKind.i64 (agE (List.take l xs)))) .leaf) none (.node .leaf (some (.int IntKind.i64 (0 : Int))) .leaf))) none (.node (.node (.node .leaf (some (.int IntKind.i64 (agVo (List.take l xs)))) .leaf) none (.node .leaf (some .nils) .leaf)) (some (.int IntKind.i64 (agVo (List.take l xs)))) (.node (.node .leaf (some (.sl 0 0 (l) (c))) .leaf) (some (.sl 0 0 (l) (c))) .leaf))) (some (.sl 0 0 (l) (c))) (.node (.node (.node (.node .leaf (some (.int IntKind.i64 (agHi (List.take l xs)))) .leaf) (some .nils) (.node .leaf (some (.fn (Fn.func 24) [] [(.ptr 2 0)])) .leaf)) (some (.int IntKind.i64 (agHi (List.take l xs)))) (.node (.node .leaf (some (.bool false)) .leaf) (some (.tup [(.int IntKind.i64 (agLo (List.take l xs))), (.int IntKind.i64 (agHi (List.take l xs))), (.int IntKind.i64 (agVo (List.take l xs))), (.int IntKind.i64 (agE (List.take l xs)))])) .leaf)) (some .nils) (.node (.node (.node .leaf (some (.int IntKind.i64 (agE (List.take l xs)))) .leaf) none (.node .leaf (some (.int IntKind.i64 (0 : Int))) .leaf)) (some (.int IntKind.i64 (agE (List.take l xs)))) (.node (.node .leaf (some (.map 1)) .leaf) (some (.tup [(.int IntKind.i64 (agLo (List.take l xs))), (.int IntKind.i64 (agHi (List.take l xs))), (.int IntKind.i64 (agVo (List.take l xs))), (.int IntKind.i64 (agE (List.take l xs)))])) .leaf)))), (.node (.node .leaf (some (.mp { kt := Sh.i IntKind.i64, vs := [Sh.i IntKind.i64, Sh.i IntKind.i64, Sh.i IntKind.i64], agg := true } ((lastF (List.take l xs)).fst) ((lastF (List.take l xs)).snd))) .leaf) (some (.rows 31 [Sh.i IntKind.i64, Sh.i IntKind.i64, Sh.i IntKind.i64] (xs) (room))) (.node .leaf (some (.kb 43 (.map 1))) .leaf)), 3, 50⟩)) ∧ ((lastF (List.take l xs)).fst ≠ [] → (∀ (c0 : Nat), (∀ (room1 : Nat), (ALoop I 1 (cd Try.f11 [true, true, true, true, true, false, true, false, false]) (acode I P (Gm A7) (adraw P (Gm A7)) 1 (cd Try.f11 [true, true, true, true, true, false, true, false, false])) (ablock 0 (athen (cd Try.f11 [true, true, true, true, true, true]) (fun s => acode I P (Gm A7) (adraw P (Gm A7)) 1 (cd Try.f11 [true, true, true, true, true, true]) s (kret P Try.f11 (K))) (kret P Try.f11 (K)))) ⟨(.node (.node (.node (.node (.node .leaf (some (.int IntKind.i64 (agLo (List.take l xs)))) .leaf) (some (.map 1)) (.node .leaf (some (.map 1)) .leaf)) (some (.int IntKind.i64 (agLo (List.take l xs)))) (.node (.node .leaf (some (.int IntKind.i64 (agE (List.take l xs)))) .leaf) none (.node .leaf (some (.int IntKind.i64 (0 : Int))) .leaf))) none (.node (.node (.node .leaf (some (.int IntKind.i64 (agVo (List.take l xs)))) .leaf) none (.node .leaf (some (.sl 3 0 ((lastF (List.take l xs)).fst.length) (c0))) .leaf)) (some (.int IntKind.i64 (agVo (List.take l xs)))) (.node (.node .leaf (some (.sl 0 0 (l) (c))) .leaf) (some (.sl 0 0 (l) (c))) .leaf))) (some (.sl 0 0 (l) (c))) (.node (.node (.node (.node .leaf (some (.int IntKind.i64 (agHi (List.take l xs)))) .leaf) (some .nils) (.node .leaf (some (.fn (Fn.func 24) [] [(.ptr 2 0)])) .leaf)) (some (.int IntKind.i64 (agHi (List.take l xs)))) (.node (.node .leaf (some (.bool false)) .leaf) (some (.tup [(.int IntKind.i64 (agLo (List.take l xs))), (.int IntKind.i64 (agHi (List.take l xs))), (.int IntKind.i64 (agVo (List.take l xs))), (.int IntKind.i64 (agE (List.take l xs)))])) .leaf)) (some .nils) (.node (.node (.node .leaf (some (.int IntKind.i64 (agE (List.take l xs)))) .leaf) none (.node .leaf (some (.int IntKind.i64 ((↑(lastF (List.take l xs)).fst.length : Int)))) .leaf)) (some (.int IntKind.i64 (agE (List.take l xs)))) (.node (.node .leaf (some (.map 1)) .leaf) (some (.tup [(.int IntKind.i64 (agLo (List.take l xs))), (.int IntKind.i64 (agHi (List.take l xs))), (.int IntKind.i64 (agVo (List.take l xs))), (.int IntKind.i64 (agE (List.take l xs)))])) .leaf)))), (.node (.node (.node .leaf (some (.rows 3 [Sh.i IntKind.i64] (List.map iR (srtJ (keyL (lastF (List.take l xs)).fst))) (room1))) .leaf) (some (.mp { kt := Sh.i IntKind.i64, vs := [Sh.i IntKind.i64, Sh.i IntKind.i64, Sh.i IntKind.i64], agg := true } ((lastF (List.take l xs)).fst) ((lastF (List.take l xs)).snd))) .leaf) (some (.rows 31 [Sh.i IntKind.i64, Sh.i IntKind.i64, Sh.i IntKind.i64] (xs) (room))) (.node .leaf (some (.kb 43 (.map 1))) .leaf)), 4, 50⟩)))))))))) := by kernel_rfl
theorem t_trueO (I : Interp O) (K : AV → Tr (AO O) → Nat → Prop) (l c : Nat) (ob : Obj) (xs : List Rw) : abody I P (Gm A7) (adraw P (Gm A7)) 1 Try.f11 [.sl 0 0 l c] (Tr.ofList 0 [oO ob xs] .leaf) 1 K =
  ((l ≤ xs.length) ∧ (((List.take l xs).length ≤ (1000 : Nat)) ∧ (bsplit (agE (List.take l xs) != 0) fun | true => (K .nils (.node .leaf (some (AO.out ob cS xs)) .leaf) 1) | false => ((l ≤ xs.length) ∧ ((okK (lastF (List.take l xs)).fst (lastF (List.take l xs)).snd) ∧ (((lastF (List.take l xs)).fst = [] → (ALoop I 1 (cd Try.f11 [true, true, true, true, true, false, true, false, false]) (acode I P (Gm A7) (adraw P (Gm A7)) 1 (cd Try.f11 [true, true, true, true, true, false, true, false, false])) (ablock 0 (athen (cd Try.f11 [true, true, true, true, true, true]) (fun s => acode I P (Gm A7) (adraw P (Gm A7)) 1 (cd Try.f11 [true, true, true, true, true, true]) s (kret P Try.f11 (K))) (kret P Try.f11 (K)))) ⟨(.node (.node (.node (.node (.node .leaf (some (.int IntKind.i64 (agLo (List.take l xs)))) .leaf) (some (.map 1)) (.node .leaf (some (.map 1)) .leaf)) (some (.int IntKind.i64 (agLo (List.take l xs)))) (.node (.node .leaf (some (.int IntKind.i64 (agE (List.take l xs)))) .leaf) none (.node .leaf (some (.int IntKind.i64 (0 : Int))) .leaf))) none (.node (.node (.node .leaf (some (.int IntKind.i64 (agVo (List.take l xs)))) .leaf) none (.node .leaf (some .nils) .leaf)) (some (.int IntKind.i64 (agVo (List.take l xs)))) (.node (.node .leaf (some (.sl 0 0 (l) (c))) .leaf) (some (.sl 0 0 (l) (c))) .leaf))) (some (.sl 0 0 (l) (c))) (.node (.node (.node (.node .leaf (some (.int IntKind.i64 (agHi (List.take l xs)))) .leaf) (some .nils) (.node .leaf (some (.fn (Fn.func 24) [] [(.ptr 2 0)])) .leaf)) (some (.int IntKind.i64 (agHi (List.take l xs)))) (.node (.node .leaf (some (.bool false)) .leaf) (some (.tup [(.int IntKind.i64 (agLo (List.take l xs))), (.int IntKind.i64 (agHi (List.take l xs))), (.int IntKind.i64 (agVo (List.take l xs))), (.int IntKind.i64 (agE (List.take l xs)))])) .leaf)) (some .nils) (.node (.node (.node .leaf (some (.int IntKind.i64 (agE (List.take l xs)))) .leaf) none (.node .leaf (some (.int IntKind.i64 (0 : Int))) .leaf)) (some (.int IntKind.i64 (agE (List.take l xs)))) (.node (.node .leaf (some (.map 1)) .leaf) (some (.tup [(.int IntKind.i64 (agLo (List.take l xs))), (.int IntKind.i64 (agHi (List.take l xs))), (.int IntKind.i64 (agVo (List.take l xs))), (.int IntKind.i64 (agE (List.take l xs)))])) .leaf)))), (.node (.node .leaf (some (.mp { kt := Sh.i IntKind.i64, vs := [Sh.i IntKind.i64, Sh.i IntKind.i64, Sh.i IntKind.i64], agg := true } ((lastF (List.take l xs)).fst) ((lastF (List.take l xs)).snd))) .leaf) (some (AO.out ob cS xs)) (.node .leaf (some (.kb 43 (.map 1))) .leaf)), 3, 50⟩)) ∧ ((lastF (List.take l xs)).fst ≠ [] → (∀ (c0 : Nat), (∀ (room1 : Nat), (ALoop I 1 (cd Try.f11 [true, true, true, true, true, false, true, false, false]) (acode I P (Gm A7) (adraw P (Gm A7)) 1 (cd Try.f11 [true, true, true, true, true, false, true, false, false])) (ablock 0 (athen (cd Try.f11 [true, true, true, true, true, true]) (fun s => acode I P (Gm A7) (adraw P (Gm A7)) 1 (cd Try.f11 [true, true, true, true, true, true]) s (kret P Try.f11 (K))) (kret P Try.f11 (K)))) ⟨(.node (.node (.node (.node (.node .leaf (some (.int IntKind.i64 (agLo (List.take l xs)))) .leaf) (some (.map 1)) (.node .leaf (some (.map 1)) .leaf)) (some (.int IntKind.i64 (agLo (List.take l xs)))) (.node (.node .leaf (some (.int IntKind.i64 (agE (List.take l xs)))) .leaf) none (.node .leaf (some (.int IntKind.i64 (0 : Int))) .leaf))) none (.node (.node (.node .leaf (some (.int IntKind.i64 (agVo (List.take l xs)))) .leaf) none (.node .leaf (some (.sl 3 0 ((lastF (List.take l xs)).fst.length) (c0))) .leaf)) (some (.int IntKind.i64 (agVo (List.take l xs)))) (.node (.node .leaf (some (.sl 0 0 (l) (c))) .leaf) (some (.sl 0 0 (l) (c))) .leaf))) (some (.sl 0 0 (l) (c))) (.node (.node (.node (.node .leaf (some (.int IntKind.i64 (agHi (List.take l xs)))) .leaf) (some .nils) (.node .leaf (some (.fn (Fn.func 24) [] [(.ptr 2 0)])) .leaf)) (some (.int IntKind.i64 (agHi (List.take l xs)))) (.node (.node .leaf (some (.bool false)) .leaf) (some (.tup [(.int IntKind.i64 (agLo (List.take l xs))), (.int IntKind.i64 (agHi (List.take l xs))), (.int IntKind.i64 (agVo (List.take l xs))), (.int IntKind.i64 (agE (List.take l xs)))])) .leaf)) (some .nils) (.node (.node (.node .leaf (some (.int IntKind.i64 (agE (List.take l xs)))) .leaf) none (.node .leaf (some (.int IntKind.i64 ((↑(lastF (List.take l xs)).fst.length : Int)))) .leaf)) (some (.int IntKind.i64 (agE (List.take l xs)))) (.node (.node .leaf (some (.map 1)) .leaf) (some (.tup [(.int IntKind.i64 (agLo (List.take l xs))), (.int IntKind.i64 (agHi (List.take l xs))), (.int IntKind.i64 (agVo (List.take l xs))), (.int IntKind.i64 (agE (List.take l xs)))])) .leaf)))), (.node (.node (.node .leaf (some (.rows 3 [Sh.i IntKind.i64] (List.map iR (srtJ (keyL (lastF (List.take l xs)).fst))) (room1))) .leaf) (some (.mp { kt := Sh.i IntKind.i64, vs := [Sh.i IntKind.i64, Sh.i IntKind.i64, Sh.i IntKind.i64], agg := true } ((lastF (List.take l xs)).fst) ((lastF (List.take l xs)).snd))) .leaf) (some (AO.out ob cS xs)) (.node .leaf (some (.kb 43 (.map 1))) .leaf)), 4, 50⟩)))))))))) := by kernel_rfl
theorem t_trNR (I : Interp O) (K : AV → Tr (AO O) → Nat → Prop) (X : St O → Prop) (room : Nat) (xs : List Rw) (es : List (Rw × Nat)) (clk : Nat) (lo hi : Int) : acode I P (Gm A7) (adraw P (Gm A7)) 1 (cd Try.f11 [true, true, true, true, true, false, true, false, false]) (j_trN (cO xs room) es clk lo hi) (lpg 1 [(1, 1), (2, 2)] [3, 4, 7, 8, 25, 26, 27] 3 X (ablock 0 (athen (cd Try.f11 [true, true, true, true, true, true]) (fun s => acode I P (Gm A7) (adraw P (Gm A7)) 1 (cd Try.f11 [true, true, true, true, true, true]) s (kret P Try.f11 (K))) (kret P Try.f11 (K))))) =
  (K .nils (.node (.node .leaf (some (.mp { kt := Sh.i IntKind.i64, vs := [Sh.i IntKind.i64, Sh.i IntKind.i64, Sh.i IntKind.i64], agg := true } (es) (clk))) .leaf) (some (.rows 31 [Sh.i IntKind.i64, Sh.i IntKind.i64, Sh.i IntKind.i64] (xs) (room))) (.node .leaf (some (.kb 43 (.map 1))) .leaf)) 3) := by kernel_rfl
theorem t_trAR (I : Interp O) (K : AV → Tr (AO O) → Nat → Prop) (X : St O → Prop) (room : Nat) (xs : List Rw) (es : List (Rw × Nat)) (clk : Nat) (lo hi : Int) (n c : Nat) (ys : List Rw) (r1 : Nat) (i : Int) : acode I P (Gm A7) (adraw P (Gm A7)) 1 (cd Try.f11 [true, true, true, true, true, false, true, false, false]) (j_trA (cO xs room) es clk lo hi n c ys r1 i) (lpgL 1 [[(1, 1), (2, 2), (3, 3)], [(1, 1), (2, 2), (3, 3), (4, 4)], [(1, 1), (2, 2), (3, 3), (5, 4)], [(1, 1), (2, 2), (3, 3), (6, 4)], [(1, 1), (2, 2), (3, 3), (7, 4)], [(1, 1), (2, 2), (3, 3), (8, 4)], [(1, 1), (2, 2), (3, 3), (9, 4)]] [3, 4, 7, 8, 25, 26, 27] 5 X (ablock 0 (athen (cd Try.f11 [true, true, true, true, true, true]) (fun s => acode I P (Gm A7) (adraw P (Gm A7)) 1 (cd Try.f11 [true, true, true, true, true, true]) s (kret P Try.f11 (K))) (kret P Try.f11 (K))))) =
  (bsplit (decide (i < (↑n : Int))) fun | true => (must (decide ((0 : Int) ≤ i ∧ i < (↑n : Int))) (xget (ys) (i.toNat) fun x0 => (bsplit (decide ((mrow (encS x0 0 (Sh.i IntKind.i64)) es).i ((1 : Nat) + 1) ≤ lo)) fun | true => (bsplit (decide ((mrow (encS x0 0 (Sh.i IntKind.i64)) es).i ((1 : Nat) + 1 + 1) ≥ hi)) fun | true => (((0 : Nat) + (1 : Nat) ≤ (137438953472 : Nat)) ∧ (∀ (c'1 : Nat), ((0 : Nat) + 1 ≤ c'1 → (c'1 ≤ 9223372036854775807 → (X ⟨(.node (.node (.node (.node .leaf (some (.map 1)) .leaf) (some (.int IntKind.i64 (lo))) (.node .leaf none (.node .leaf (some (.int IntKind.i64 (IntKind.i64.wrap (i + 1)))) .leaf))) none (.node (.node .leaf none (.node .leaf (some (.sl 3 0 (n) (c))) .leaf)) none .leaf)) none (.node (.node (.node .leaf (some (.sl 4 0 1 (c'1))) .leaf) (some (.int IntKind.i64 (hi))) .leaf) none (.node (.node .leaf none (.node .leaf (some (.int IntKind.i64 ((↑n : Int)))) .leaf)) none .leaf))), (.node (.node (.node .leaf (some (.rows 3 [Sh.i IntKind.i64] (ys) (r1))) .leaf) (some (.mp { kt := Sh.i IntKind.i64, vs := [Sh.i IntKind.i64, Sh.i IntKind.i64, Sh.i IntKind.i64], agg := true } (es) (clk))) .leaf) (some (.rows 31 [Sh.i IntKind.i64, Sh.i IntKind.i64, Sh.i IntKind.i64] (xs) (room))) (.node (.node .leaf (some (.rows 3 [Sh.i IntKind.i64] (([] : List Rw) ++ ((rwA [(.int IntKind.i64 ((x0).i 0))]) :: [])) (c'1 * [Sh.i IntKind.i64].length))) .leaf) (some (.kb 43 (.map 1))) .leaf)), 5, 50⟩))))) | false => (X ⟨(.node (.node (.node (.node .leaf (some (.map 1)) .leaf) (some (.int IntKind.i64 (lo))) (.node .leaf none (.node .leaf (some (.int IntKind.i64 (IntKind.i64.wrap (i + 1)))) .leaf))) none (.node (.node .leaf none (.node .leaf (some (.sl 3 0 (n) (c))) .leaf)) none .leaf)) none (.node (.node (.node .leaf (some .nils) .leaf) (some (.int IntKind.i64 (hi))) .leaf) none (.node (.node .leaf none (.node .leaf (some (.int IntKind.i64 ((↑n : Int)))) .leaf)) none .leaf))), (.node (.node (.node .leaf (some (.rows 3 [Sh.i IntKind.i64] (ys) (r1))) .leaf) (some (.mp { kt := Sh.i IntKind.i64, vs := [Sh.i IntKind.i64, Sh.i IntKind.i64, Sh.i IntKind.i64], agg := true } (es) (clk))) .leaf) (some (.rows 31 [Sh.i IntKind.i64, Sh.i IntKind.i64, Sh.i IntKind.i64] (xs) (room))) (.node .leaf (some (.kb 43 (.map 1))) .leaf)), 5, 50⟩)) | false => (X ⟨(.node (.node (.node (.node .leaf (some (.map 1)) .leaf) (some (.int IntKind.i64 (lo))) (.node .leaf none (.node .leaf (some (.int IntKind.i64 (IntKind.i64.wrap (i + 1)))) .leaf))) none (.node (.node .leaf none (.node .leaf (some (.sl 3 0 (n) (c))) .leaf)) none .leaf)) none (.node (.node (.node .leaf (some .nils) .leaf) (some (.int IntKind.i64 (hi))) .leaf) none (.node (.node .leaf none (.node .leaf (some (.int IntKind.i64 ((↑n : Int)))) .leaf)) none .leaf))), (.node (.node (.node .leaf (some (.rows 3 [Sh.i IntKind.i64] (ys) (r1))) .leaf) (some (.mp { kt := Sh.i IntKind.i64, vs := [Sh.i IntKind.i64, Sh.i IntKind.i64, Sh.i IntKind.i64], agg := true } (es) (clk))) .leaf) (some (.rows 31 [Sh.i IntKind.i64, Sh.i IntKind.i64, Sh.i IntKind.i64] (xs) (room))) (.node .leaf (some (.kb 43 (.map 1))) .leaf)), 5, 50⟩)))) | false => (K .nils (.node (.node (.node .leaf (some (.rows 3 [Sh.i IntKind.i64] (ys) (r1))) .leaf) (some (.mp { kt := Sh.i IntKind.i64, vs := [Sh.i IntKind.i64, Sh.i IntKind.i64, Sh.i IntKind.i64], agg := true } (es) (clk))) .leaf) (some (.rows 31 [Sh.i IntKind.i64, Sh.i IntKind.i64, Sh.i IntKind.i64] (xs) (room))) (.node .leaf (some (.kb 43 (.map 1))) .leaf)) 5)) := by kernel_rfl
theorem t_trBR (I : Interp O) (K : AV → Tr (AO O) → Nat → Prop) (X : St O → Prop) (room : Nat) (xs : List Rw) (es : List (Rw × Nat)) (clk : Nat) (lo hi : Int) (n c : Nat) (ys : List Rw) (r1 : Nat) (i : Int) (k d : Nat) (out : List Rw) (r2 : Nat) : acode I P (Gm A7) (adraw P (Gm A7)) 1 (cd Try.f11 [true, true, true, true, true, false, true, false, false]) (j_trB (cO xs room) es clk lo hi n c ys r1 i k d out r2) (lpgL 1 [[(1, 1), (2, 2), (3, 3)], [(1, 1), (2, 2), (3, 3), (4, 4)], [(1, 1), (2, 2), (3, 3), (5, 4)], [(1, 1), (2, 2), (3, 3), (6, 4)], [(1, 1), (2, 2), (3, 3), (7, 4)], [(1, 1), (2, 2), (3, 3), (8, 4)], [(1, 1), (2, 2), (3, 3), (9, 4)]] [3, 4, 7, 8, 25, 26, 27] 5 X (ablock 0 (athen (cd Try.f11 [true, true, true, true, true, true]) (fun s => acode I P (Gm A7) (adraw P (Gm A7)) 1 (cd Try.f11 [true, true, true, true, true, true]) s (kret P Try.f11 (K))) (kret P Try.f11 (K))))) =
  (bsplit (decide (i < (↑n : Int))) fun | true => (must (decide ((0 : Int) ≤ i ∧ i < (↑n : Int))) (xget (ys) (i.toNat) fun x0 => (bsplit (decide ((mrow (encS x0 0 (Sh.i IntKind.i64)) es).i ((1 : Nat) + 1) ≤ lo)) fun | true => (bsplit (decide ((mrow (encS x0 0 (Sh.i IntKind.i64)) es).i ((1 : Nat) + 1 + 1) ≥ hi)) fun | true => (must (k.ble out.length && (d * [Sh.i IntKind.i64].length).ble r2 && Nat.blt 4 16777215) ((k + (1 : Nat) ≤ (137438953472 : Nat)) ∧ (∀ (c'1 : Nat), (k + 1 ≤ c'1 → (c'1 ≤ 9223372036854775807 → (X ⟨(.node (.node (.node (.node .leaf (some (.map 1)) .leaf) (some (.int IntKind.i64 (lo))) (.node .leaf none (.node .leaf (some (.int IntKind.i64 (IntKind.i64.wrap (i + 1)))) .leaf))) none (.node (.node .leaf none (.node .leaf (some (.sl 3 0 (n) (c))) .leaf)) none .leaf)) none (.node (.node (.node .leaf (some (.sl 4 0 (k + 1) (c'1))) .leaf) (some (.int IntKind.i64 (hi))) .leaf) none (.node (.node .leaf none (.node .leaf (some (.int IntKind.i64 ((↑n : Int)))) .leaf)) none .leaf))), (.node (.node (.node .leaf (some (.rows 3 [Sh.i IntKind.i64] (ys) (r1))) .leaf) (some (.mp { kt := Sh.i IntKind.i64, vs := [Sh.i IntKind.i64, Sh.i IntKind.i64, Sh.i IntKind.i64], agg := true } (es) (clk))) .leaf) (some (.rows 31 [Sh.i IntKind.i64, Sh.i IntKind.i64, Sh.i IntKind.i64] (xs) (room))) (.node (.node .leaf (some (.rows 3 [Sh.i IntKind.i64] ((List.take k out) ++ ((rwA [(.int IntKind.i64 ((x0).i 0))]) :: [])) (c'1 * [Sh.i IntKind.i64].length))) .leaf) (some (.kb 43 (.map 1))) .leaf)), 5, 50⟩)))))) | false => (X ⟨(.node (.node (.node (.node .leaf (some (.map 1)) .leaf) (some (.int IntKind.i64 (lo))) (.node .leaf none (.node .leaf (some (.int IntKind.i64 (IntKind.i64.wrap (i + 1)))) .leaf))) none (.node (.node .leaf none (.node .leaf (some (.sl 3 0 (n) (c))) .leaf)) none .leaf)) none (.node (.node (.node .leaf (some (.sl 4 0 (k) (d))) .leaf) (some (.int IntKind.i64 (hi))) .leaf) none (.node (.node .leaf none (.node .leaf (some (.int IntKind.i64 ((↑n : Int)))) .leaf)) none .leaf))), (.node (.node (.node .leaf (some (.rows 3 [Sh.i IntKind.i64] (ys) (r1))) .leaf) (some (.mp { kt := Sh.i IntKind.i64, vs := [Sh.i IntKind.i64, Sh.i IntKind.i64, Sh.i IntKind.i64], agg := true } (es) (clk))) .leaf) (some (.rows 31 [Sh.i IntKind.i64, Sh.i IntKind.i64, Sh.i IntKind.i64] (xs) (room))) (.node (.node .leaf (some (.rows 3 [Sh.i IntKind.i64] (out) (r2))) .leaf) (some (.kb 43 (.map 1))) .leaf)), 5, 50⟩)) | false => (X ⟨(.node (.node (.node (.node .leaf (some (.map 1)) .leaf) (some (.int IntKind.i64 (lo))) (.node .leaf none (.node .leaf (some (.int IntKind.i64 (IntKind.i64.wrap (i + 1)))) .leaf))) none (.node (.node .leaf none (.node .leaf (some (.sl 3 0 (n) (c))) .leaf)) none .leaf)) none (.node (.node (.node .leaf (some (.sl 4 0 (k) (d))) .leaf) (some (.int IntKind.i64 (hi))) .leaf) none (.node (.node .leaf none (.node .leaf (some (.int IntKind.i64 ((↑n : Int)))) .leaf)) none .leaf))), (.node (.node (.node .leaf (some (.rows 3 [Sh.i IntKind.i64] (ys) (r1))) .leaf) (some (.mp { kt := Sh.i IntKind.i64, vs := [Sh.i IntKind.i64, Sh.i IntKind.i64, Sh.i IntKind.i64], agg := true } (es) (clk))) .leaf) (some (.rows 31 [Sh.i IntKind.i64, Sh.i IntKind.i64, Sh.i IntKind.i64] (xs) (room))) (.node (.node .leaf (some (.rows 3 [Sh.i IntKind.i64] (out) (r2))) .leaf) (some (.kb 43 (.map 1))) .leaf)), 5, 50⟩)))) | false => (K (.sl 4 0 (k) (d)) (.node (.node (.node .leaf (some (.rows 3 [Sh.i IntKind.i64] (ys) (r1))) .leaf) (some (.mp { kt := Sh.i IntKind.i64, vs := [Sh.i IntKind.i64, Sh.i IntKind.i64, Sh.i IntKind.i64], agg := true } (es) (clk))) .leaf) (some (.rows 31 [Sh.i IntKind.i64, Sh.i IntKind.i64, Sh.i IntKind.i64] (xs) (room))) (.node (.node .leaf (some (.rows 3 [Sh.i IntKind.i64] (out) (r2))) .leaf) (some (.kb 43 (.map 1))) .leaf)) 5)) := by kernel_rfl
theorem t_trNO (I : Interp O) (K : AV → Tr (AO O) → Nat → Prop) (X : St O → Prop) (ob : Obj) (xs : List Rw) (es : List (Rw × Nat)) (clk : Nat) (lo hi : Int) : acode I P (Gm A7) (adraw P (Gm A7)) 1 (cd Try.f11 [true, true, true, true, true, false, true, false, false]) (j_trN (oO ob xs) es clk lo hi) (lpg 1 [(1, 1), (2, 2)] [3, 4, 7, 8, 25, 26, 27] 3 X (ablock 0 (athen (cd Try.f11 [true, true, true, true, true, true]) (fun s => acode I P (Gm A7) (adraw P (Gm A7)) 1 (cd Try.f11 [true, true, true, true, true, true]) s (kret P Try.f11 (K))) (kret P Try.f11 (K))))) =
  (K .nils (.node (.node .leaf (some (.mp { kt := Sh.i IntKind.i64, vs := [Sh.i IntKind.i64, Sh.i IntKind.i64, Sh.i IntKind.i64], agg := true } (es) (clk))) .leaf) (some (AO.out ob cS xs)) (.node .leaf (some (.kb 43 (.map 1))) .leaf)) 3) := by kernel_rfl
theorem t_trAO (I : Interp O) (K : AV → Tr (AO O) → Nat → Prop) (X : St O → Prop) (ob : Obj) (xs : List Rw) (es : List (Rw × Nat)) (clk : Nat) (lo hi : Int) (n c : Nat) (ys : List Rw) (r1 : Nat) (i : Int) : acode I P (Gm A7) (adraw P (Gm A7)) 1 (cd Try.f11 [true, true, true, true, true, false, true, false, false]) (j_trA (oO ob xs) es clk lo hi n c ys r1 i) (lpgL 1 [[(1, 1), (2, 2), (3, 3)], [(1, 1), (2, 2), (3, 3), (4, 4)], [(1, 1), (2, 2), (3, 3), (5, 4)], [(1, 1), (2, 2), (3, 3), (6, 4)], [(1, 1), (2, 2), (3, 3), (7, 4)], [(1, 1), (2, 2), (3, 3), (8, 4)], [(1, 1), (2, 2), (3, 3), (9, 4)]] [3, 4, 7, 8, 25, 26, 27] 5 X (ablock 0 (athen (cd Try.f11 [true, true, true, true, true, true]) (fun s => acode I P (Gm A7) (adraw P (Gm A7)) 1 (cd Try.f11 [true, true, true, true, true, true]) s (kret P Try.f11 (K))) (kret P Try.f11 (K))))) =
  (bsplit (decide (i < (↑n : Int))) fun | true => (must (decide ((0 : Int) ≤ i ∧ i < (↑n : Int))) (xget (ys) (i.toNat) fun x0 => (bsplit (decide ((mrow (encS x0 0 (Sh.i IntKind.i64)) es).i ((1 : Nat) + 1) ≤ lo)) fun | true => (bsplit (decide ((mrow (encS x0 0 (Sh.i IntKind.i64)) es).i ((1 : Nat) + 1 + 1) ≥ hi)) fun | true => (((0 : Nat) + (1 : Nat) ≤ (137438953472 : Nat)) ∧ (∀ (c'1 : Nat), ((0 : Nat) + 1 ≤ c'1 → (c'1 ≤ 9223372036854775807 → (X ⟨(.node (.node (.node (.node .leaf (some (.map 1)) .leaf) (some (.int IntKind.i64 (lo))) (.node .leaf none (.node .leaf (some (.int IntKind.i64 (IntKind.i64.wrap (i + 1)))) .leaf))) none (.node (.node .leaf none (.node .leaf (some (.sl 3 0 (n) (c))) .leaf)) none .leaf)) none (.node (.node (.node .leaf (some (.sl 4 0 1 (c'1))) .leaf) (some (.int IntKind.i64 (hi))) .leaf) none (.node (.node .leaf none (.node .leaf (some (.int IntKind.i64 ((↑n : Int)))) .leaf)) none .leaf))), (.node (.node (.node .leaf (some (.rows 3 [Sh.i IntKind.i64] (ys) (r1))) .leaf) (some (.mp { kt := Sh.i IntKind.i64, vs := [Sh.i IntKind.i64, Sh.i IntKind.i64, Sh.i IntKind.i64], agg := true } (es) (clk))) .leaf) (some (AO.out ob cS xs)) (.node (.node .leaf (some (.rows 3 [Sh.i IntKind.i64] (([] : List Rw) ++ ((rwA [(.int IntKind.i64 ((x0).i 0))]) :: [])) (c'1 * [Sh.i IntKind.i64].length))) .leaf) (some (.kb 43 (.map 1))) .leaf)), 5, 50⟩))))) | false => (X ⟨(.node (.node (.node (.node .leaf (some (.map 1)) .leaf) (some (.int IntKind.i64 (lo))) (.node .leaf none (.node .leaf (some (.int IntKind.i64 (IntKind.i64.wrap (i + 1)))) .leaf))) none (.node (.node .leaf none (.node .leaf (some (.sl 3 0 (n) (c))) .leaf)) none .leaf)) none (.node (.node (.node .leaf (some .nils) .leaf) (some (.int IntKind.i64 (hi))) .leaf) none (.node (.node .leaf none (.node .leaf (some (.int IntKind.i64 ((↑n : Int)))) .leaf)) none .leaf))), (.node (.node (.node .leaf (some (.rows 3 [Sh.i IntKind.i64] (ys) (r1))) .leaf) (some (.mp { kt := Sh.i IntKind.i64, vs := [Sh.i IntKind.i64, Sh.i IntKind.i64, Sh.i IntKind.i64], agg := true } (es) (clk))) .leaf) (some (AO.out ob cS xs)) (.node .leaf (some (.kb 43 (.map 1))) .leaf)), 5, 50⟩)) | false => (X ⟨(.node (.node (.node (.node .leaf (some (.map 1)) .leaf) (some (.int IntKind.i64 (lo))) (.node .leaf none (.node .leaf (some (.int IntKind.i64 (IntKind.i64.wrap (i + 1)))) .leaf))) none (.node (.node .leaf none (.node .leaf (some (.sl 3 0 (n) (c))) .leaf)) none .leaf)) none (.node (.node (.node .leaf (some .nils) .leaf) (some (.int IntKind.i64 (hi))) .leaf) none (.node (.node .leaf none (.node .leaf (some (.int IntKind.i64 ((↑n : Int)))) .leaf)) none .leaf))), (.node (.node (.node .leaf (some (.rows 3 [Sh.i IntKind.i64] (ys) (r1))) .leaf) (some (.mp { kt := Sh.i IntKind.i64, vs := [Sh.i IntKind.i64, Sh.i IntKind.i64, Sh.i IntKind.i64], agg := true } (es) (clk))) .leaf) (some (AO.out ob cS xs)) (.node .leaf (some (.kb 43 (.map 1))) .leaf)), 5, 50⟩)))) | false => (K .nils (.node (.node (.node .leaf (some (.rows 3 [Sh.i IntKind.i64] (ys) (r1))) .leaf) (some (.mp { kt := Sh.i IntKind.i64, vs := [Sh.i IntKind.i64, Sh.i IntKind.i64, Sh.i IntKind.i64], agg := true } (es) (clk))) .leaf) (some (AO.out ob cS xs)) (.node .leaf (some (.kb 43 (.map 1))) .leaf)) 5)) := by kernel_rfl
theorem t_trBO (I : Interp O) (K : AV → Tr (AO O) → Nat → Prop) (X : St O → Prop) (ob : Obj) (xs : List Rw) (es : List (Rw × Nat)) (clk : Nat) (lo hi : Int) (n c : Nat) (ys : List Rw) (r1 : Nat) (i : Int) (k d : Nat) (out : List Rw) (r2 : Nat) : acode I P (Gm A7) (adraw P (Gm A7)) 1 (cd Try.f11 [true, true, true, true, true, false, true, false, false]) (j_trB (oO ob xs) es clk lo hi n c ys r1 i k d out r2) (lpgL 1 [[(1, 1), (2, 2), (3, 3)], [(1, 1), (2, 2), (3, 3), (4, 4)], [(1, 1), (2, 2), (3, 3), (5, 4)], [(1, 1), (2, 2), (3, 3), (6, 4)], [(1, 1), (2, 2), (3, 3), (7, 4)], [(1, 1), (2, 2), (3, 3), (8, 4)], [(1, 1), (2, 2), (3, 3), (9, 4)]] [3, 4, 7, 8, 25, 26, 27] 5 X (ablock 0 (athen (cd Try.f11 [true, true, true, true, true, true]) (fun s => acode I P (Gm A7) (adraw P (Gm A7)) 1 (cd Try.f11 [true, true, true, true, true, true]) s (kret P Try.f11 (K))) (kret P Try.f11 (K))))) =
  (bsplit (decide (i < (↑n : Int))) fun | true => (must (decide ((0 : Int) ≤ i ∧ i < (↑n : Int))) (xget (ys) (i.toNat) fun x0 => (bsplit (decide ((mrow (encS x0 0 (Sh.i IntKind.i64)) es).i ((1 : Nat) + 1) ≤ lo)) fun | true => (bsplit (decide ((mrow (encS x0 0 (Sh.i IntKind.i64)) es).i ((1 : Nat) + 1 + 1) ≥ hi)) fun | true => (must (k.ble out.length && (d * [Sh.i IntKind.i64].length).ble r2 && Nat.blt 4 16777215) ((k + (1 : Nat) ≤ (137438953472 : Nat)) ∧ (∀ (c'1 : Nat), (k + 1 ≤ c'1 → (c'1 ≤ 9223372036854775807 → (X ⟨(.node (.node (.node (.node .leaf (some (.map 1)) .leaf) (some (.int IntKind.i64 (lo))) (.node .leaf none (.node .leaf (some (.int IntKind.i64 (IntKind.i64.wrap (i + 1)))) .leaf))) none (.node (.node .leaf none (.node .leaf (some (.sl 3 0 (n) (c))) .leaf)) none .leaf)) none (.node (.node (.node .leaf (some (.sl 4 0 (k + 1) (c'1))) .leaf) (some (.int IntKind.i64 (hi))) .leaf) none (.node (.node .leaf none (.node .leaf (some (.int IntKind.i64 ((↑n : Int)))) .leaf)) none .leaf))), (.node (.node (.node .leaf (some (.rows 3 [Sh.i IntKind.i64] (ys) (r1))) .leaf) (some (.mp { kt := Sh.i IntKind.i64, vs := [Sh.i IntKind.i64, Sh.i IntKind.i64, Sh.i IntKind.i64], agg := true } (es) (clk))) .leaf) (some (AO.out ob cS xs)) (.node (.node .leaf (some (.rows 3 [Sh.i IntKind.i64] ((List.take k out) ++ ((rwA [(.int IntKind.i64 ((x0).i 0))]) :: [])) (c'1 * [Sh.i IntKind.i64].length))) .leaf) (some (.kb 43 (.map 1))) .leaf)), 5, 50⟩)))))) | false => (X ⟨(.node (.node (.node (.node .leaf (some (.map 1)) .leaf) (some (.int IntKind.i64 (lo))) (.node .leaf none (.node .leaf (some (.int IntKind.i64 (IntKind.i64.wrap (i + 1)))) .leaf))) none (.node (.node .leaf none (.node .leaf (some (.sl 3 0 (n) (c))) .leaf)) none .leaf)) none (.node (.node (.node .leaf (some (.sl 4 0 (k) (d))) .leaf) (some (.int IntKind.i64 (hi))) .leaf) none (.node (.node .leaf none (.node .leaf (some (.int IntKind.i64 ((↑n : Int)))) .leaf)) none .leaf))), (.node (.node (.node .leaf (some (.rows 3 [Sh.i IntKind.i64] (ys) (r1))) .leaf) (some (.mp { kt := Sh.i IntKind.i64, vs := [Sh.i IntKind.i64, Sh.i IntKind.i64, Sh.i IntKind.i64], agg := true } (es) (clk))) .leaf) (some (AO.out ob cS xs)) (.node (.node .leaf (some (.rows 3 [Sh.i IntKind.i64] (out) (r2))) .leaf) (some (.kb 43 (.map 1))) .leaf)), 5, 50⟩)) | false => (X ⟨(.node (.node (.node (.node .leaf (some (.map 1)) .leaf) (some (.int IntKind.i64 (lo))) (.node .leaf none (.node .leaf (some (.int IntKind.i64 (IntKind.i64.wrap (i + 1)))) .leaf))) none (.node (.node .leaf none (.node .leaf (some (.sl 3 0 (n) (c))) .leaf)) none .leaf)) none (.node (.node (.node .leaf (some (.sl 4 0 (k) (d))) .leaf) (some (.int IntKind.i64 (hi))) .leaf) none (.node (.node .leaf none (.node .leaf (some (.int IntKind.i64 ((↑n : Int)))) .leaf)) none .leaf))), (.node (.node (.node .leaf (some (.rows 3 [Sh.i IntKind.i64] (ys) (r1))) .leaf) (some (.mp { kt := Sh.i IntKind.i64, vs := [Sh.i IntKind.i64, Sh.i IntKind.i64, Sh.i IntKind.i64], agg := true } (es) (clk))) .leaf) (some (AO.out ob cS xs)) (.node (.node .leaf (some (.rows 3 [Sh.i IntKind.i64] (out) (r2))) .leaf) (some (.kb 43 (.map 1))) .leaf)), 5, 50⟩)))) | false => (K (.sl 4 0 (k) (d)) (.node (.node (.node .leaf (some (.rows 3 [Sh.i IntKind.i64] (ys) (r1))) .leaf) (some (.mp { kt := Sh.i IntKind.i64, vs := [Sh.i IntKind.i64, Sh.i IntKind.i64, Sh.i IntKind.i64], agg := true } (es) (clk))) .leaf) (some (AO.out ob cS xs)) (.node (.node .leaf (some (.rows 3 [Sh.i IntKind.i64] (out) (r2))) .leaf) (some (.kb 43 (.map 1))) .leaf)) 5)) := by kernel_rfl
end W
end Go.Tb

/-
  DERIVED: THE SHELF's CONTRACTS AT THIS DUMP, IN PLAIN WORDS (tools/lay-plain.mjs out of 'YtnljoapmieepeaaSh.lean', which tools/lay-shelf.mjs wrote): THE SAME DECLARATIONS UNDER THE SAME YtnljoapmieepeaaS: 'import', 'namespace', 'open', 'def', 'theorem' AND NOTHING ELSE: no command of the shelf's: FOR A HAND-IN. Each laying: the table of numbers ('.._ren') and one theorem, a field a fact of the dump's own or the kernel's comparison; each contract: ONE APPLICATION.
-/
namespace Go.Proofs
open Go.Shelf
def Try.keysA_ren : Go.Shelf.Ren := ⟨fun | 7 => 18 | 10 => 24 | n => n, fun | 23 => 43 | 26 => 3 | 3 => 31 | 28 => 51 | 0 => 0 | 27 => 50 | 33 => 59 | 4 => 4 | n => n, fun | n => n⟩
theorem Try.keysA : Go.Proofs.SlLaysZI.n7 Try.prog Try.keysA_ren := {
  mixed := by kernel_rfl
  f7 := ⟨Try.f18.name, by decide, Try.func18.trans (congrArg some (by kernel_rfl))⟩
  f10 := ⟨Try.f24.name, by decide, Try.func24.trans (congrArg some (by kernel_rfl))⟩
  t0 := Try.underlying0
  a0 := Try.isAgg0
  z0 := Try.sizeOf0
  v0 := Try.zeroValue0
  t4 := Try.underlying4
  a4 := Try.isAgg4
  z4 := Try.sizeOf4
  v4 := Try.zeroValue4
  t23 := Try.underlying43
  a23 := Try.isAgg43
  z23 := Try.sizeOf43
  v23 := Try.zeroValue43
  t26 := Try.underlying3
  a26 := Try.isAgg3
  z26 := Try.sizeOf3
  v26 := Try.zeroValue3
  t27 := Try.underlying50
  a27 := Try.isAgg50
  z27 := Try.sizeOf50
  v27 := Try.zeroValue50
  t28 := Try.underlying51
  a28 := Try.isAgg51
  z28 := Try.sizeOf51
  v28 := Try.zeroValue51
  t33 := Try.underlying59
  a33 := Try.isAgg59
  z33 := Try.sizeOf59
  v33 := Try.zeroValue59 }
def Try.sortedA_ren : Go.Shelf.Ren := ⟨fun | 6 => 17 | 8 => 22 | 9 => 23 | 11 => 28 | 13 => 26 | 12 => 29 | 23 => 38 | 24 => 39 | 14 => 41 | 15 => 42 | 16 => 43 | 17 => 44 | 18 => 45 | 19 => 46 | 20 => 47 | 21 => 48 | 22 => 49 | 25 => 55 | 26 => 51 | 27 => 52 | 28 => 56 | 29 => 57 | 30 => 58 | 31 => 60 | n => n, fun | 26 => 3 | 28 => 51 | 24 => 36 | 0 => 0 | 3 => 3 | 37 => 41 | 48 => 74 | 50 => 76 | 4 => 4 | 40 => 67 | 39 => 66 | 45 => 71 | 5 => 5 | 9 => 9 | 51 => 84 | 55 => 88 | 57 => 92 | 58 => 93 | 33 => 59 | n => n, fun | n => n⟩
theorem Try.sortedA : Go.Proofs.SlLaysZI.n6 Try.prog Try.sortedA_ren := {
  mixed := by kernel_rfl
  f6 := ⟨Try.f17.name, by decide, Try.func17.trans (congrArg some (by kernel_rfl))⟩
  f8 := ⟨Try.f22.name, by decide, Try.func22.trans (congrArg some (by kernel_rfl))⟩
  f11 := ⟨Try.f28.name, by decide, Try.func28.trans (congrArg some (by kernel_rfl))⟩
  t0 := Try.underlying0
  a0 := Try.isAgg0
  z0 := Try.sizeOf0
  v0 := Try.zeroValue0
  t24 := Try.underlying36
  a24 := Try.isAgg36
  z24 := Try.sizeOf36
  v24 := Try.zeroValue36
  t26 := Try.underlying3
  a26 := Try.isAgg3
  z26 := Try.sizeOf3
  v26 := Try.zeroValue3
  t28 := Try.underlying51
  a28 := Try.isAgg51
  z28 := Try.sizeOf51
  v28 := Try.zeroValue51
  i26 := by kernel_rfl }
def Try.sortA_ren : Go.Shelf.Ren := ⟨fun | 5 => 23 | 8 => 26 | 7 => 29 | 19 => 38 | 20 => 39 | 10 => 41 | 11 => 42 | 12 => 43 | 13 => 44 | 14 => 45 | 15 => 46 | 16 => 47 | 17 => 48 | 18 => 49 | 30 => 55 | 31 => 51 | 32 => 52 | 33 => 56 | 34 => 57 | 35 => 58 | 40 => 60 | n => n, fun | 23 => 36 | 25 => 3 | 3 => 3 | 32 => 41 | 22 => 36 | 0 => 0 | 44 => 74 | 46 => 76 | 4 => 4 | 36 => 67 | 35 => 66 | 41 => 71 | 5 => 5 | 9 => 9 | 53 => 84 | 57 => 88 | 63 => 92 | 64 => 93 | n => n, fun | n => n⟩
theorem Try.sortA : Go.Proofs.SlLaysM.n5 Try.prog Try.sortA_ren := {
  mixed := by kernel_rfl
  f5 := ⟨Try.f23.name, by decide, Try.func23.trans (congrArg some (by kernel_rfl))⟩
  f7 := ⟨Try.f29.name, by decide, Try.func29.trans (congrArg some (by kernel_rfl))⟩
  f8 := Try.func26.trans (congrArg some (by kernel_rfl))
  f10 := ⟨Try.f41.name, by decide, Try.func41.trans (congrArg some (by kernel_rfl))⟩
  f11 := ⟨Try.f42.name, by decide, Try.func42.trans (congrArg some (by kernel_rfl))⟩
  f12 := ⟨Try.f43.name, by decide, Try.func43.trans (congrArg some (by kernel_rfl))⟩
  f13 := ⟨Try.f44.name, by decide, Try.func44.trans (congrArg some (by kernel_rfl))⟩
  f14 := ⟨Try.f45.name, by decide, Try.func45.trans (congrArg some (by kernel_rfl))⟩
  f15 := ⟨Try.f46.name, by decide, Try.func46.trans (congrArg some (by kernel_rfl))⟩
  f16 := ⟨Try.f47.name, by decide, Try.func47.trans (congrArg some (by kernel_rfl))⟩
  f17 := ⟨Try.f48.name, by decide, Try.func48.trans (congrArg some (by kernel_rfl))⟩
  f18 := ⟨Try.f49.name, by decide, Try.func49.trans (congrArg some (by kernel_rfl))⟩
  f19 := Try.func38.trans (congrArg some (by kernel_rfl))
  f20 := Try.func39.trans (congrArg some (by kernel_rfl))
  f30 := ⟨Try.f55.name, by decide, Try.func55.trans (congrArg some (by kernel_rfl))⟩
  f31 := Try.func51.trans (congrArg some (by kernel_rfl))
  f32 := Try.func52.trans (congrArg some (by kernel_rfl))
  f33 := ⟨Try.f56.name, by decide, Try.func56.trans (congrArg some (by kernel_rfl))⟩
  f34 := ⟨Try.f57.name, by decide, Try.func57.trans (congrArg some (by kernel_rfl))⟩
  f35 := ⟨Try.f58.name, by decide, Try.func58.trans (congrArg some (by kernel_rfl))⟩
  f40 := ⟨Try.f60.name, by decide, Try.func60.trans (congrArg some (by kernel_rfl))⟩
  t0 := Try.underlying0
  a0 := Try.isAgg0
  z0 := Try.sizeOf0
  v0 := Try.zeroValue0
  t3 := Try.underlying3
  a3 := Try.isAgg3
  z3 := Try.sizeOf3
  v3 := Try.zeroValue3
  t4 := Try.underlying4
  a4 := Try.isAgg4
  z4 := Try.sizeOf4
  v4 := Try.zeroValue4
  t5 := Try.underlying5
  a5 := Try.isAgg5
  z5 := Try.sizeOf5
  v5 := Try.zeroValue5
  t9 := Try.underlying9
  a9 := Try.isAgg9
  z9 := Try.sizeOf9
  v9 := Try.zeroValue9
  t22 := Try.underlying36
  a22 := Try.isAgg36
  z22 := Try.sizeOf36
  v22 := Try.zeroValue36
  t23 := Try.underlying36
  a23 := Try.isAgg36
  z23 := Try.sizeOf36
  v23 := Try.zeroValue36
  t25 := Try.underlying3
  a25 := Try.isAgg3
  z25 := Try.sizeOf3
  v25 := Try.zeroValue3
  t32 := Try.underlying41
  a32 := Try.isAgg41
  z32 := Try.sizeOf41
  v32 := Try.zeroValue41
  t35 := Try.underlying66
  a35 := Try.isAgg66
  z35 := Try.sizeOf66
  v35 := Try.zeroValue66
  t36 := Try.underlying67
  a36 := Try.isAgg67
  z36 := Try.sizeOf67
  v36 := Try.zeroValue67
  t41 := Try.underlying71
  a41 := Try.isAgg71
  z41 := Try.sizeOf71
  v41 := Try.zeroValue71
  t44 := Try.underlying74
  a44 := Try.isAgg74
  z44 := Try.sizeOf74
  v44 := Try.zeroValue74
  t46 := Try.underlying76
  a46 := Try.isAgg76
  z46 := Try.sizeOf76
  v46 := Try.zeroValue76
  t53 := Try.underlying84
  a53 := Try.isAgg84
  z53 := Try.sizeOf84
  v53 := Try.zeroValue84
  t57 := Try.underlying88
  a57 := Try.isAgg88
  z57 := Try.sizeOf88
  v57 := Try.zeroValue88
  t63 := Try.underlying92
  a63 := Try.isAgg92
  z63 := Try.sizeOf92
  v63 := Try.zeroValue92
  t64 := Try.underlying93
  a64 := Try.isAgg93
  z64 := Try.sizeOf93
  v64 := Try.zeroValue93 }
def Try.bitsLen_ren : Go.Shelf.Ren := ⟨fun | 125 => 26 | 128 => 38 | 129 => 39 | n => n, fun | 46 => 41 | 3 => 3 | 51 => 74 | 53 => 76 | 4 => 4 | 5 => 5 | 9 => 9 | n => n, fun | n => n⟩
theorem Try.bitsLen : Go.Proofs.Lays.n125 Try.prog Try.bitsLen_ren := {
  mixed := by kernel_rfl
  f125 := Try.func26.trans (congrArg some (by kernel_rfl))
  f128 := Try.func38.trans (congrArg some (by kernel_rfl))
  f129 := Try.func39.trans (congrArg some (by kernel_rfl))
  t3 := Try.underlying3
  a3 := Try.isAgg3
  z3 := Try.sizeOf3
  v3 := Try.zeroValue3
  t4 := Try.underlying4
  a4 := Try.isAgg4
  z4 := Try.sizeOf4
  v4 := Try.zeroValue4
  t5 := Try.underlying5
  a5 := Try.isAgg5
  z5 := Try.sizeOf5
  v5 := Try.zeroValue5
  t9 := Try.underlying9
  a9 := Try.isAgg9
  z9 := Try.sizeOf9
  v9 := Try.zeroValue9
  t46 := Try.underlying41
  a46 := Try.isAgg41
  z46 := Try.sizeOf41
  v46 := Try.zeroValue41
  t51 := Try.underlying74
  a51 := Try.isAgg74
  z51 := Try.sizeOf74
  v51 := Try.zeroValue74
  t53 := Try.underlying76
  a53 := Try.isAgg76
  z53 := Try.sizeOf76
  v53 := Try.zeroValue76 }
end Go.Proofs

/- What the functions' bodies come to: each line is what the abstract machine makes of one function, or of one round of a loop, over the contracts of the functions that it calls (the text was printed by a program of mine; Lean proves it again). -/
set_option linter.all false
set_option maxRecDepth 100000
set_option maxHeartbeats 0
namespace Go.Tb
open Go Go.Proofs
namespace W
theorem t_may (I : Interp O) (K : AV → Prop) (id lo hi : Int) : abody I P (Gm N0) (adraw P (Gm N0)) 0 Try.f12 [.agg [.int .i64 id, .int .i64 lo, .int .i64 hi]] .leaf 0 (fun v _ _ => K v) =
  (bsplit (decide (id ≥ 0)) fun | true => (bsplit (decide (lo ≤ hi)) fun | true => (bsplit (decide (lo ≥ -1152921504606846976)) fun | true => (K (.bool (decide (hi ≤ 1152921504606846976)))) | false => (K (.bool false))) | false => (K (.bool false))) | false => (K (.bool false))) := by kernel_rfl
theorem t_not (I : Interp O) (K : AV → Prop) (id lo hi : Int) : abody I P (Gm A1) (adraw P (Gm A1)) 0 Try.f14 [.agg [.int .i64 id, .int .i64 lo, .int .i64 hi]] .leaf 0 (fun v _ _ => K v) =
  (K (.bool (!mayC id lo hi))) := by kernel_rfl
theorem t_mid (I : Interp O) (K : AV → Prop) (a b : Int) : abody I P (Gm N0) (adraw P (Gm N0)) 0 Try.f8 [.int .i64 a, .int .i64 b] .leaf 0 (fun v _ _ => K v) =
  (K (.int IntKind.i64 (IntKind.i64.wrap (bits BinOp.and IntKind.i64 a b + (bits BinOp.xor IntKind.i64 a b).fdiv (2 ^ min (Int.toNat 1) IntKind.i64.bits))))) := by kernel_rfl
theorem t_rmid (I : Interp O) (K : AV → Prop) (a b : Int) : abody I P (Gm N0) (adraw P (Gm N0)) 0 Try.f9 [.int .i64 a, .int .i64 b] .leaf 0 (fun v _ _ => K v) =
  (K (.int IntKind.i64 (IntKind.i64.wrap (IntKind.i64.wrap (a.fdiv (2 ^ min (Int.toNat 1) IntKind.i64.bits) + b.fdiv (2 ^ min (Int.toNat 1) IntKind.i64.bits)) + IntKind.i64.wrap ((IntKind.i64.wrap (bits BinOp.and IntKind.i64 a 1 + bits BinOp.and IntKind.i64 b 1)).tdiv 2))))) := by kernel_rfl
theorem t_indexN (I : Interp O) (K : AV → Tr (AO O) → Nat → Prop) : abody I P (Gm A2) (adraw P (Gm A2)) 0 Try.f19 [.nils, .fn (.func 14) [] []] (Tr.ofList 0 [] .leaf) 0 K =
  (ALoop I 0 (cd Try.f19 [true, false, true, false, false]) (acode I P (Gm A2) (adraw P (Gm A2)) 0 (cd Try.f19 [true, false, true, false, false])) (ablock 0 (athen (cd Try.f19 [true, true]) (fun s => acode I P (Gm A2) (adraw P (Gm A2)) 0 (cd Try.f19 [true, true]) s (kret P Try.f19 (K))) (kret P Try.f19 (K)))) ⟨(.node (.node (.node (.node .leaf (some (.int IntKind.i64 (0 : Int))) .leaf) none .leaf) (some (.fn (Fn.func 14) [] [])) .leaf) (some .nils) (.node (.node (.node .leaf (some (.int IntKind.i64 (0 : Int))) .leaf) (some (.int IntKind.i64 (0 : Int))) .leaf) none (.node .leaf (some .nils) .leaf))), .leaf, 0, 19⟩) := by kernel_rfl
theorem t_indexR (I : Interp O) (K : AV → Tr (AO O) → Nat → Prop) (l c room : Nat) (xs : List Rw) : abody I P (Gm A2) (adraw P (Gm A2)) 1 Try.f19 [.sl 0 0 l c, .fn (.func 14) [] []] (Tr.ofList 0 [cO xs room] .leaf) 1 K =
  (ALoop I 1 (cd Try.f19 [true, false, true, false, false]) (acode I P (Gm A2) (adraw P (Gm A2)) 1 (cd Try.f19 [true, false, true, false, false])) (ablock 0 (athen (cd Try.f19 [true, true]) (fun s => acode I P (Gm A2) (adraw P (Gm A2)) 1 (cd Try.f19 [true, true]) s (kret P Try.f19 (K))) (kret P Try.f19 (K)))) ⟨(.node (.node (.node (.node .leaf (some (.int IntKind.i64 ((↑l : Int)))) .leaf) none .leaf) (some (.fn (Fn.func 14) [] [])) .leaf) (some (.sl 0 0 (l) (c))) (.node (.node (.node .leaf (some (.int IntKind.i64 (0 : Int))) .leaf) (some (.int IntKind.i64 (0 : Int))) .leaf) none (.node .leaf (some (.sl 0 0 (l) (c))) .leaf))), (.node .leaf (some (.rows 31 [Sh.i IntKind.i64, Sh.i IntKind.i64, Sh.i IntKind.i64] (xs) (room))) .leaf), 1, 19⟩) := by kernel_rfl
theorem t_indexO (I : Interp O) (K : AV → Tr (AO O) → Nat → Prop) (l c : Nat) (ob : Obj) (xs : List Rw) : abody I P (Gm A2) (adraw P (Gm A2)) 1 Try.f19 [.sl 0 0 l c, .fn (.func 14) [] []] (Tr.ofList 0 [oO ob xs] .leaf) 1 K =
  (ALoop I 1 (cd Try.f19 [true, false, true, false, false]) (acode I P (Gm A2) (adraw P (Gm A2)) 1 (cd Try.f19 [true, false, true, false, false])) (ablock 0 (athen (cd Try.f19 [true, true]) (fun s => acode I P (Gm A2) (adraw P (Gm A2)) 1 (cd Try.f19 [true, true]) s (kret P Try.f19 (K))) (kret P Try.f19 (K)))) ⟨(.node (.node (.node (.node .leaf (some (.int IntKind.i64 ((↑l : Int)))) .leaf) none .leaf) (some (.fn (Fn.func 14) [] [])) .leaf) (some (.sl 0 0 (l) (c))) (.node (.node (.node .leaf (some (.int IntKind.i64 (0 : Int))) .leaf) (some (.int IntKind.i64 (0 : Int))) .leaf) none (.node .leaf (some (.sl 0 0 (l) (c))) .leaf))), (.node .leaf (some (AO.out ob cS xs)) .leaf), 1, 19⟩) := by kernel_rfl
theorem t_containsN (I : Interp O) (K : AV → Tr (AO O) → Nat → Prop) : abody I P (Gm A3) (adraw P (Gm A3)) 0 Try.f13 [.nils, .fn (.func 14) [] []] (Tr.ofList 0 [] .leaf) 0 K =
  (K (.bool false) .leaf 0) := by kernel_rfl
theorem t_containsR (I : Interp O) (K : AV → Tr (AO O) → Nat → Prop) (l c room : Nat) (xs : List Rw) : abody I P (Gm A3) (adraw P (Gm A3)) 1 Try.f13 [.sl 0 0 l c, .fn (.func 14) [] []] (Tr.ofList 0 [cO xs room] .leaf) 1 K =
  ((l ≤ xs.length) ∧ (K (.bool (decide (badI (List.take l xs) ≥ 0))) (.node .leaf (some (.rows 31 [Sh.i IntKind.i64, Sh.i IntKind.i64, Sh.i IntKind.i64] (xs) (room))) .leaf) 1)) := by kernel_rfl
theorem t_containsO (I : Interp O) (K : AV → Tr (AO O) → Nat → Prop) (l c : Nat) (ob : Obj) (xs : List Rw) : abody I P (Gm A3) (adraw P (Gm A3)) 1 Try.f13 [.sl 0 0 l c, .fn (.func 14) [] []] (Tr.ofList 0 [oO ob xs] .leaf) 1 K =
  ((l ≤ xs.length) ∧ (K (.bool (decide (badI (List.take l xs) ≥ 0))) (.node .leaf (some (AO.out ob cS xs)) .leaf) 1)) := by kernel_rfl
theorem t_lastN (I : Interp O) (K : AV → Tr (AO O) → Nat → Prop) : abody I P (Gm N0) (adraw P (Gm N0)) 0 Try.f15 [.nils] (Tr.ofList 0 [] .leaf) 0 K =
  (ALoop I 0 (cd Try.f15 [true, true, false, true, false, false]) (acode I P (Gm N0) (adraw P (Gm N0)) 0 (cd Try.f15 [true, true, false, true, false, false])) (ablock 0 (athen (cd Try.f15 [true, true, true]) (fun s => acode I P (Gm N0) (adraw P (Gm N0)) 0 (cd Try.f15 [true, true, true]) s (kret P Try.f15 (K))) (kret P Try.f15 (K)))) ⟨(.node (.node (.node (.node .leaf (some .nils) .leaf) (some (.map 0)) .leaf) none (.node (.node .leaf (some (.int IntKind.i64 (0 : Int))) .leaf) none .leaf)) (some .nils) (.node (.node (.node .leaf (some (.int IntKind.i64 (0 : Int))) .leaf) none .leaf) (some .nilm) (.node .leaf (some (.map 0)) .leaf))), (.node .leaf (some (.mp mC [] 0)) .leaf), 1, 19⟩) := by kernel_rfl
theorem t_lastR (I : Interp O) (K : AV → Tr (AO O) → Nat → Prop) (l c room : Nat) (xs : List Rw) : abody I P (Gm N0) (adraw P (Gm N0)) 1 Try.f15 [.sl 0 0 l c] (Tr.ofList 0 [cO xs room] .leaf) 1 K =
  (ALoop I 1 (cd Try.f15 [true, true, false, true, false, false]) (acode I P (Gm N0) (adraw P (Gm N0)) 1 (cd Try.f15 [true, true, false, true, false, false])) (ablock 0 (athen (cd Try.f15 [true, true, true]) (fun s => acode I P (Gm N0) (adraw P (Gm N0)) 1 (cd Try.f15 [true, true, true]) s (kret P Try.f15 (K))) (kret P Try.f15 (K)))) ⟨(.node (.node (.node (.node .leaf (some (.sl 0 0 (l) (c))) .leaf) (some (.map 1)) .leaf) none (.node (.node .leaf (some (.int IntKind.i64 (0 : Int))) .leaf) none .leaf)) (some (.sl 0 0 (l) (c))) (.node (.node (.node .leaf (some (.int IntKind.i64 ((↑l : Int)))) .leaf) none .leaf) (some .nilm) (.node .leaf (some (.map 1)) .leaf))), (.node (.node .leaf (some (.mp mC [] 0)) .leaf) (some (.rows 31 [Sh.i IntKind.i64, Sh.i IntKind.i64, Sh.i IntKind.i64] (xs) (room))) .leaf), 2, 19⟩) := by kernel_rfl
theorem t_lastO (I : Interp O) (K : AV → Tr (AO O) → Nat → Prop) (l c : Nat) (ob : Obj) (xs : List Rw) : abody I P (Gm N0) (adraw P (Gm N0)) 1 Try.f15 [.sl 0 0 l c] (Tr.ofList 0 [oO ob xs] .leaf) 1 K =
  (ALoop I 1 (cd Try.f15 [true, true, false, true, false, false]) (acode I P (Gm N0) (adraw P (Gm N0)) 1 (cd Try.f15 [true, true, false, true, false, false])) (ablock 0 (athen (cd Try.f15 [true, true, true]) (fun s => acode I P (Gm N0) (adraw P (Gm N0)) 1 (cd Try.f15 [true, true, true]) s (kret P Try.f15 (K))) (kret P Try.f15 (K)))) ⟨(.node (.node (.node (.node .leaf (some (.sl 0 0 (l) (c))) .leaf) (some (.map 1)) .leaf) none (.node (.node .leaf (some (.int IntKind.i64 (0 : Int))) .leaf) none .leaf)) (some (.sl 0 0 (l) (c))) (.node (.node (.node .leaf (some (.int IntKind.i64 ((↑l : Int)))) .leaf) none .leaf) (some .nilm) (.node .leaf (some (.map 1)) .leaf))), (.node (.node .leaf (some (.mp mC [] 0)) .leaf) (some (AO.out ob cS xs)) .leaf), 2, 19⟩) := by kernel_rfl
theorem t_ixN (I : Interp O) (K : AV → Tr (AO O) → Nat → Prop) (X : St O → Prop) : acode I P (Gm A2) (adraw P (Gm A2)) 0 (cd Try.f19 [true, false, true, false, false]) (j_ixN) (lpg 0 [] [0, 1, 7, 8] 0 X (ablock 0 (athen (cd Try.f19 [true, true]) (fun s => acode I P (Gm A2) (adraw P (Gm A2)) 0 (cd Try.f19 [true, true]) s (kret P Try.f19 (K))) (kret P Try.f19 (K))))) =
  (K (.int IntKind.i64 (-1 : Int)) .leaf 0) := by kernel_rfl
theorem t_ixR (I : Interp O) (K : AV → Tr (AO O) → Nat → Prop) (X : St O → Prop) (l c room : Nat) (xs : List Rw) (i : Int) : acode I P (Gm A2) (adraw P (Gm A2)) 1 (cd Try.f19 [true, false, true, false, false]) (j_ixR l c room xs i) (lpg 1 [] [0, 1, 7, 8] 1 X (ablock 0 (athen (cd Try.f19 [true, true]) (fun s => acode I P (Gm A2) (adraw P (Gm A2)) 1 (cd Try.f19 [true, true]) s (kret P Try.f19 (K))) (kret P Try.f19 (K))))) =
  (bsplit (decide (i < (↑l : Int))) fun | true => (must (decide ((0 : Int) ≤ i ∧ i < (↑l : Int))) (xget (xs) (i.toNat) fun x0 => (bsplit (!mayC (x0.i 0) (x0.i ((0 : Nat) + 1)) (x0.i ((0 : Nat) + 1 + 1))) fun | true => (K (.int IntKind.i64 (i)) (.node .leaf (some (.rows 31 [Sh.i IntKind.i64, Sh.i IntKind.i64, Sh.i IntKind.i64] (xs) (room))) .leaf) 1) | false => (X ⟨(.node (.node (.node (.node .leaf (some (.int IntKind.i64 ((↑l : Int)))) .leaf) none .leaf) (some (.fn (Fn.func 14) [] [])) .leaf) (some (.sl 0 0 (l) (c))) (.node (.node (.node .leaf (some (.int IntKind.i64 (IntKind.i64.wrap (i + 1)))) .leaf) none .leaf) none .leaf)), (.node .leaf (some (.rows 31 [Sh.i IntKind.i64, Sh.i IntKind.i64, Sh.i IntKind.i64] (xs) (room))) .leaf), 1, 19⟩)))) | false => (K (.int IntKind.i64 (-1 : Int)) (.node .leaf (some (.rows 31 [Sh.i IntKind.i64, Sh.i IntKind.i64, Sh.i IntKind.i64] (xs) (room))) .leaf) 1)) := by kernel_rfl
theorem t_ixO (I : Interp O) (K : AV → Tr (AO O) → Nat → Prop) (X : St O → Prop) (l c : Nat) (ob : Obj) (xs : List Rw) (i : Int) : acode I P (Gm A2) (adraw P (Gm A2)) 1 (cd Try.f19 [true, false, true, false, false]) (j_ixO l c ob xs i) (lpg 1 [] [0, 1, 7, 8] 1 X (ablock 0 (athen (cd Try.f19 [true, true]) (fun s => acode I P (Gm A2) (adraw P (Gm A2)) 1 (cd Try.f19 [true, true]) s (kret P Try.f19 (K))) (kret P Try.f19 (K))))) =
  (bsplit (decide (i < (↑l : Int))) fun | true => (must (decide ((0 : Int) ≤ i ∧ i < (↑l : Int))) (xget (xs) (i.toNat) fun x0 => (bsplit (!mayC (x0.i 0) (x0.i ((0 : Nat) + 1)) (x0.i ((0 : Nat) + 1 + 1))) fun | true => (K (.int IntKind.i64 (i)) (.node .leaf (some (AO.out ob cS xs)) .leaf) 1) | false => (X ⟨(.node (.node (.node (.node .leaf (some (.int IntKind.i64 ((↑l : Int)))) .leaf) none .leaf) (some (.fn (Fn.func 14) [] [])) .leaf) (some (.sl 0 0 (l) (c))) (.node (.node (.node .leaf (some (.int IntKind.i64 (IntKind.i64.wrap (i + 1)))) .leaf) none .leaf) none .leaf)), (.node .leaf (some (AO.out ob cS xs)) .leaf), 1, 19⟩)))) | false => (K (.int IntKind.i64 (-1 : Int)) (.node .leaf (some (AO.out ob cS xs)) .leaf) 1)) := by kernel_rfl
theorem t_laN (I : Interp O) (K : AV → Tr (AO O) → Nat → Prop) (X : St O → Prop) : acode I P (Gm N0) (adraw P (Gm N0)) 0 (cd Try.f15 [true, true, false, true, false, false]) (j_laN) (lpg 0 [(0, 0)] [3, 7, 8, 9] 1 X (ablock 0 (athen (cd Try.f15 [true, true, true]) (fun s => acode I P (Gm N0) (adraw P (Gm N0)) 0 (cd Try.f15 [true, true, true]) s (kret P Try.f15 (K))) (kret P Try.f15 (K))))) =
  (K (.map 0) (.node .leaf (some (.mp { kt := Sh.i IntKind.i64, vs := [Sh.i IntKind.i64, Sh.i IntKind.i64, Sh.i IntKind.i64], agg := true } [] 0)) .leaf) 1) := by kernel_rfl
theorem t_laR (I : Interp O) (K : AV → Tr (AO O) → Nat → Prop) (X : St O → Prop) (l c room : Nat) (xs : List Rw) (es : List (Rw × Nat)) (clk : Nat) (i : Int) : acode I P (Gm N0) (adraw P (Gm N0)) 1 (cd Try.f15 [true, true, false, true, false, false]) (j_laR l c room xs es clk i) (lpg 1 [(1, 1)] [3, 7, 8, 9] 2 X (ablock 0 (athen (cd Try.f15 [true, true, true]) (fun s => acode I P (Gm N0) (adraw P (Gm N0)) 1 (cd Try.f15 [true, true, true]) s (kret P Try.f15 (K))) (kret P Try.f15 (K))))) =
  (bsplit (decide (i < (↑l : Int))) fun | true => (must (decide ((0 : Int) ≤ i ∧ i < (↑l : Int))) (xget (xs) (i.toNat) fun x0 => (X ⟨(.node (.node (.node (.node .leaf (some (.sl 0 0 (l) (c))) .leaf) (some (.map 1)) .leaf) none (.node (.node .leaf (some (.int IntKind.i64 (IntKind.i64.wrap (i + 1)))) .leaf) none .leaf)) none (.node (.node (.node .leaf (some (.int IntKind.i64 ((↑l : Int)))) .leaf) none .leaf) none .leaf)), (.node (.node .leaf (some (.mp { kt := Sh.i IntKind.i64, vs := [Sh.i IntKind.i64, Sh.i IntKind.i64, Sh.i IntKind.i64], agg := true } (mput (rwA [(.int IntKind.i64 ((x0).i 0)), (.int IntKind.i64 ((x0).i 0)), (.int IntKind.i64 ((x0).i 1)), (.int IntKind.i64 ((x0).i 2))]) (.int IntKind.i64 ((x0).i 0)) (clk) (es)) (mclk (.int IntKind.i64 ((x0).i 0)) (es) (clk)))) .leaf) (some (.rows 31 [Sh.i IntKind.i64, Sh.i IntKind.i64, Sh.i IntKind.i64] (xs) (room))) .leaf), 2, 19⟩))) | false => (K (.map 1) (.node (.node .leaf (some (.mp { kt := Sh.i IntKind.i64, vs := [Sh.i IntKind.i64, Sh.i IntKind.i64, Sh.i IntKind.i64], agg := true } (es) (clk))) .leaf) (some (.rows 31 [Sh.i IntKind.i64, Sh.i IntKind.i64, Sh.i IntKind.i64] (xs) (room))) .leaf) 2)) := by kernel_rfl
theorem t_laO (I : Interp O) (K : AV → Tr (AO O) → Nat → Prop) (X : St O → Prop) (l c : Nat) (ob : Obj) (xs : List Rw) (es : List (Rw × Nat)) (clk : Nat) (i : Int) : acode I P (Gm N0) (adraw P (Gm N0)) 1 (cd Try.f15 [true, true, false, true, false, false]) (j_laO l c ob xs es clk i) (lpg 1 [(1, 1)] [3, 7, 8, 9] 2 X (ablock 0 (athen (cd Try.f15 [true, true, true]) (fun s => acode I P (Gm N0) (adraw P (Gm N0)) 1 (cd Try.f15 [true, true, true]) s (kret P Try.f15 (K))) (kret P Try.f15 (K))))) =
  (bsplit (decide (i < (↑l : Int))) fun | true => (must (decide ((0 : Int) ≤ i ∧ i < (↑l : Int))) (xget (xs) (i.toNat) fun x0 => (X ⟨(.node (.node (.node (.node .leaf (some (.sl 0 0 (l) (c))) .leaf) (some (.map 1)) .leaf) none (.node (.node .leaf (some (.int IntKind.i64 (IntKind.i64.wrap (i + 1)))) .leaf) none .leaf)) none (.node (.node (.node .leaf (some (.int IntKind.i64 ((↑l : Int)))) .leaf) none .leaf) none .leaf)), (.node (.node .leaf (some (.mp { kt := Sh.i IntKind.i64, vs := [Sh.i IntKind.i64, Sh.i IntKind.i64, Sh.i IntKind.i64], agg := true } (mput (rwA [(.int IntKind.i64 ((x0).i 0)), (.int IntKind.i64 ((x0).i 0)), (.int IntKind.i64 ((x0).i 1)), (.int IntKind.i64 ((x0).i 2))]) (.int IntKind.i64 ((x0).i 0)) (clk) (es)) (mclk (.int IntKind.i64 ((x0).i 0)) (es) (clk)))) .leaf) (some (AO.out ob cS xs)) .leaf), 2, 19⟩))) | false => (K (.map 1) (.node (.node .leaf (some (.mp { kt := Sh.i IntKind.i64, vs := [Sh.i IntKind.i64, Sh.i IntKind.i64, Sh.i IntKind.i64], agg := true } (es) (clk))) .leaf) (some (AO.out ob cS xs)) .leaf) 2)) := by kernel_rfl
end W
end Go.Tb

/- Claims: the small functions, proved. -/
set_option linter.all false
set_option maxRecDepth 100000
set_option maxHeartbeats 2000000
namespace Go.Tb.W
open Go Go.Proofs
variable {I : Interp O}
theorem mix : P.follows .mixedOrders = true := by kernel_rfl
theorem bs_t {b : Bool} {K : Bool → Prop} (hb : b = true) (h : K true) : bsplit b K := bsplit_both (fun _ => h) (fun hx => by rw [hb] at hx; cases hx)
theorem bs_f {b : Bool} {K : Bool → Prop} (hb : b = false) (h : K false) : bsplit b K := bsplit_both (fun hx => by rw [hb] at hx; cases hx) (fun _ => h)
theorem w_id {n : Int} (h : -9223372036854775808 ≤ n) (k : n ≤ 9223372036854775807) : IntKind.i64.wrap n = n := by rw [w_i64]; omega
theorem both_iff {n m : Nat} (h : both n m = true) : uniq (pairs 0 [n, m]) = true ∧ Nat.blt n 16777215 = true ∧ Nat.blt m 16777215 = true ∧ n ≠ m := by
  simp only [both, Bool.and_eq_true, Bool.not_eq_true'] at h
  obtain ⟨h1, h2, h3⟩ := h
  have hne := Nat.ne_of_beq_eq_false h3
  refine ⟨?_, h1, h2, hne⟩
  have : Nat.beq m n = false := by
    cases hb : Nat.beq m n with
    | false => rfl
    | true => exact absurd (Nat.eq_of_beq_eq_true hb).symm hne
  simp [pairs, uniq, lk, lkr, h1, h2, this, h3]
theorem uniq2n {hp : Tr (AO O)} {n nx j : Nat} (hu : uniq (pairs 0 [n]) = true) (hn : hp.get nx = none) (hb : Nat.blt nx 16777215 = true) (h1 : hp.get n ≠ none) (hj : lk (pairs 0 [n]) j = none) : uniq (pairs 0 [n] ++ [(j, nx)]) = true :=
  uniq_new hn hb hu hj fun p hp' => by
    simp [pairs] at hp'
    rcases hp' with rfl
    exact h1
theorem k_may : ∀ (args : List AV) (K : AV → Prop), c_may args K → ∀ hp, ACall I P 12 args hp (fun v hp' => K v ∧ hp' = hp) := by
  intro args K h hp
  unfold c_may at h; split at h
  · rename_i id lo hi
    refine pcall mix Gm.nil (fn := Try.f12) (by kernel_rfl) (by kernel_rfl) (by kernel_rfl) rfl rfl (fun hr => ?_) hp
    have fin : ∀ b, mayC id lo hi = b → K (.bool b) ∧ cl (AV.bool b) = true := fun b hb => by rw [← hb]; exact ⟨h, rfl⟩
    refine (t_may I (fun v => K v ∧ cl v = true) id lo hi).mpr (bsplit_both (fun a1 => bsplit_both (fun a2 => bsplit_both (fun a3 => fin _ ?_) (fun a3 => fin _ ?_)) (fun a2 => fin _ ?_)) (fun a1 => fin _ ?_))
    · have a1 := of_decide_eq_true a1; have a2 := of_decide_eq_true a2; have a3 := of_decide_eq_true a3
      unfold mayC
      by_cases h4 : hi ≤ 1152921504606846976
      · rw [decide_eq_true h4]; exact decide_eq_true ⟨a1, a2, a3, h4⟩
      · rw [decide_eq_false h4]; exact decide_eq_false fun hx => h4 hx.2.2.2
    · have a3 := of_decide_eq_false a3; exact decide_eq_false fun hx => a3 hx.2.2.1
    · have a2 := of_decide_eq_false a2; exact decide_eq_false fun hx => a2 hx.2.1
    · have a1 := of_decide_eq_false a1; exact decide_eq_false fun hx => a1 hx.1
  · exact h.elim
theorem gA1 : GOk I P (Gm A1) := Gm.consP Gm.nil k_may
theorem k_not : ∀ (args : List AV) (K : AV → Prop), c_not args K → ∀ hp, ACall I P 14 args hp (fun v hp' => K v ∧ hp' = hp) := by
  intro args K h hp
  unfold c_not at h; split at h
  · rename_i id lo hi
    exact pcall mix gA1 (fn := Try.f14) (by kernel_rfl) (by kernel_rfl) (by kernel_rfl) rfl rfl (fun hr => (t_not I (fun v => K v ∧ cl v = true) id lo hi).mpr ⟨h, rfl⟩) hp
  · exact h.elim
theorem gA2 : GOk I P (Gm A2) := Gm.consP gA1 k_not
/-- What a slice of claims may be. -/
theorem slC_spec {hp : Tr (AO O)} {v : AV} {K : List Rw → (Tr (AO O) → Tr (AO O)) → Prop} (h : slC hp v K) : (v = .nils ∧ K [] (fun hp => hp)) ∨ ∃ n l c, v = .sl n 0 l c ∧ Nat.blt n 16777215 = true ∧
    ((∃ xs room, hp.get n = some (cO xs room) ∧ l ≤ xs.length ∧ K (xs.take l) (fun hp => hp.set n (some (cO xs room)))) ∨ (∃ ob xs, hp.get n = some (oO ob xs) ∧ l ≤ xs.length ∧ K (xs.take l) (fun hp => hp.set n (some (oO ob xs))))) := by
  unfold slC at h
  split at h
  · exact .inl ⟨rfl, h⟩
  · rename_i n l c
    split at h
    · rename_i xs room hb hg
      exact .inr ⟨n, l, c, rfl, hb, .inl ⟨xs, room, hg, h.1, h.2⟩⟩
    · rename_i ob xs hb hg
      exact .inr ⟨n, l, c, rfl, hb, .inr ⟨ob, xs, hg, h.1, h.2⟩⟩
    · exact h.elim
  · exact h.elim
theorem bad_hit {L : List Rw} {i : Nat} (hi : i < L.length) (h : mayR L[i] = false) (hb : ∀ j, (hj : j < i) → mayR (L[j]'(by omega)) = true) : badI L = i := by
  unfold badI
  have : L.findIdx? (fun x => !mayR x) = some i := List.findIdx?_eq_some_iff_getElem.2 ⟨hi, by simp [h], fun j hj => by simp [hb j hj]⟩
  rw [this]
theorem bad_none {L : List Rw} (hb : ∀ x ∈ L, mayR x = true) : badI L = -1 := by
  unfold badI
  have : L.findIdx? (fun x => !mayR x) = none := List.findIdx?_eq_none_iff.2 fun x hx => by simp [hb x hx]
  rw [this]
theorem bad_neg {L : List Rw} (h : ¬ badI L ≥ 0) : ∀ x ∈ L, mayR x = true := by
  unfold badI at h
  cases hf : L.findIdx? (fun x => !mayR x) with
  | none => intro x hx; have := List.findIdx?_eq_none_iff.1 hf x hx; simpa using this
  | some i => rw [hf] at h; exact absurd (show (i : Int) ≥ 0 by omega) h
theorem rg_lc {n o l c : Nat} {r : List AV} (h : rgs (.sl n o l c :: r) = true) : l ≤ c ∧ c ≤ 9223372036854775807 := by
  simp only [rgs, rg, Bool.and_eq_true, Nat.ble_eq] at h
  exact h.1
theorem k_index : ∀ (args : List AV) (hp : Tr (AO O)) (nx : Nat) (K : AV → Tr (AO O) → Nat → Prop), c_index args hp nx K → ACall I P 19 args hp (fun v hp' => ∃ nx', K v hp' nx') := by
  intro args hp nx K h
  unfold c_index at h; split at h
  · rename_i v
    rcases slC_spec h with ⟨rfl, hk⟩ | ⟨n, l, c, rfl, hb, ⟨xs, room, hg, hl, hk⟩ | ⟨ob, xs, hg, hl, hk⟩⟩
    · refine hcallG mix gA2 (fn := Try.f19) (by kernel_rfl) (by kernel_rfl) (by kernel_rfl) [] [] [.nils, fnA] rfl rfl rfl trivial rfl rfl (fun hr ho => (t_indexN I _).mpr ?_)
      refine ALoop.start [] [0, 1, 7, 8] 0 j_ixN (by kernel_rfl) (by kernel_rfl) ?_
      refine ALoop.stepg [] [0, 1, 7, 8] 0 ?_
      exact (t_ixN I _ _).mpr ⟨[], nx, rfl, trivial, rfl, rfl, hk⟩
    · refine hcallG mix gA2 (fn := Try.f19) (by kernel_rfl) (by kernel_rfl) (by kernel_rfl) [n] [cO xs room] [.sl 0 0 l c, fnA] rfl (uniq1 hb) rfl ⟨hg, trivial⟩ rfl rfl (fun hr ho => (t_indexR I _ l c room xs).mpr ?_)
      have hlc := rg_lc hr
      have out : ∀ e, badI (xs.take l) = e → AllBack hp [n] K (.int .i64 e) (Tr.ofList 0 [cO xs room] .leaf) := fun e he => by subst he; exact ⟨[], nx, uniq1 hb, trivial, rfl, rfl, hk⟩
      have hlen : (xs.take l).length = l := by simp; omega
      refine ALoop.invg (ps := []) (ts := [0, 1, 7, 8]) (nx := 1) (fun i : Nat => j_ixR l c room xs (i : Nat)) (fun i => i ≤ l ∧ ∀ j, (h : j < i) → (hx : j < xs.length) → mayR (xs[j]) = true) (fun i => l - i) ?_ (by kernel_rfl) 0 (by kernel_rfl) ⟨Nat.zero_le _, fun j h => absurd h (Nat.not_lt_zero _)⟩
      rintro i ⟨g1, g2⟩
      refine (t_ixR I _ _ l c room xs (i : Nat)).mpr (bsplit_both (fun hx => ?_) (fun hx => out _ (bad_none fun x hx' => ?_)))
      · have hx := of_decide_eq_true hx
        refine must_mk (decide_eq_true ⟨by omega, hx⟩) (xget_mk (by rw [Int.toNat_natCast]; exact List.getElem?_eq_getElem (show i < xs.length by omega)) (bsplit_both (fun hy => out _ ?_) (fun hy => ⟨i + 1, ⟨by omega, fun j hj hq => ?_⟩, by omega, ?_⟩)))
        · have hy : mayR (xs[i]'(by omega)) = false := by simpa [mayR] using hy
          exact bad_hit (by omega) (by rw [List.getElem_take]; exact hy) (fun j hj => by rw [List.getElem_take]; exact g2 j hj (by omega))
        · by_cases e : j = i
          · subst e; simpa [mayR] using hy
          · exact g2 j (by omega) hq
        · rw [w_id (n := (i : Int) + 1) (by omega) (by omega)]; rfl
      · have hx := of_decide_eq_false hx
        obtain ⟨j, hj, rfl⟩ := List.getElem_of_mem hx'
        rw [List.getElem_take]
        exact g2 j (by omega) (by omega)
    · refine hcallG mix gA2 (fn := Try.f19) (by kernel_rfl) (by kernel_rfl) (by kernel_rfl) [n] [oO ob xs] [.sl 0 0 l c, fnA] rfl (uniq1 hb) rfl ⟨hg, trivial⟩ rfl rfl (fun hr ho => (t_indexO I _ l c ob xs).mpr ?_)
      have hlc := rg_lc hr
      have out : ∀ e, badI (xs.take l) = e → AllBack hp [n] K (.int .i64 e) (Tr.ofList 0 [oO ob xs] .leaf) := fun e he => by subst he; exact ⟨[], nx, uniq1 hb, trivial, rfl, rfl, hk⟩
      have hlen : (xs.take l).length = l := by simp; omega
      refine ALoop.invg (ps := []) (ts := [0, 1, 7, 8]) (nx := 1) (fun i : Nat => j_ixO l c ob xs (i : Nat)) (fun i => i ≤ l ∧ ∀ j, (h : j < i) → (hx : j < xs.length) → mayR (xs[j]) = true) (fun i => l - i) ?_ (by kernel_rfl) 0 (by kernel_rfl) ⟨Nat.zero_le _, fun j h => absurd h (Nat.not_lt_zero _)⟩
      rintro i ⟨g1, g2⟩
      refine (t_ixO I _ _ l c ob xs (i : Nat)).mpr (bsplit_both (fun hx => ?_) (fun hx => out _ (bad_none fun x hx' => ?_)))
      · have hx := of_decide_eq_true hx
        refine must_mk (decide_eq_true ⟨by omega, hx⟩) (xget_mk (by rw [Int.toNat_natCast]; exact List.getElem?_eq_getElem (show i < xs.length by omega)) (bsplit_both (fun hy => out _ ?_) (fun hy => ⟨i + 1, ⟨by omega, fun j hj hq => ?_⟩, by omega, ?_⟩)))
        · have hy : mayR (xs[i]'(by omega)) = false := by simpa [mayR] using hy
          exact bad_hit (by omega) (by rw [List.getElem_take]; exact hy) (fun j hj => by rw [List.getElem_take]; exact g2 j hj (by omega))
        · by_cases e : j = i
          · subst e; simpa [mayR] using hy
          · exact g2 j (by omega) hq
        · rw [w_id (n := (i : Int) + 1) (by omega) (by omega)]; rfl
      · have hx := of_decide_eq_false hx
        obtain ⟨j, hj, rfl⟩ := List.getElem_of_mem hx'
        rw [List.getElem_take]
        exact g2 j (by omega) (by omega)
  · exact h.elim
theorem gA3 : GOk I P (Gm A3) := Gm.consH gA2 k_index
theorem k_contains : ∀ (args : List AV) (hp : Tr (AO O)) (nx : Nat) (K : AV → Tr (AO O) → Nat → Prop), c_contains args hp nx K → ACall I P 13 args hp (fun v hp' => ∃ nx', K v hp' nx') := by
  intro args hp nx K h
  unfold c_contains at h; split at h
  · rename_i v
    rcases slC_spec h with ⟨rfl, hk⟩ | ⟨n, l, c, rfl, hb, ⟨xs, room, hg, hl, hk⟩ | ⟨ob, xs, hg, hl, hk⟩⟩
    · exact hcallG mix gA3 (fn := Try.f13) (by kernel_rfl) (by kernel_rfl) (by kernel_rfl) [] [] [.nils, fnA] rfl rfl rfl trivial rfl rfl (fun hr ho => (t_containsN I _).mpr ⟨[], nx, rfl, trivial, rfl, rfl, hk⟩)
    · exact hcallG mix gA3 (fn := Try.f13) (by kernel_rfl) (by kernel_rfl) (by kernel_rfl) [n] [cO xs room] [.sl 0 0 l c, fnA] rfl (uniq1 hb) rfl ⟨hg, trivial⟩ rfl rfl (fun hr ho => (t_containsR I _ l c room xs).mpr ⟨hl, ⟨[], nx, uniq1 hb, trivial, rfl, rfl, hk⟩⟩)
    · exact hcallG mix gA3 (fn := Try.f13) (by kernel_rfl) (by kernel_rfl) (by kernel_rfl) [n] [oO ob xs] [.sl 0 0 l c, fnA] rfl (uniq1 hb) rfl ⟨hg, trivial⟩ rfl rfl (fun hr ho => (t_containsO I _ l c ob xs).mpr ⟨hl, ⟨[], nx, uniq1 hb, trivial, rfl, rfl, hk⟩⟩)
  · exact h.elim
theorem last_step {xs : List Rw} {i : Nat} (hi : i < xs.length) : lastF (xs.take (i + 1)) = lastS (lastF (xs.take i)) (xs[i]) := by
  unfold lastF
  rw [List.take_succ_eq_append_getElem hi, List.foldl_append]; rfl
theorem k_last : ∀ (args : List AV) (hp : Tr (AO O)) (nx : Nat) (K : AV → Tr (AO O) → Nat → Prop), c_last args hp nx K → ACall I P 15 args hp (fun v hp' => ∃ nx', K v hp' nx') := by
  intro args hp nx K h
  unfold c_last at h; split at h
  · rename_i v
    rcases slC_spec h with ⟨rfl, hk⟩ | ⟨n, l, c, rfl, hb, ⟨xs, room, hg, hl, hk⟩ | ⟨ob, xs, hg, hl, hk⟩⟩ <;> split at hk
    · rename_i hnb hfr
      refine hcallG mix Gm.nil (fn := Try.f15) (by kernel_rfl) (by kernel_rfl) (by kernel_rfl) [] [] [.nils] rfl rfl rfl trivial rfl rfl (fun hr ho => (t_lastN I _).mpr ?_)
      refine ALoop.start [(0, 0)] [3, 7, 8, 9] 1 j_laN (by kernel_rfl) (by kernel_rfl) ?_
      refine ALoop.stepg [(0, 0)] [3, 7, 8, 9] 1 ?_
      exact (t_laN I _ _).mpr ⟨[(0, nx)], nx + 1, uniq1 hnb, ⟨hfr, trivial⟩, rfl, rfl, hk⟩
    · exact hk.elim
    · rename_i hnb hfr
      refine hcallG mix Gm.nil (fn := Try.f15) (by kernel_rfl) (by kernel_rfl) (by kernel_rfl) [n] [cO xs room] [.sl 0 0 l c] rfl (uniq1 hb) rfl ⟨hg, trivial⟩ rfl rfl (fun hr ho => (t_lastR I _ l c room xs).mpr ?_)
      have hlc := rg_lc hr
      refine ALoop.invg (ps := [(1, 1)]) (ts := [3, 7, 8, 9]) (nx := 2) (fun i : Nat => j_laR l c room xs (lastF (xs.take i)).1 (lastF (xs.take i)).2 (i : Nat)) (fun i => i ≤ l) (fun i => l - i) ?_ (by kernel_rfl) 0 (by kernel_rfl) (Nat.zero_le _)
      intro i hi
      refine (t_laR I _ _ l c room xs _ _ (i : Nat)).mpr (bsplit_both (fun hx => ?_) (fun hx => ?_))
      · have hx := of_decide_eq_true hx
        refine must_mk (decide_eq_true ⟨by omega, hx⟩) (xget_mk (by rw [Int.toNat_natCast]; exact List.getElem?_eq_getElem (show i < xs.length by omega)) ⟨i + 1, by omega, by omega, ?_⟩)
        rw [w_id (n := (i : Int) + 1) (by omega) (by omega)]
        show _ = j_laR l c room xs (lastF (xs.take (i + 1))).1 (lastF (xs.take (i + 1))).2 ((i + 1 : Nat) : Int)
        rw [last_step (show i < xs.length by omega)]; rfl
      · have hx := of_decide_eq_false hx
        have : i = l := by omega
        subst this
        exact ⟨[(1, nx)], nx + 1, uniq2n (uniq1 hb) hfr hnb (by rw [hg]; simp) rfl, ⟨hfr, trivial⟩, rfl, rfl, hk⟩
    · exact hk.elim
    · rename_i hnb hfr
      refine hcallG mix Gm.nil (fn := Try.f15) (by kernel_rfl) (by kernel_rfl) (by kernel_rfl) [n] [oO ob xs] [.sl 0 0 l c] rfl (uniq1 hb) rfl ⟨hg, trivial⟩ rfl rfl (fun hr ho => (t_lastO I _ l c ob xs).mpr ?_)
      have hlc := rg_lc hr
      refine ALoop.invg (ps := [(1, 1)]) (ts := [3, 7, 8, 9]) (nx := 2) (fun i : Nat => j_laO l c ob xs (lastF (xs.take i)).1 (lastF (xs.take i)).2 (i : Nat)) (fun i => i ≤ l) (fun i => l - i) ?_ (by kernel_rfl) 0 (by kernel_rfl) (Nat.zero_le _)
      intro i hi
      refine (t_laO I _ _ l c ob xs _ _ (i : Nat)).mpr (bsplit_both (fun hx => ?_) (fun hx => ?_))
      · have hx := of_decide_eq_true hx
        refine must_mk (decide_eq_true ⟨by omega, hx⟩) (xget_mk (by rw [Int.toNat_natCast]; exact List.getElem?_eq_getElem (show i < xs.length by omega)) ⟨i + 1, by omega, by omega, ?_⟩)
        rw [w_id (n := (i : Int) + 1) (by omega) (by omega)]
        show _ = j_laO l c ob xs (lastF (xs.take (i + 1))).1 (lastF (xs.take (i + 1))).2 ((i + 1 : Nat) : Int)
        rw [last_step (show i < xs.length by omega)]; rfl
      · have hx := of_decide_eq_false hx
        have : i = l := by omega
        subst this
        exact ⟨[(1, nx)], nx + 1, uniq2n (uniq1 hb) hfr hnb (by rw [hg]; simp) rfl, ⟨hfr, trivial⟩, rfl, rfl, hk⟩
    · exact hk.elim
  · exact h.elim
theorem gA4 : GOk I P (Gm A4) := Gm.consH (Gm.consH Gm.nil k_last) k_contains
end Go.Tb.W

/- What the functions' bodies come to: each line is what the abstract machine makes of one function, or of one round of a loop, over the contracts of the functions that it calls (the text was printed by a program of mine; Lean proves it again). -/
set_option linter.all false
set_option maxRecDepth 100000
set_option maxHeartbeats 0
namespace Go.Tb
open Go Go.Proofs
namespace W
theorem t_nan (I : Interp O) (K : AV → Prop) (a : Int) : abody I P (Gm N0) (adraw P (Gm N0)) 0 Try.f40 [.int .i64 a] .leaf 0 (fun v _ _ => K v) =
  (K (.bool (a != a))) := by kernel_rfl
theorem t_cmp (I : Interp O) (K : AV → Prop) (a b : Int) : abody I P (Gm S1) (adraw P (Gm S1)) 0 Try.f27 [.int .i64 a, .int .i64 b] .leaf 0 (fun v _ _ => K v) =
  (bsplit (decide (a < b)) fun | true => (K (.int IntKind.i64 (-1 : Int))) | false => (bsplit (decide (a > b)) fun | true => (K (.int IntKind.i64 (1 : Int))) | false => (K (.int IntKind.i64 (0 : Int))))) := by kernel_rfl
theorem t_of (I : Interp O) (K : AV → Prop) (a m b n : Int) : abody I P (Gm S2) (adraw P (Gm S2)) 0 Try.f21 [.agg [], .agg [.int .i64 a, .int .i64 m], .agg [.int .i64 b, .int .i64 n]] .leaf 0 (fun v _ _ => K v) =
  (K (.int IntKind.i64 (if a < b then -1 else if b < a then 1 else 0))) := by kernel_rfl
theorem t_ins (I : Interp O) (K : AV → Tr (AO O) → Nat → Prop) (l c room : Nat) (xs : List Rw) : abody I P (Gm S3) (adraw P (Gm S3)) 1 Try.f30 [.sl 0 0 l c, .int .i64 0, .int .i64 l, .fn (.func 21) [.agg []] []] (Tr.ofList 0 [eO xs room] .leaf) 1 K =
  (ALoop I 1 (cd Try.f30 [true, false, false]) (acode I P (Gm S3) (adraw P (Gm S3)) 1 (cd Try.f30 [true, false, false])) (ablock 0 (kret P Try.f30 (K))) ⟨(.node (.node (.node .leaf (some (.fn (Fn.func 21) [(.agg [])] [])) (.node .leaf (some (.int IntKind.i64 (1 : Int))) .leaf)) (some (.int IntKind.i64 (0 : Int))) .leaf) (some (.sl 0 0 (l) (c))) (.node (.node (.node .leaf (some (.int IntKind.i64 (1 : Int))) .leaf) none .leaf) (some (.int IntKind.i64 ((↑l : Int)))) (.node (.node .leaf (some (.int IntKind.i64 (0 : Int))) .leaf) none .leaf))), (.node .leaf (some (.rows 48 [Sh.i IntKind.i64, Sh.i IntKind.i64] (xs) (room))) .leaf), 1, 53⟩) := by kernel_rfl
theorem t_pdq (I : Interp O) (K : AV → Tr (AO O) → Nat → Prop) (l c room : Nat) (xs : List Rw) (m : Int) : abody I P (Gm S4) (adraw P (Gm S4)) 1 Try.f25 [.sl 0 0 l c, .int .i64 0, .int .i64 l, .int .i64 m, .fn (.func 21) [.agg []] []] (Tr.ofList 0 [eO xs room] .leaf) 1 K =
  (ALoop I 1 (cd Try.f25 [true, true, false, false]) (acode I P (Gm S4) (adraw P (Gm S4)) 1 (cd Try.f25 [true, true, false, false])) (ablock 0 (kret P Try.f25 (K))) ⟨(.node (.node (.node .leaf (some (.int IntKind.i64 (m))) (.node .leaf (some (.bool true)) .leaf)) (some (.int IntKind.i64 (0 : Int))) .leaf) (some (.sl 0 0 (l) (c))) (.node (.node .leaf (some (.fn (Fn.func 21) [(.agg [])] [])) .leaf) (some (.int IntKind.i64 ((↑l : Int)))) (.node (.node .leaf (some (.bool true)) .leaf) none .leaf))), (.node .leaf (some (.rows 48 [Sh.i IntKind.i64, Sh.i IntKind.i64] (xs) (room))) .leaf), 1, 148⟩) := by kernel_rfl
theorem t_sort (I : Interp O) (K : AV → Tr (AO O) → Nat → Prop) (l c room : Nat) (xs : List Rw) : abody I P (Gm S5) (adraw P (Gm S5)) 1 Try.f20 [.sl 0 0 l c, .fn (.func 21) [.agg []] []] (Tr.ofList 0 [eO xs room] .leaf) 1 K =
  (((0 : Int) ≤ IntKind.u64.wrap (↑l : Int) ∧ IntKind.u64.wrap (↑l : Int) ≤ (1000 : Int)) ∧ (∀ (r0 : Int), (0 ≤ r0 → (r0 ≤ 64 → (((l = xs.length) ∧ (((0 : Int) ≤ (0 : Int) ∧ (0 : Int) ≤ (0 : Int)) ∧ (((↑l : Int) = (↑l : Int)) ∧ ((l ≤ (12 : Nat)) ∧ (NE xs))))) ∧ (∀ (ys1 : List Rw), (ys1.Perm xs → (risE ys1 → (K (.tup []) (.node .leaf (some (.rows 48 [Sh.i IntKind.i64, Sh.i IntKind.i64] (ys1) (room))) .leaf) 1))))))))) := by kernel_rfl
theorem t_insN (I : Interp O) (K : AV → Tr (AO O) → Nat → Prop) : abody I P (Gm S3) (adraw P (Gm S3)) 0 Try.f30 [.nils, .int .i64 0, .int .i64 0, .fn (.func 21) [.agg []] []] (Tr.ofList 0 [] .leaf) 0 K =
  (ALoop I 0 (cd Try.f30 [true, false, false]) (acode I P (Gm S3) (adraw P (Gm S3)) 0 (cd Try.f30 [true, false, false])) (ablock 0 (kret P Try.f30 (K))) ⟨(.node (.node (.node .leaf (some (.fn (Fn.func 21) [(.agg [])] [])) (.node .leaf (some (.int IntKind.i64 (1 : Int))) .leaf)) (some (.int IntKind.i64 (0 : Int))) .leaf) (some .nils) (.node (.node (.node .leaf (some (.int IntKind.i64 (1 : Int))) .leaf) none .leaf) (some (.int IntKind.i64 (0 : Int))) (.node (.node .leaf (some (.int IntKind.i64 (0 : Int))) .leaf) none .leaf))), .leaf, 0, 53⟩) := by kernel_rfl
theorem t_pdN (I : Interp O) (K : AV → Tr (AO O) → Nat → Prop) (m : Int) : abody I P (Gm S4) (adraw P (Gm S4)) 0 Try.f25 [.nils, .int .i64 0, .int .i64 0, .int .i64 m, .fn (.func 21) [.agg []] []] (Tr.ofList 0 [] .leaf) 0 K =
  (ALoop I 0 (cd Try.f25 [true, true, false, false]) (acode I P (Gm S4) (adraw P (Gm S4)) 0 (cd Try.f25 [true, true, false, false])) (ablock 0 (kret P Try.f25 (K))) ⟨(.node (.node (.node .leaf (some (.int IntKind.i64 (m))) (.node .leaf (some (.bool true)) .leaf)) (some (.int IntKind.i64 (0 : Int))) .leaf) (some .nils) (.node (.node .leaf (some (.fn (Fn.func 21) [(.agg [])] [])) .leaf) (some (.int IntKind.i64 (0 : Int))) (.node (.node .leaf (some (.bool true)) .leaf) none .leaf))), .leaf, 0, 148⟩) := by kernel_rfl
theorem t_sortN (I : Interp O) (K : AV → Tr (AO O) → Nat → Prop) : abody I P (Gm S5) (adraw P (Gm S5)) 0 Try.f20 [.nils, .fn (.func 21) [.agg []] []] (Tr.ofList 0 [] .leaf) 0 K =
  (((0 : Int) ≤ IntKind.u64.wrap (0 : Int) ∧ IntKind.u64.wrap (0 : Int) ≤ (1000 : Int)) ∧ (∀ (r0 : Int), (0 ≤ r0 → (r0 ≤ 64 → ((((0 : Int) ≤ (0 : Int) ∧ (0 : Int) ≤ (0 : Int)) ∧ (0 : Int) ≤ (0 : Int) ∧ (0 : Int) ≤ (0 : Int)) ∧ (K (.tup []) .leaf 0)))))) := by kernel_rfl
theorem t_in1 (I : Interp O) (K : AV → Tr (AO O) → Nat → Prop) (X : St O → Prop) (l c room : Nat) (xs : List Rw) (i : Int) : acode I P (Gm S3) (adraw P (Gm S3)) 1 (cd Try.f30 [true, false, false]) (j_in1 l c room xs i) (lpg 1 [] [0, 1, 2, 3, 8] 1 X (ablock 0 (kret P Try.f30 (K)))) =
  (bsplit (decide (i < (↑l : Int))) fun | true => (ALoop I 1 (cd Try.f30 [true, false, false, true, false, false, true, false, false]) (acode I P (Gm S3) (adraw P (Gm S3)) 1 (cd Try.f30 [true, false, false, true, false, false, true, false, false])) (ablock 2 (ablock 1 (athen (cd Try.f30 [true, false, false, true, true]) (fun s => acode I P (Gm S3) (adraw P (Gm S3)) 1 (cd Try.f30 [true, false, false, true, true]) s (lpg 1 [] [0, 1, 2, 3, 8] 1 X (ablock 0 (kret P Try.f30 K)))) (lpg 1 [] [0, 1, 2, 3, 8] 1 X (ablock 0 (kret P Try.f30 K)))))) ⟨(.node (.node (.node .leaf (some (.fn (Fn.func 21) [(.agg [])] [])) .leaf) (some (.int IntKind.i64 (0 : Int))) (.node (.node (.node .leaf (some (.int IntKind.i64 (i))) .leaf) (some (.int IntKind.i64 (i))) .leaf) none (.node .leaf (some (.int IntKind.i64 ((↑l : Int)))) .leaf))) (some (.sl 0 0 (l) (c))) (.node (.node (.node .leaf (some (.int IntKind.i64 (i))) .leaf) none (.node .leaf (some (.int IntKind.i64 (i))) .leaf)) (some (.int IntKind.i64 ((↑l : Int)))) (.node .leaf none (.node .leaf (some (.bool true)) .leaf)))), (.node .leaf (some (.rows 48 [Sh.i IntKind.i64, Sh.i IntKind.i64] (xs) (room))) .leaf), 1, 53⟩) | false => (K (.tup []) (.node .leaf (some (.rows 48 [Sh.i IntKind.i64, Sh.i IntKind.i64] (xs) (room))) .leaf) 1)) := by kernel_rfl
theorem t_pd (I : Interp O) (K : AV → Tr (AO O) → Nat → Prop) (X : St O → Prop) (l c room : Nat) (xs : List Rw) (m : Int) : acode I P (Gm S4) (adraw P (Gm S4)) 1 (cd Try.f25 [true, true, false, false]) (j_pd l c room xs m) (lpg 1 [] [0, 1, 2, 3, 4, 10, 11] 1 X (ablock 0 (kret P Try.f25 (K)))) =
  (bsplit (decide (IntKind.i64.wrap ((↑l : Int) - 0) ≤ 12)) fun | true => (((l = xs.length) ∧ (((0 : Int) ≤ (0 : Int) ∧ (0 : Int) ≤ (0 : Int)) ∧ (((↑l : Int) = (↑l : Int)) ∧ ((l ≤ (12 : Nat)) ∧ (NE xs))))) ∧ (∀ (ys0 : List Rw), (ys0.Perm xs → (risE ys0 → (K (.tup []) (.node .leaf (some (.rows 48 [Sh.i IntKind.i64, Sh.i IntKind.i64] (ys0) (room))) .leaf) 1))))) | false => (must (m == 0) False)) := by kernel_rfl
theorem t_in1N (I : Interp O) (K : AV → Tr (AO O) → Nat → Prop) (X : St O → Prop) : acode I P (Gm S3) (adraw P (Gm S3)) 0 (cd Try.f30 [true, false, false]) (j_inN) (lpg 0 [] [0, 1, 2, 3, 8] 0 X (ablock 0 (kret P Try.f30 (K)))) =
  (K (.tup []) .leaf 0) := by kernel_rfl
theorem t_pdNR (I : Interp O) (K : AV → Tr (AO O) → Nat → Prop) (X : St O → Prop) (m : Int) : acode I P (Gm S4) (adraw P (Gm S4)) 0 (cd Try.f25 [true, true, false, false]) (j_pdN m) (lpg 0 [] [0, 1, 2, 3, 4, 10, 11] 0 X (ablock 0 (kret P Try.f25 (K)))) =
  ((((0 : Int) ≤ (0 : Int) ∧ (0 : Int) ≤ (0 : Int)) ∧ (0 : Int) ≤ (0 : Int) ∧ (0 : Int) ≤ (0 : Int)) ∧ (K (.tup []) .leaf 0)) := by kernel_rfl
theorem t_in2 (I : Interp O) (K : AV → Tr (AO O) → Nat → Prop) (X Y : St O → Prop) (l c room : Nat) (xs : List Rw) (i j : Int) : acode I P (Gm S3) (adraw P (Gm S3)) 1 (cd Try.f30 [true, false, false, true, false, false, true, false, false]) (j_in2 l c room xs i j) (lpg 1 [] [0, 1, 2, 3, 8, 9] 1 Y (ablock 2 (ablock 1 (athen (cd Try.f30 [true, false, false, true, true]) (fun s => acode I P (Gm S3) (adraw P (Gm S3)) 1 (cd Try.f30 [true, false, false, true, true]) s (lpg 1 [] [0, 1, 2, 3, 8] 1 X (ablock 0 (kret P Try.f30 K)))) (lpg 1 [] [0, 1, 2, 3, 8] 1 X (ablock 0 (kret P Try.f30 K))))))) =
  (bsplit (decide (j > 0)) fun | true => (must (decide ((0 : Int) ≤ j ∧ j < (↑l : Int))) (must (decide ((0 : Int) ≤ IntKind.i64.wrap (j - 1) ∧ IntKind.i64.wrap (j - 1) < (↑l : Int))) (xget (xs) (j.toNat) fun x0 => (xget (xs) ((IntKind.i64.wrap (j - 1)).toNat) fun x1 => (bsplit (decide ((if x0.i 0 < x1.i 0 then -1 else if x1.i 0 < x0.i 0 then 1 else 0) < 0)) fun | true => (must (decide ((0 : Int) ≤ IntKind.i64.wrap (j - 1) ∧ IntKind.i64.wrap (j - 1) < (↑l : Int))) (must (decide ((0 : Int) ≤ j ∧ j < (↑l : Int))) (xget (xs) ((IntKind.i64.wrap (j - 1)).toNat) fun x2 => (xget (xs) (j.toNat) fun x3 => (must (decide ((0 : Int) ≤ j ∧ j < (↑l : Int))) (xget (xs) (j.toNat) fun x4 => (must (decide ((0 : Int) ≤ IntKind.i64.wrap (j - 1) ∧ IntKind.i64.wrap (j - 1) < (↑l : Int))) (xget (xs.set j.toNat (rwA (acells (AV.agg [encS x2 0 (Sh.i IntKind.i64), encS x2 ((0 : Nat) + 1) (Sh.i IntKind.i64)])))) ((IntKind.i64.wrap (j - 1)).toNat) fun x5 => (Y ⟨(.node (.node (.node .leaf (some (.fn (Fn.func 21) [(.agg [])] [])) .leaf) (some (.int IntKind.i64 (0 : Int))) (.node (.node .leaf (some (.int IntKind.i64 (IntKind.i64.wrap (j - 1)))) .leaf) none .leaf)) (some (.sl 0 0 (l) (c))) (.node (.node (.node .leaf (some (.int IntKind.i64 (i))) .leaf) none .leaf) (some (.int IntKind.i64 ((↑l : Int)))) .leaf)), (.node .leaf (some (.rows 48 [Sh.i IntKind.i64, Sh.i IntKind.i64] ((xs.set j.toNat (rwA (acells (AV.agg [encS x2 0 (Sh.i IntKind.i64), encS x2 ((0 : Nat) + 1) (Sh.i IntKind.i64)])))).set (IntKind.i64.wrap (j - 1)).toNat (rwA (acells (AV.agg [encS x3 0 (Sh.i IntKind.i64), encS x3 ((0 : Nat) + 1) (Sh.i IntKind.i64)])))) (room))) .leaf), 1, 53⟩))))))))) | false => (X ⟨(.node (.node (.node .leaf (some (.fn (Fn.func 21) [(.agg [])] [])) .leaf) (some (.int IntKind.i64 (0 : Int))) .leaf) (some (.sl 0 0 (l) (c))) (.node (.node (.node .leaf (some (.int IntKind.i64 (IntKind.i64.wrap (i + 1)))) .leaf) none .leaf) (some (.int IntKind.i64 ((↑l : Int)))) .leaf)), (.node .leaf (some (.rows 48 [Sh.i IntKind.i64, Sh.i IntKind.i64] (xs) (room))) .leaf), 1, 53⟩)))))) | false => (X ⟨(.node (.node (.node .leaf (some (.fn (Fn.func 21) [(.agg [])] [])) .leaf) (some (.int IntKind.i64 (0 : Int))) .leaf) (some (.sl 0 0 (l) (c))) (.node (.node (.node .leaf (some (.int IntKind.i64 (IntKind.i64.wrap (i + 1)))) .leaf) none .leaf) (some (.int IntKind.i64 ((↑l : Int)))) .leaf)), (.node .leaf (some (.rows 48 [Sh.i IntKind.i64, Sh.i IntKind.i64] (xs) (room))) .leaf), 1, 53⟩)) := by kernel_rfl
end W
end Go.Tb

/- Claims: the library's sort, of any number: contracts. -/
set_option linter.all false
set_option maxRecDepth 100000
namespace Go.Tb.W
open Go Go.Proofs
def gE (xs : List Rw) (j : Nat) : Rw := (xs[j]?).getD zrw
/-- The place of an edge. -/
def kE (xs : List Rw) (j : Nat) : Int := (gE xs j).i 0
/-- Put about, between two places. -/
structure PR (xs0 xs : List Rw) (a b : Nat) : Prop where
  pm : xs.Perm xs0
  out : ∀ j, j < a ∨ b ≤ j → gE xs j = gE xs0 j
  ins : ∀ q, a ≤ q → q < b → ∃ p, a ≤ p ∧ p < b ∧ gE xs q = gE xs0 p
/-- In order, between two places. -/
def So (xs : List Rw) (a b : Nat) : Prop := ∀ p q, a ≤ p → p < q → q < b → kE xs p ≤ kE xs q
/-- What lies ahead of a place is no more than what lies behind it. -/
def LE (xs : List Rw) (a b : Nat) : Prop := ∀ p q, p < a → a ≤ q → q < b → kE xs p ≤ kE xs q
/-- A heap, the greatest first, from lo on. -/
def HF (xs : List Rw) (f lo hi : Nat) : Prop := ∀ j c, lo ≤ j → (c = 2 * j + 1 ∨ c = 2 * j + 2) → c < hi → kE xs (f + c) ≤ kE xs (f + j)
def HI (xs ys : List Rw) (f lo hi : Nat) : Prop := HF xs f (lo + 1) hi → HF ys f lo hi
def RS (r : Bool) (ys : List Rw) (a b : Nat) : Prop := r = true → So ys a b
def EQk (ys : List Rw) (a m k : Int) : Prop := ∀ q : Nat, a ≤ (q : Int) → (q : Int) < m → kE ys q = k
def LEk (ys : List Rw) (a m k : Int) : Prop := ∀ q : Nat, a ≤ (q : Int) → (q : Int) < m → kE ys q ≤ k
def GEk (ys : List Rw) (a m k : Int) : Prop := ∀ q : Nat, a ≤ (q : Int) → (q : Int) < m → k ≤ kE ys q
def GTk (ys : List Rw) (a m k : Int) : Prop := ∀ q : Nat, a ≤ (q : Int) → (q : Int) < m → k < kE ys q
def isE (hp : Tr (AO O)) (n l : Nat) (K : List Rw → Nat → Prop) : Prop := match Nat.blt n 16777215, hp.get n with
  | true, some (.rows 48 [.i .i64, .i .i64] xs room) => (l = xs.length ∧ l ≤ 1000 ∧ NE xs) ∧ K xs room
  | _, _ => False
abbrev sE (hp : Tr (AO O)) (n : Nat) (xs : List Rw) (room : Nat) : Tr (AO O) := hp.set n (some (eO xs room))
def c_insG (args : List AV) (hp : Tr (AO O)) (nx : Nat) (K : AV → Tr (AO O) → Nat → Prop) : Prop := match args with
  | [.sl n 0 l c, .int .i64 a, .int .i64 b, .fn (.func 21) [.agg []] []] => isE hp n l fun xs room => (0 ≤ a ∧ a ≤ b ∧ b ≤ (l : Int)) ∧ ∀ ys : List Rw, PR xs ys a.toNat b.toNat → So ys a.toNat b.toNat → K (.tup []) (sE hp n ys room) nx
  | [.nils, .int .i64 a, .int .i64 b, .fn (.func 21) [.agg []] []] => ((a ≤ 0 ∧ 0 ≤ a) ∧ (b ≤ 0 ∧ 0 ≤ b)) ∧ K (.tup []) hp nx
  | _ => False
def c_sift (args : List AV) (hp : Tr (AO O)) (nx : Nat) (K : AV → Tr (AO O) → Nat → Prop) : Prop := match args with
  | [.sl n 0 l c, .int .i64 lo, .int .i64 hi, .int .i64 f, .fn (.func 21) [.agg []] []] => isE hp n l fun xs room => (0 ≤ lo ∧ lo ≤ hi ∧ 0 ≤ f ∧ f + hi ≤ (l : Int)) ∧
      ∀ ys : List Rw, PR xs ys (f + lo).toNat (f + hi).toNat → HI xs ys f.toNat lo.toNat hi.toNat → K (.tup []) (sE hp n ys room) nx
  | _ => False
def c_heap (args : List AV) (hp : Tr (AO O)) (nx : Nat) (K : AV → Tr (AO O) → Nat → Prop) : Prop := match args with
  | [.sl n 0 l c, .int .i64 a, .int .i64 b, .fn (.func 21) [.agg []] []] => isE hp n l fun xs room => (0 ≤ a ∧ a ≤ b ∧ b ≤ (l : Int)) ∧ ∀ ys : List Rw, PR xs ys a.toNat b.toNat → So ys a.toNat b.toNat → K (.tup []) (sE hp n ys room) nx
  | _ => False
def c_break (args : List AV) (hp : Tr (AO O)) (nx : Nat) (K : AV → Tr (AO O) → Nat → Prop) : Prop := match args with
  | [.sl n 0 l c, .int .i64 a, .int .i64 b, .fn (.func 21) [.agg []] []] => isE hp n l fun xs room => (0 ≤ a ∧ a ≤ b ∧ b ≤ (l : Int)) ∧ ∀ ys : List Rw, PR xs ys a.toNat b.toNat → K (.tup []) (sE hp n ys room) nx
  | _ => False
def c_choose (args : List AV) (hp : Tr (AO O)) (nx : Nat) (K : AV → Tr (AO O) → Nat → Prop) : Prop := match args with
  | [.sl n 0 l c, .int .i64 a, .int .i64 b, .fn (.func 21) [.agg []] []] => isE hp n l fun xs room => (0 ≤ a ∧ a + 12 < b ∧ b ≤ (l : Int)) ∧ ∀ j h : Int, a ≤ j → j < b → K (.tup [.int .i64 j, .int .i64 h]) (sE hp n xs room) nx
  | _ => False
def c_rev (args : List AV) (hp : Tr (AO O)) (nx : Nat) (K : AV → Tr (AO O) → Nat → Prop) : Prop := match args with
  | [.sl n 0 l c, .int .i64 a, .int .i64 b, .fn (.func 21) [.agg []] []] => isE hp n l fun xs room => (0 ≤ a ∧ a ≤ b ∧ b ≤ (l : Int)) ∧ ∀ ys : List Rw, PR xs ys a.toNat b.toNat → K (.tup []) (sE hp n ys room) nx
  | _ => False
def c_pins (args : List AV) (hp : Tr (AO O)) (nx : Nat) (K : AV → Tr (AO O) → Nat → Prop) : Prop := match args with
  | [.sl n 0 l c, .int .i64 a, .int .i64 b, .fn (.func 21) [.agg []] []] => isE hp n l fun xs room => (0 ≤ a ∧ a < b ∧ b ≤ (l : Int) ∧ LE xs a.toNat b.toNat) ∧ ∀ (ys : List Rw) (r : Bool), PR xs ys a.toNat b.toNat → RS r ys a.toNat b.toNat → K (.bool r) (sE hp n ys room) nx
  | _ => False
def c_peq (args : List AV) (hp : Tr (AO O)) (nx : Nat) (K : AV → Tr (AO O) → Nat → Prop) : Prop := match args with
  | [.sl n 0 l c, .int .i64 a, .int .i64 b, .int .i64 p, .fn (.func 21) [.agg []] []] => isE hp n l fun xs room => ((0 ≤ a ∧ a ≤ p ∧ p < b ∧ b ≤ (l : Int)) ∧ GEk xs a b (kE xs p.toNat)) ∧
      ∀ (ys : List Rw) (m : Int), PR xs ys a.toNat b.toNat → a < m → m ≤ b → EQk ys a m (kE xs p.toNat) → GTk ys m b (kE xs p.toNat) → K (.int .i64 m) (sE hp n ys room) nx
  | _ => False
def c_part (args : List AV) (hp : Tr (AO O)) (nx : Nat) (K : AV → Tr (AO O) → Nat → Prop) : Prop := match args with
  | [.sl n 0 l c, .int .i64 a, .int .i64 b, .int .i64 p, .fn (.func 21) [.agg []] []] => isE hp n l fun xs room => (0 ≤ a ∧ a ≤ p ∧ p < b ∧ b ≤ (l : Int)) ∧
      ∀ (ys : List Rw) (m : Int) (r : Bool), PR xs ys a.toNat b.toNat → a ≤ m → m < b → LEk ys a m (kE xs p.toNat) → kE ys m.toNat = kE xs p.toNat → GEk ys m b (kE xs p.toNat) → K (.tup [.int .i64 m, .bool r]) (sE hp n ys room) nx
  | _ => False
def c_pdqG (N : Nat) (args : List AV) (hp : Tr (AO O)) (nx : Nat) (K : AV → Tr (AO O) → Nat → Prop) : Prop := match args with
  | [.sl n 0 l c, .int .i64 a, .int .i64 b, .int .i64 m, .fn (.func 21) [.agg []] []] => isE hp n l fun xs room => ((0 ≤ a ∧ a ≤ b ∧ b ≤ (l : Int) ∧ b - a < (N : Int)) ∧ (0 ≤ m ∧ m ≤ 100) ∧ LE xs a.toNat b.toNat) ∧ ∀ ys : List Rw, PR xs ys a.toNat b.toNat → So ys a.toNat b.toNat → K (.tup []) (sE hp n ys room) nx
  | [.nils, .int .i64 a, .int .i64 b, .int .i64 m, .fn (.func 21) [.agg []] []] => ((a ≤ 0 ∧ 0 ≤ a) ∧ (b ≤ 0 ∧ 0 ≤ b)) ∧ K (.tup []) hp nx
  | _ => False
abbrev wO (s : Int) : AO O := .cells 3 [.int .i64 s] 1
def isW (hp : Tr (AO O)) (n m : Nat) (K : Int → Prop) : Prop := match both n m, hp.get m with
  | true, some (.cells 3 [.int .i64 s] 1) => K s
  | _, _ => False
abbrev sW (hp : Tr (AO O)) (n m : Nat) (xs : List Rw) (room : Nat) (s : Int) : Tr (AO O) := (hp.set m (some (wO s))).set n (some (eO xs room))
def c_ord2 (args : List AV) (hp : Tr (AO O)) (nx : Nat) (K : AV → Tr (AO O) → Nat → Prop) : Prop := match args with
  | [.sl n 0 l c, .int .i64 a, .int .i64 b, .ptr m 0, .fn (.func 21) [.agg []] []] => isE hp n l fun xs room => isW hp n m fun s => ((0 ≤ a ∧ a < (l : Int)) ∧ (0 ≤ b ∧ b < (l : Int)) ∧ (0 ≤ s ∧ s ≤ 100)) ∧
      K (.tup [.int .i64 a, .int .i64 b]) (sW hp n m xs room s) nx ∧ K (.tup [.int .i64 b, .int .i64 a]) (sW hp n m xs room (s + 1)) nx
  | _ => False
def c_med (args : List AV) (hp : Tr (AO O)) (nx : Nat) (K : AV → Tr (AO O) → Nat → Prop) : Prop := match args with
  | [.sl n 0 l c, .int .i64 a, .int .i64 b, .int .i64 d, .ptr m 0, .fn (.func 21) [.agg []] []] => isE hp n l fun xs room => isW hp n m fun s => ((0 ≤ a ∧ a < (l : Int)) ∧ (0 ≤ b ∧ b < (l : Int)) ∧ (0 ≤ d ∧ d < (l : Int)) ∧ (0 ≤ s ∧ s ≤ 90)) ∧
      ∀ r s' : Int, (r = a ∨ r = b ∨ r = d) → s ≤ s' → s' ≤ s + 3 → K (.int .i64 r) (sW hp n m xs room s') nx
  | _ => False
def c_madj (args : List AV) (hp : Tr (AO O)) (nx : Nat) (K : AV → Tr (AO O) → Nat → Prop) : Prop := match args with
  | [.sl n 0 l c, .int .i64 a, .ptr m 0, .fn (.func 21) [.agg []] []] => isE hp n l fun xs room => isW hp n m fun s => ((1 ≤ a ∧ a + 1 < (l : Int)) ∧ (0 ≤ s ∧ s ≤ 90)) ∧
      ∀ r s' : Int, a - 1 ≤ r → r ≤ a + 1 → s ≤ s' → s' ≤ s + 3 → K (.int .i64 r) (sW hp n m xs room s') nx
  | _ => False
abbrev xO (r : Int) : AO O := .cells 84 [.int .u64 r] 1
def c_xnext (args : List AV) (hp : Tr (AO O)) (nx : Nat) (K : AV → Tr (AO O) → Nat → Prop) : Prop := match args with
  | [.ptr m 0] => match Nat.blt m 16777215, hp.get m with
    | true, some (.cells 84 [.int .u64 r] 1) => ∀ r' : Int, K (.int .u64 r') (hp.set m (some (xO r'))) nx
    | _, _ => False
  | _ => False
def c_npot (args : List AV) (K : AV → Prop) : Prop := match args with
  | [.int .i64 n] => (1 ≤ n ∧ n ≤ 1000) ∧ ∀ r : Int, 1 ≤ r → r ≤ 2 * n → K (.int .u64 r)
  | _ => False
/-- Two, so many times. -/
def p2 (r : Int) : Int := 2 ^ r.toNat
def BL (n r : Int) : Prop := 1 ≤ n → p2 r ≤ 2 * n
def c_blenX (args : List AV) (K : AV → Prop) : Prop := match args with
  | [.int .u64 n] => (0 ≤ n ∧ n ≤ 1000) ∧ ∀ r : Int, 0 ≤ r → r ≤ 10 → BL n r → K (.int .i64 r)
  | _ => False
noncomputable abbrev U1 : List (FuncId × Sp O) := (59, .h c_ord2) :: S3
noncomputable abbrev U2 : List (FuncId × Sp O) := (54, .h c_med) :: U1
noncomputable abbrev U3 : List (FuncId × Sp O) := (53, .h c_madj) :: U2
noncomputable abbrev U4 : List (FuncId × Sp O) := (26, .p c_blenX) :: S3
noncomputable abbrev U5 : List (FuncId × Sp O) := (51, .p c_npot) :: (52, .h c_xnext) :: U4
noncomputable abbrev U6 : List (FuncId × Sp O) := (50, .h c_sift) :: S3
noncomputable abbrev U7 : List (FuncId × Sp O) := (30, .h c_insG) :: (31, .h c_heap) :: (32, .h c_break) :: (33, .h c_choose) ::
  (34, .h c_rev) :: (35, .h c_pins) :: (36, .h c_peq) :: (37, .h c_part) :: S3
noncomputable abbrev U8 (N : Nat) : List (FuncId × Sp O) := (25, .h (c_pdqG N)) :: U7
noncomputable abbrev S6 : List (FuncId × Sp O) := (25, .h (c_pdqG 1001)) :: (26, .p c_blen) :: S3
end Go.Tb.W

/- Claims: the library's sort, of a few. -/
set_option linter.all false
set_option maxRecDepth 100000
set_option maxHeartbeats 2000000
namespace Go.Tb.W
open Go Go.Proofs
variable {I : Interp O}
theorem k_nan : ∀ (args : List AV) (K : AV → Prop), c_nan args K → ∀ hp, ACall I P 40 args hp (fun v hp' => K v ∧ hp' = hp) := by
  intro args K h hp
  unfold c_nan at h; split at h
  · rename_i a
    refine pcall mix Gm.nil (fn := Try.f40) (by kernel_rfl) (by kernel_rfl) (by kernel_rfl) rfl rfl (fun hr => ?_) hp
    refine (t_nan I (fun v => K v ∧ cl v = true) a).mpr ⟨?_, rfl⟩
    rw [bne_self_eq_false]; exact h
  · exact h.elim
theorem gS1 : GOk I P (Gm S1) := Gm.consP Gm.nil k_nan
theorem k_cmp : ∀ (args : List AV) (K : AV → Prop), c_cmp args K → ∀ hp, ACall I P 27 args hp (fun v hp' => K v ∧ hp' = hp) := by
  intro args K h hp
  unfold c_cmp at h; split at h
  · rename_i a b
    refine pcall mix gS1 (fn := Try.f27) (by kernel_rfl) (by kernel_rfl) (by kernel_rfl) rfl rfl (fun hr => ?_) hp
    refine (t_cmp I (fun v => K v ∧ cl v = true) a b).mpr (bsplit_both (fun h1 => ?_) (fun h1 => bsplit_both (fun h2 => ?_) (fun h2 => ?_)))
    · rw [if_pos (of_decide_eq_true h1)] at h; exact ⟨h, rfl⟩
    · rw [if_neg (of_decide_eq_false h1), if_pos (of_decide_eq_true h2)] at h; exact ⟨h, rfl⟩
    · rw [if_neg (of_decide_eq_false h1), if_neg (of_decide_eq_false h2)] at h; exact ⟨h, rfl⟩
  · exact h.elim
theorem gS2 : GOk I P (Gm S2) := Gm.consP gS1 k_cmp
theorem k_of : ∀ (args : List AV) (K : AV → Prop), c_of args K → ∀ hp, ACall I P 21 args hp (fun v hp' => K v ∧ hp' = hp) := by
  intro args K h hp
  unfold c_of at h; split at h
  · rename_i a m b n
    exact pcall mix gS2 (fn := Try.f21) (by kernel_rfl) (by kernel_rfl) (by kernel_rfl) rfl rfl (fun hr => (t_of I (fun v => K v ∧ cl v = true) a m b n).mpr ⟨h, rfl⟩) hp
  · exact h.elim
theorem gS3 : GOk I P (Gm S3) := Gm.consP gS2 k_of
theorem gE_get {xs : List Rw} {j : Nat} (h : j < xs.length) : xs[j]? = some (gE xs j) := by
  unfold gE; rw [List.getElem?_eq_getElem h]; rfl
theorem swap_perm {xs : List Rw} {i k : Nat} (hi : i < xs.length) (hk : k < xs.length) : ((xs.set i (gE xs k)).set k (gE xs i)).Perm xs := by
  have h := Array.swap_perm (xs := xs.toArray) (i := i) (j := k) (by simpa using hi) (by simpa using hk)
  have h := Array.perm_iff_toList_perm.1 h
  have e : (xs.toArray.swap i k (by simpa using hi) (by simpa using hk)).toList = (xs.set i (gE xs k)).set k (gE xs i) := by
    have a : gE xs i = xs[i] := by unfold gE; rw [List.getElem?_eq_getElem hi]; rfl
    have b : gE xs k = xs[k] := by unfold gE; rw [List.getElem?_eq_getElem hk]; rfl
    rw [a, b]
    simp [Array.swap]
  rw [e] at h
  exact h
theorem gE_set {xs : List Rw} {i k : Nat} (hi : i < xs.length) (hk : k < xs.length) (a b : Rw) (j : Nat) : gE ((xs.set i a).set k b) j = if j = k then b else if j = i then a else gE xs j := by
  unfold gE
  by_cases e : j = k
  · subst e; rw [if_pos rfl, List.getElem?_set_self (by simpa using hk)]; rfl
  · rw [if_neg e, List.getElem?_set_ne (fun h => e h.symm)]
    by_cases e2 : j = i
    · subst e2; rw [if_pos rfl, List.getElem?_set_self hi]; rfl
    · rw [if_neg e2, List.getElem?_set_ne (fun h => e2 h.symm)]
theorem NE.perm {xs ys : List Rw} (h : NE xs) (hp : ys.Perm xs) : NE ys := fun y hy => h y (hp.mem_iff.1 hy)
theorem edg_nf {x : Rw} (h : edg (x.i 0, x.i 1) = x) : rwA (acells (AV.agg [encS x 0 (.i .i64), encS x (0 + 1) (.i .i64)])) = x := h
/-- Two places changed. -/
def sw (xs : List Rw) (i k : Nat) : List Rw := (xs.set i (gE xs k)).set k (gE xs i)
theorem gE_sw {xs : List Rw} {i k : Nat} (hi : i < xs.length) (hk : k < xs.length) (j : Nat) : gE (sw xs i k) j = if j = k then gE xs i else if j = i then gE xs k else gE xs j := gE_set hi hk _ _ j
theorem kE_sw {xs : List Rw} {i k : Nat} (hi : i < xs.length) (hk : k < xs.length) (j : Nat) : kE (sw xs i k) j = if j = k then kE xs i else if j = i then kE xs k else kE xs j := by
  unfold kE; rw [gE_sw hi hk]; split
  · rfl
  · split <;> rfl
theorem PR.refl (xs : List Rw) (a b : Nat) : PR xs xs a b := ⟨List.Perm.refl _, fun _ _ => rfl, fun q h1 h2 => ⟨q, h1, h2, rfl⟩⟩
theorem PR.trans {xs ys zs : List Rw} {a b : Nat} (h : PR xs ys a b) (k : PR ys zs a b) : PR xs zs a b := ⟨k.pm.trans h.pm, fun j hj => (k.out j hj).trans (h.out j hj), fun q h1 h2 => by
  obtain ⟨p, a1, a2, e⟩ := k.ins q h1 h2
  obtain ⟨r, b1, b2, e2⟩ := h.ins p a1 a2
  exact ⟨r, b1, b2, e.trans e2⟩⟩
theorem PR.sub {xs ys : List Rw} {a b a' b' : Nat} (h : PR xs ys a' b') (h1 : a ≤ a') (h2 : b' ≤ b) : PR xs ys a b := ⟨h.pm, fun j hj => h.out j (by omega), fun q q1 q2 => by
  by_cases c : a' ≤ q ∧ q < b'
  · obtain ⟨p, a1, a2, e⟩ := h.ins q c.1 c.2
    exact ⟨p, by omega, by omega, e⟩
  · exact ⟨q, q1, q2, h.out q (by omega)⟩⟩
theorem PR.len {xs ys : List Rw} {a b : Nat} (h : PR xs ys a b) : ys.length = xs.length := h.pm.length_eq
theorem PR.sw {xs ys : List Rw} {a b : Nat} (h : PR xs ys a b) {i k : Nat} (hi : a ≤ i) (hi' : i < b) (hk : a ≤ k) (hk' : k < b) (hb : b ≤ ys.length) : PR xs (sw ys i k) a b :=
  h.trans ⟨swap_perm (by omega) (by omega), fun j hj => by rw [gE_sw (by omega) (by omega), if_neg (by omega), if_neg (by omega)], fun q h1 h2 => by
    rw [gE_sw (by omega) (by omega)]
    by_cases c : q = k
    · exact ⟨i, hi, hi', by rw [if_pos c]⟩
    · by_cases d : q = i
      · exact ⟨k, hk, hk', by rw [if_neg c, if_pos d]⟩
      · exact ⟨q, h1, h2, by rw [if_neg c, if_neg d]⟩⟩
theorem PR.ko {xs ys : List Rw} {a b : Nat} (h : PR xs ys a b) (j : Nat) (hj : j < a ∨ b ≤ j) : kE ys j = kE xs j := by unfold kE; rw [h.out j hj]
theorem PR.ki {xs ys : List Rw} {a b : Nat} (h : PR xs ys a b) (q : Nat) (h1 : a ≤ q) (h2 : q < b) : ∃ p, a ≤ p ∧ p < b ∧ kE ys q = kE xs p := by
  obtain ⟨p, a1, a2, e⟩ := h.ins q h1 h2
  exact ⟨p, a1, a2, by unfold kE; rw [e]⟩
theorem eN {xs : List Rw} (h : NE xs) {j : Nat} (hj : j < xs.length) : rwA (acells (AV.agg [encS (gE xs j) 0 (.i .i64), encS (gE xs j) (0 + 1) (.i .i64)])) = gE xs j := edg_nf (h _ (List.mem_of_getElem? (gE_get hj)))
/-- The two places are changed. -/
theorem swpX {xs : List Rw} {i j : Int} {l : Nat} {C : Rw → Rw → Prop} (hl : l = xs.length) (hne : NE xs) (hi : 0 ≤ i) (hi' : i < l) (hj : 0 ≤ j) (hj' : j < l)
    (h : rwA (acells (AV.agg [encS (gE xs j.toNat) 0 (.i .i64), encS (gE xs j.toNat) (0 + 1) (.i .i64)])) = gE xs j.toNat → rwA (acells (AV.agg [encS (gE xs i.toNat) 0 (.i .i64), encS (gE xs i.toNat) (0 + 1) (.i .i64)])) = gE xs i.toNat → C (gE xs j.toNat) (gE xs i.toNat)) :
    must (decide ((0 : Int) ≤ j ∧ j < (l : Int))) (must (decide ((0 : Int) ≤ i ∧ i < (l : Int))) (xget xs j.toNat fun x0 => (xget xs i.toNat fun x1 => (must (decide ((0 : Int) ≤ i ∧ i < (l : Int))) (xget xs i.toNat fun _ => (must (decide ((0 : Int) ≤ j ∧ j < (l : Int)))
      (xget (xs.set i.toNat (rwA (acells (AV.agg [encS x0 0 (.i .i64), encS x0 (0 + 1) (.i .i64)])))) j.toNat fun _ => C x0 x1))))))) := by
  have b1 : decide ((0 : Int) ≤ j ∧ j < (l : Int)) = true := decide_eq_true ⟨hj, hj'⟩
  have b2 : decide ((0 : Int) ≤ i ∧ i < (l : Int)) = true := decide_eq_true ⟨hi, hi'⟩
  have g1 := gE_get (xs := xs) (j := j.toNat) (by omega)
  have g2 := gE_get (xs := xs) (j := i.toNat) (by omega)
  refine must_mk b1 (must_mk b2 (xget_mk g1 (xget_mk g2 (must_mk b2 (xget_mk g2 (must_mk b1 ?_))))))
  refine xget_mk (List.getElem?_eq_getElem (by rw [List.length_set]; omega)) (h (eN hne (by omega)) (eN hne (by omega)))
/-- Is the first the less? -/
theorem cmpX {xs : List Rw} {i j : Int} {l : Nat} {D : Rw → Rw → Bool → Prop} (hl : l = xs.length) (hi : 0 ≤ i) (hi' : i < l) (hj : 0 ≤ j) (hj' : j < l)
    (ht : kE xs i.toNat < kE xs j.toNat → D (gE xs i.toNat) (gE xs j.toNat) true) (hf : kE xs j.toNat ≤ kE xs i.toNat → D (gE xs i.toNat) (gE xs j.toNat) false) :
    must (decide ((0 : Int) ≤ i ∧ i < (l : Int))) (must (decide ((0 : Int) ≤ j ∧ j < (l : Int))) (xget xs i.toNat fun x0 => (xget xs j.toNat fun x1 => (bsplit (decide ((if x0.i 0 < x1.i 0 then -1 else if x1.i 0 < x0.i 0 then 1 else 0) < (0 : Int))) (D x0 x1))))) := by
  refine must_mk (decide_eq_true ⟨hi, hi'⟩) (must_mk (decide_eq_true ⟨hj, hj'⟩) (xget_mk (gE_get (by omega)) (xget_mk (gE_get (by omega)) (bsplit_both (fun h => ht ?_) (fun h => hf ?_)))))
  · have h := of_decide_eq_true h
    show (gE xs i.toNat).i 0 < (gE xs j.toNat).i 0
    by_cases h1 : (gE xs i.toNat).i 0 < (gE xs j.toNat).i 0
    · exact h1
    · rw [if_neg h1] at h; split at h <;> omega
  · have h := of_decide_eq_false h
    show (gE xs j.toNat).i 0 ≤ (gE xs i.toNat).i 0
    by_cases h1 : (gE xs i.toNat).i 0 < (gE xs j.toNat).i 0
    · rw [if_pos h1] at h; omega
    · omega
/-- Is the first not the less? -/
theorem cmpN {xs : List Rw} {i j : Int} {l : Nat} {D : Rw → Rw → Bool → Prop} (hl : l = xs.length) (hi : 0 ≤ i) (hi' : i < l) (hj : 0 ≤ j) (hj' : j < l)
    (ht : kE xs j.toNat ≤ kE xs i.toNat → D (gE xs i.toNat) (gE xs j.toNat) true) (hf : kE xs i.toNat < kE xs j.toNat → D (gE xs i.toNat) (gE xs j.toNat) false) :
    must (decide ((0 : Int) ≤ i ∧ i < (l : Int))) (must (decide ((0 : Int) ≤ j ∧ j < (l : Int))) (xget xs i.toNat fun x0 => (xget xs j.toNat fun x1 => (bsplit (!decide ((if x0.i 0 < x1.i 0 then -1 else if x1.i 0 < x0.i 0 then 1 else 0) < (0 : Int))) (D x0 x1))))) := by
  refine must_mk (decide_eq_true ⟨hi, hi'⟩) (must_mk (decide_eq_true ⟨hj, hj'⟩) (xget_mk (gE_get (by omega)) (xget_mk (gE_get (by omega)) (bsplit_both (fun h => ht ?_) (fun h => hf ?_)))))
  · have h := of_decide_eq_false (Bool.not_eq_true' _ ▸ h)
    show (gE xs j.toNat).i 0 ≤ (gE xs i.toNat).i 0
    by_cases h1 : (gE xs i.toNat).i 0 < (gE xs j.toNat).i 0
    · rw [if_pos h1] at h; omega
    · omega
  · have h := of_decide_eq_true (Bool.not_eq_false' _ ▸ h)
    show (gE xs i.toNat).i 0 < (gE xs j.toNat).i 0
    by_cases h1 : (gE xs i.toNat).i 0 < (gE xs j.toNat).i 0
    · exact h1
    · rw [if_neg h1] at h; split at h <;> omega
end Go.Tb.W

/- Claims: the library's sort, of any number: states of the loops. -/
set_option linter.all false
set_option maxRecDepth 100000
namespace Go.Tb.W
open Go Go.Proofs
noncomputable abbrev g_i1 (l c room : Nat) (xs : List Rw) (a b i : Int) : St O := ⟨Tr.setL [(0, .sl 0 0 l c), (1, .int .i64 a), (2, .int .i64 b), (3, fnO), (8, .int .i64 i)] .leaf, Tr.setL [(0, eO xs room)] .leaf, 1, 53⟩
noncomputable abbrev g_i2 (l c room : Nat) (xs : List Rw) (a b i j : Int) : St O := ⟨Tr.setL [(0, .sl 0 0 l c), (1, .int .i64 a), (2, .int .i64 b), (3, fnO), (8, .int .i64 i), (9, .int .i64 j)] .leaf, Tr.setL [(0, eO xs room)] .leaf, 1, 53⟩
noncomputable abbrev g_sf (l c room : Nat) (xs : List Rw) (hi f r : Int) : St O := ⟨Tr.setL [(0, .sl 0 0 l c), (2, .int .i64 hi), (3, .int .i64 f), (4, fnO), (10, .int .i64 r)] .leaf, Tr.setL [(0, eO xs room)] .leaf, 1, 82⟩
noncomputable abbrev g_h1 (l c room : Nat) (xs : List Rw) (a hi i : Int) : St O := ⟨Tr.setL [(0, .sl 0 0 l c), (3, fnO), (8, .int .i64 a), (9, .int .i64 0), (10, .int .i64 hi), (11, .int .i64 i)] .leaf, Tr.setL [(0, eO xs room)] .leaf, 1, 60⟩
noncomputable abbrev g_bk (l c room : Nat) (xs : List Rw) (a n md x r : Int) : St O := ⟨Tr.setL [(0, .sl 0 0 l c), (1, .int .i64 a), (8, .int .i64 n), (9, .ptr 1 0), (10, .int .u64 md), (11, .int .i64 x)] .leaf, Tr.setL [(0, eO xs room), (1, xO r)] .leaf, 2, 67⟩
noncomputable abbrev g_rv (l c room : Nat) (xs : List Rw) (i j : Int) : St O := ⟨Tr.setL [(0, .sl 0 0 l c), (8, .int .i64 i), (9, .int .i64 j)] .leaf, Tr.setL [(0, eO xs room)] .leaf, 1, 34⟩
noncomputable abbrev g_p1 (l c room : Nat) (xs : List Rw) (a b i j : Int) : St O := ⟨Tr.setL [(0, .sl 0 0 l c), (1, .int .i64 a), (2, .int .i64 b), (3, fnO), (9, .int .i64 i), (10, .int .i64 j)] .leaf, Tr.setL [(0, eO xs room)] .leaf, 1, 141⟩
noncomputable abbrev g_pe (l c room : Nat) (xs : List Rw) (a i j : Int) : St O := ⟨Tr.setL [(0, .sl 0 0 l c), (1, .int .i64 a), (4, fnO), (11, .int .i64 i), (12, .int .i64 j)] .leaf, Tr.setL [(0, eO xs room)] .leaf, 1, 90⟩
noncomputable abbrev g_pt (l c room : Nat) (xs : List Rw) (a i j : Int) : St O := ⟨Tr.setL [(0, .sl 0 0 l c), (1, .int .i64 a), (4, fnO), (12, .int .i64 i), (13, .int .i64 j)] .leaf, Tr.setL [(0, eO xs room)] .leaf, 1, 178⟩
noncomputable abbrev g_pd (l c room : Nat) (xs : List Rw) (a b m : Int) (wb wp : Bool) : St O := ⟨Tr.setL [(0, .sl 0 0 l c), (1, .int .i64 a), (2, .int .i64 b), (3, .int .i64 m), (4, fnO), (10, .bool wb), (11, .bool wp)] .leaf, Tr.setL [(0, eO xs room)] .leaf, 1, 148⟩
noncomputable abbrev g_h2 (l c room : Nat) (xs : List Rw) (a i : Int) : St O := ⟨Tr.setL [(0, .sl 0 0 l c), (3, fnO), (8, .int .i64 a), (9, .int .i64 0), (12, .int .i64 i)] .leaf, Tr.setL [(0, eO xs room)] .leaf, 1, 60⟩
noncomputable abbrev g_p3 (l c room : Nat) (xs : List Rw) (a b i j k : Int) : St O := ⟨Tr.setL [(0, .sl 0 0 l c), (1, .int .i64 a), (2, .int .i64 b), (3, fnO), (9, .int .i64 i), (10, .int .i64 j), (11, .int .i64 k)] .leaf, Tr.setL [(0, eO xs room)] .leaf, 1, 141⟩
noncomputable abbrev g_p4 (l c room : Nat) (xs : List Rw) (a b i j k : Int) : St O := ⟨Tr.setL [(0, .sl 0 0 l c), (1, .int .i64 a), (2, .int .i64 b), (3, fnO), (9, .int .i64 i), (10, .int .i64 j), (12, .int .i64 k)] .leaf, Tr.setL [(0, eO xs room)] .leaf, 1, 141⟩
end Go.Tb.W

