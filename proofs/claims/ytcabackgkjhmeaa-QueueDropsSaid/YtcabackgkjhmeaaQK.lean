/- Queues: what their methods tell and leave. -/
import Derived.Test.YtcabackgkjhmeaaQ6
set_option linter.all false
set_option maxRecDepth 100000
namespace Go.Tb.W
open Go Go.Proofs
def lo (t : Int) (l : List Rw) : List Rw := l.filter (fun x => decide (x.i 0 ≤ t))
def hi (t : Int) (l : List Rw) : List Rw := l.filter (fun x => !decide (x.i 0 ≤ t))
def insQ (l : List Rw) (e : Rw) : List Rw := lo (e.i 0) l ++ e :: hi (e.i 0) l
/-- The queue that lies there, or is the new variable that lies there. -/
def asQ : Option (AO O) → Option (List Rw × Int)
  | some (.own (.q l sq)) => some (l, sq)
  | some (.cells 27 [.nils, .int .i64 sq] 2) => some ([], sq)
  | _ => none
/-- What lies at n is a queue. -/
def isQ (hp : Tr (AO O)) (n : Nat) (K : List Rw → Int → Prop) : Prop := match Nat.blt n 16777215, asQ (hp.get n) with
  | true, some (l, sq) => K l sq
  | _, _ => False
abbrev nQ (hp : Tr (AO O)) (n : Nat) (l : List Rw) (sq : Int) : Tr (AO O) := hp.set n (some (.own (.q l sq)))
/-- In order. -/
def so (l : List Rw) : Prop := l.Pairwise (fun x y => lessE x y = true) ∧ l.length ≤ 1000
def c_qlen (args : List AV) (hp : Tr (AO O)) (nx : Nat) (K : AV → Tr (AO O) → Nat → Prop) : Prop := match args with
  | [.ptr n 0] => isQ hp n fun l sq => so l → K (.int .i64 l.length) (nQ hp n l sq) nx
  | _ => False
def c_qput (args : List AV) (hp : Tr (AO O)) (nx : Nat) (K : AV → Tr (AO O) → Nat → Prop) : Prop := match args with
  | [.ptr n 0, .agg [.int .i64 a, .int .i64 b, .str s]] => isQ hp n fun l sq => (0 ≤ sq ∧ sq ≤ 1000000) ∧ ((1000 ≤ l.length → K (.int .i64 4) (nQ hp n l sq) nx) ∧
    (l.length < 1000 → K (.int .i64 0) (nQ hp n (insQ l (mkE a b s sq)) (sq + 1)) nx))
  | _ => False
def c_qnext (args : List AV) (hp : Tr (AO O)) (nx : Nat) (K : AV → Tr (AO O) → Nat → Prop) : Prop := match args with
  | [.ptr n 0] => isQ hp n fun l sq => (l = [] → K (.tup [.agg [.int .i64 0, .int .i64 0, .str ⟨#[]⟩], .int .i64 10]) (nQ hp n [] sq) nx) ∧
    ∀ x t, l = x :: t → so (x :: t) → K (.tup [.agg [.int .i64 (x.i 0), .int .i64 (x.i 1), .str (x.s 2)], .int .i64 0]) (nQ hp n t sq) nx
  | _ => False
def c_qpeek (args : List AV) (hp : Tr (AO O)) (nx : Nat) (K : AV → Tr (AO O) → Nat → Prop) : Prop := match args with
  | [.ptr n 0] => isQ hp n fun l sq => (l = [] → K (.tup [.int .i64 0, .bool false]) (nQ hp n [] sq) nx) ∧
    ∀ x t, l = x :: t → so (x :: t) → K (.tup [.int .i64 (x.i 0), .bool true]) (nQ hp n (x :: t) sq) nx
  | _ => False
/-- Those of a kind gone. -/
def rest (k : Int) (l : List Rw) : List Rw := l.filter (fun x => !(x.i 1 == k))
def c_qdrop (args : List AV) (hp : Tr (AO O)) (nx : Nat) (K : AV → Tr (AO O) → Nat → Prop) : Prop := match args with
  | [.ptr n 0, .int .i64 k] => isQ hp n fun l sq => K (.int .i64 ((l.length : Int) - ((rest k l).length : Int))) (nQ hp n (rest k l) sq) nx
  | _ => False
abbrev iO (xs : List Rw) (room : Nat) : AO O := .rows 33 iS xs room
def it (x : Rw) : Rw := rwA [.int .i64 (x.i 0), .int .i64 (x.i 1), .str (x.s 2)]
def c_quntil (args : List AV) (hp : Tr (AO O)) (nx : Nat) (K : AV → Tr (AO O) → Nat → Prop) : Prop := match args with
  | [.ptr n 0, .int .i64 t] => isQ hp n fun l sq => match Nat.blt nx 16777215, hp.get nx with
    | true, none => (so l → lo t l = [] → K .nils (nQ hp n l sq) nx) ∧ (so l → 0 < (lo t l).length → ∀ c room, K (.sl nx 0 (lo t l).length c) (nQ (hp.set nx (some (iO ((lo t l).map it) room))) n (hi t l) sq) (nx + 1))
    | _, _ => False
  | _ => False
noncomputable abbrev j_untA (l : List Rw) (sq t : Int) : St O := ⟨Tr.setL [(0, .ptr 0 0), (1, .int .i64 t), (5, .nils)] .leaf, Tr.setL [(0, .own (.q l sq))] .leaf, 1, 32⟩
noncomputable abbrev j_untB (l : List Rw) (sq t : Int) (n c : Nat) (xs : List Rw) (room : Nat) : St O := ⟨Tr.setL [(0, .ptr 0 0), (1, .int .i64 t), (5, .sl 1 0 n c)] .leaf, Tr.setL [(0, .own (.q l sq)), (1, iO xs room)] .leaf, 2, 32⟩
noncomputable abbrev j_unt0 (sq t : Int) : St O := ⟨Tr.setL [(0, .ptr 0 0), (1, .int .i64 t), (5, .nils)] .leaf, Tr.setL [(0, qO .nils sq)] .leaf, 1, 32⟩
noncomputable abbrev B0 : List (FuncId × Sp O) :=
  (20, .h c_qlen) ::
  (10, .h c_qput) ::
  (12, .h c_qnext) ::
  (19, .h c_qpeek) ::
  (17, .h c_qdrop) ::
  []
noncomputable abbrev awO : AO O := .cells 33 [.int .i64 5, .int .i64 0, .str ⟨#[97]⟩, .int .i64 3, .int .i64 0, .str ⟨#[98]⟩, .int .i64 5, .int .i64 1, .str ⟨#[99]⟩, .int .i64 3, .int .i64 0, .str ⟨#[100]⟩] 12
noncomputable abbrev j_aw (l : List Rw) (sq i : Int) : St O := ⟨Tr.setL [(1, .ptr 0 0), (3, .int .i64 10), (23, .sl 1 0 4 4), (24, .int .i64 4), (25, .int .i64 i)] .leaf, Tr.setL [(0, .own (.q l sq)), (1, awO)] .leaf, 2, 101⟩
noncomputable abbrev B1 : List (FuncId × Sp O) :=
  (15, .h c_quntil) ::
  B0
def c_awake (args : List AV) (K : AV → Prop) : Prop := match args with
  | [] => K (.bool true)
  | _ => False
noncomputable abbrev B2 : List (FuncId × Sp O) :=
  (9, .p c_awake) ::
  B1
end Go.Tb.W
