/- Buffers: what the document's functions tell and leave. -/
import Derived.Test.YtojppaicjioohaaBT
set_option linter.all false
set_option maxRecDepth 100000
namespace Go.Tb.W
open Go Go.Proofs
abbrev rO (e s d : Int) (v : AV) : AO O := .cells 44 [.int .i64 e, .int .i64 s, .int .i64 d, v] 4
abbrev dO (xs : List Rw) (room : Nat) : AO O := .rows 66 [.i .i64, .s] xs room
def mkT (i : Int) (t : ByteArray) : Rw := rwA [.int .i64 i, .str t]
def prT (x : Rw) : Int × ByteArray := (x.i 0, x.s 1)
/-- The things that lie in rows. -/
def thR (xs : List Rw) (l : Nat) : List (Int × ByteArray) := (xs.take l).map prT
/-- The document's buffer that lies open at n. -/
def isR (hp : Tr (AO O)) (n nx : Nat) (Kn : Int → Int → Int → Prop) (K : Int → Int → Int → Nat → Nat → Nat → List Rw → Nat → Prop) : Prop := match hp.get n, Nat.blt nx 16777215, hp.get nx with
  | some (.cells 44 [.int .i64 e, .int .i64 s, .int .i64 d, .sl m 0 l c] 4), true, none => match both n m, hp.get m with
    | true, some (.rows 66 [.i .i64, .s] xs room) => (l ≤ xs.length ∧ l ≤ 1000) ∧ K e s d m l c xs room
    | _, _ => False
  | some (.cells 44 [.int .i64 e, .int .i64 s, .int .i64 d, .nils] 4), true, none => match Nat.blt n 16777215 with
    | true => Kn e s d
    | false => False
  | _, _, _ => False
noncomputable abbrev j_riA (e s d : Int) (l c room : Nat) (xs : List Rw) (n d2 : Nat) (ys : List Rw) (r2 : Nat) (i : Int) : St O := ⟨Tr.setL [(0, .ptr 0 0), (3, .sl 2 0 n d2), (4, .int .i64 i)] .leaf, Tr.setL [(0, rO e s d (.sl 1 0 l c)), (1, dO xs room), (2, nO ys r2)] .leaf, 3, 88⟩
noncomputable abbrev j_riN (e s d : Int) : St O := ⟨Tr.setL [(0, .ptr 0 0), (3, .sl 1 0 0 0), (4, .int .i64 0)] .leaf, Tr.setL [(0, rO e s d .nils), (1, nO [] 0)] .leaf, 2, 88⟩
noncomputable abbrev j_rhA (e s d : Int) (l c room : Nat) (xs : List Rw) (i : Int) (t : ByteArray) (k : Int) : St O := ⟨Tr.setL [(0, .ptr 0 0), (1, .int .i64 i), (2, .str t), (7, .int .i64 k)] .leaf, Tr.setL [(0, rO e s d (.sl 1 0 l c)), (1, dO xs room)] .leaf, 2, 39⟩
noncomputable abbrev j_rhN (e s d : Int) (i : Int) (t : ByteArray) : St O := ⟨Tr.setL [(0, .ptr 0 0), (1, .int .i64 i), (2, .str t), (7, .int .i64 0)] .leaf, Tr.setL [(0, rO e s d .nils)] .leaf, 1, 39⟩
noncomputable abbrev j_rpA (e s d : Int) (l c room : Nat) (xs : List Rw) (lo hi : Int) (n1 c1 : Nat) (ys : List Rw) (r1 n2 c2 : Nat) (zs : List Rw) (r2 : Nat) (k : Int) : St O := ⟨Tr.setL [(0, .ptr 0 0), (1, .int .i64 lo), (2, .int .i64 hi), (8, .sl 2 0 n1 c1), (9, .sl 3 0 n2 c2), (10, .int .i64 k)] .leaf, Tr.setL [(0, rO e s d (.sl 1 0 l c)), (1, dO xs room), (2, sO ys r1), (3, dO zs r2)] .leaf, 4, 67⟩
noncomputable abbrev j_rpN (e s d : Int) (lo hi : Int) : St O := ⟨Tr.setL [(0, .ptr 0 0), (1, .int .i64 lo), (2, .int .i64 hi), (8, .sl 1 0 0 0), (9, .sl 2 0 0 0), (10, .int .i64 0)] .leaf, Tr.setL [(0, rO e s d .nils), (1, sO [] 0), (2, dO [] 0)] .leaf, 3, 67⟩
noncomputable abbrev j_rj (e s d : Int) (l c room : Nat) (xs : List Rw) (n d2 : Nat) (ys : List Rw) (r2 : Nat) (i : Int) (n3 c3 : Nat) (zs : List Rw) (r3 : Nat) (dn : Bool) (k : Int) : St O := ⟨Tr.setL [(0, .ptr 0 0), (3, .sl 2 0 n d2), (4, .int .i64 i), (5, .sl 3 0 n3 c3), (6, .bool dn), (7, .int .i64 k)] .leaf, Tr.setL [(0, rO e s d (.sl 1 0 l c)), (1, dO xs room), (2, nO ys r2), (3, nO zs r3)] .leaf, 4, 88⟩
abbrev sameR (hp : Tr (AO O)) (n m : Nat) (e s d : Int) (l c : Nat) (xs : List Rw) (room : Nat) : Tr (AO O) := (hp.set m (some (dO xs room))).set n (some (rO e s d (.sl m 0 l c)))
abbrev newR (hp : Tr (AO O)) (n m nx : Nat) (o : AO O) (e s d : Int) (v : AV) (xs : List Rw) (room : Nat) : Tr (AO O) := ((hp.set nx (some o)).set m (some (dO xs room))).set n (some (rO e s d v))
abbrev newN (hp : Tr (AO O)) (n nx : Nat) (o : AO O) (e s d : Int) (v : AV) : Tr (AO O) := (hp.set nx (some o)).set n (some (rO e s d v))
def nT (x : Rw) : Rw := mkT (x.i 0) (x.s 1)
def c_rnew (args : List AV) (hp : Tr (AO O)) (nx : Nat) (K : AV → Tr (AO O) → Nat → Prop) : Prop := match args with
  | [.int .i64 e, .int .i64 r] => match Nat.blt nx 16777215, hp.get nx with
    | true, none => (badB e r = true → K (.tup [.nilp, .int .i64 1]) hp nx) ∧ (badB e r = false → K (.tup [.ptr nx 0, .int .i64 0]) (hp.set nx (some (rO e r 0 .nils))) (nx + 1))
    | _, _ => False
  | _ => False
def c_rhas (args : List AV) (hp : Tr (AO O)) (nx : Nat) (K : AV → Tr (AO O) → Nat → Prop) : Prop := match args with
  | [.ptr n 0, .int .i64 i, .str t] => isR hp n nx (fun e s d => K (.bool false) (hp.set n (some (rO e s d .nils))) nx)
      fun e s d m l c xs room => ∀ b : Bool, b = hasT (lineOf (thR xs l) i) t → K (.bool b) (sameR hp n m e s d l c xs room) nx
  | _ => False
def c_rivs (args : List AV) (hp : Tr (AO O)) (nx : Nat) (K : AV → Tr (AO O) → Nat → Prop) : Prop := match args with
  | [.ptr n 0] => isR hp n nx (fun e s d => ∀ c' r', K (.sl nx 0 0 c') (newN hp n nx (nO [] r') e s d .nils) (nx + 1))
      fun e s d m l c xs room => ∀ L : List Int, L = srt (keysOf (thR xs l)) → ∀ c' r', K (.sl nx 0 L.length c') (newR hp n m nx (nO (L.map rowI) r') e s d (.sl m 0 l c) xs room) (nx + 1)
  | _ => False
/-- The next name is free, too. -/
def free2 (hp : Tr (AO O)) (nx : Nat) (K : Prop) : Prop := match Nat.blt (nx + 1) 16777215, hp.get (nx + 1) with
  | true, none => K
  | _, _ => False
def inI (lo hi : Int) (i : Int) : Bool := decide (lo ≤ i) && decide (i ≤ hi)
def outR (lo hi : Int) (xs : List Rw) : List ByteArray := (xs.filter (fun x => inI lo hi (x.i 0))).map (fun x => x.s 1)
def restR (lo hi : Int) (xs : List Rw) : List Rw := (xs.filter (fun x => !inI lo hi (x.i 0))).map nT
def c_rparted (args : List AV) (hp : Tr (AO O)) (nx : Nat) (K : AV → Tr (AO O) → Nat → Prop) : Prop := match args with
  | [.ptr n 0, .int .i64 lo, .int .i64 hi] => free2 hp nx (isR hp n nx
      (fun e s d => ∀ c1 r1 c2 r2, K (.tup [.sl nx 0 0 c1, .sl (nx + 1) 0 0 c2]) (newN (hp.set (nx + 1) (some (dO [] r2))) n nx (sO [] r1) e s d .nils) (nx + 2))
      fun e s d m l c xs room => ∀ (T : List ByteArray) (zs : List Rw), T = outR lo hi (xs.take l) → zs = restR lo hi (xs.take l) → ∀ c1 r1 c2 r2,
        K (.tup [.sl nx 0 T.length c1, .sl (nx + 1) 0 zs.length c2]) (newR (hp.set (nx + 1) (some (dO zs r2))) n m nx (sO (T.map rowT) r1) e s d (.sl m 0 l c) xs room) (nx + 2))
  | _ => False
noncomputable abbrev R1 : List (FuncId × Sp O) :=
  (22, .h c_rivs) ::
  (27, .h c_rparted) ::
  []
noncomputable abbrev j_ruA (e s d : Int) (l c room : Nat) (xs : List Rw) (i : Int) (t : ByteArray) (n k : Int) : St O := ⟨Tr.setL [(0, .ptr 0 0), (1, .int .i64 i), (2, .str t), (7, .int .i64 n), (8, .int .i64 k)] .leaf, Tr.setL [(0, rO e s d (.sl 1 0 l c)), (1, dO xs room)] .leaf, 2, 95⟩
noncomputable abbrev j_ruN (e s d : Int) (i : Int) (t : ByteArray) : St O := ⟨Tr.setL [(0, .ptr 0 0), (1, .int .i64 i), (2, .str t), (7, .int .i64 0), (8, .int .i64 0)] .leaf, Tr.setL [(0, rO e s d .nils)] .leaf, 1, 95⟩
end Go.Tb.W
