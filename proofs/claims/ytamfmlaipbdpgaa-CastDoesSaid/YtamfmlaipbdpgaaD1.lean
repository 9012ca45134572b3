/- Searches: what the document's functions tell and leave. -/
import Derived.Test.YtamfmlaipbdpgaaC3
set_option linter.all false
set_option maxRecDepth 100000
namespace Go.Tb.W
open Go Go.Proofs
abbrev dO (m w q : Int) (v : AV) (t : Int) (ak : Bool) (fr : Int) : AO O := .cells 41 [.int .i64 m, .int .i64 w, .int .i64 q, v, .int .i64 t, .bool ak, .int .i64 fr] 7
/-- The document's search that lies open at n. -/
def isD (hp : Tr (AO O)) (n nx : Nat) (Kn : Int → Int → Int → Int → Bool → Int → Prop) (K : Int → Int → Int → Int → Bool → Int → Nat → Nat → Nat → List Rw → Nat → Prop) : Prop := match hp.get n, Nat.blt nx 16777215, hp.get nx with
  | some (.cells 41 [.int .i64 m, .int .i64 w, .int .i64 q, .sl g 0 l c, .int .i64 t, .bool ak, .int .i64 fr] 7), true, none => match both n g, hp.get g with
    | true, some (.rows 3 [.i .i64] xs room) => (l ≤ xs.length ∧ l ≤ 1000 ∧ 0 ≤ t ∧ t ≤ 1000 ∧ 1 ≤ w ∧ w ≤ 1099511627776 ∧ 1 ≤ m ∧ m ≤ 255) ∧ K m w q t ak fr g l c xs room
    | _, _ => False
  | some (.cells 41 [.int .i64 m, .int .i64 w, .int .i64 q, .nils, .int .i64 t, .bool ak, .int .i64 fr] 7), true, none => match Nat.blt n 16777215 with
    | true => (0 ≤ t ∧ t ≤ 1000 ∧ 1 ≤ w ∧ w ≤ 1099511627776 ∧ 1 ≤ m ∧ m ≤ 255) ∧ Kn m w q t ak fr
    | false => False
  | _, _, _ => False
abbrev sameD (hp : Tr (AO O)) (n : Nat) (m w q t : Int) (ak : Bool) (fr : Int) (g l c : Nat) (xs : List Rw) (room : Nat) : Tr (AO O) := (hp.set g (some (nO xs room))).set n (some (dO m w q (.sl g 0 l c) t ak fr))
abbrev sameN (hp : Tr (AO O)) (n : Nat) (m w q t : Int) (ak : Bool) (fr : Int) : Tr (AO O) := hp.set n (some (dO m w q .nils t ak fr))
abbrev newD (hp : Tr (AO O)) (n nx : Nat) (m w q t : Int) (ak : Bool) (fr : Int) (g : Nat) (xs : List Rw) (room : Nat) (ys : List Rw) (l' c' room' : Nat) : Tr (AO O) := ((hp.set nx (some (nO ys room'))).set g (some (nO xs room))).set n (some (dO m w q (.sl nx 0 l' c') t ak fr))
abbrev newN (hp : Tr (AO O)) (n nx : Nat) (m w q t : Int) (ak : Bool) (fr : Int) (ys : List Rw) (l' c' room' : Nat) : Tr (AO O) := (hp.set nx (some (nO ys room'))).set n (some (dO m w q (.sl nx 0 l' c') t ak fr))
def wtD (w t : Int) : Int := w * 2 ^ (min t.toNat 6)
def mayD (l : Nat) (q w t : Int) (ak : Bool) (fr now : Int) : Int := mayE (decide ((l : Int) ≥ q)) (wtD w t) fr ak now
def eT (e t : Int) : Int := if e = 0 then t + 1 else t
def eA (e : Int) (ak : Bool) : Bool := if e = 0 then true else ak
def eF (e fr nw : Int) : Int := if e = 0 then nw else fr
def eR (e t m : Int) : Int := if e = 0 then minI (2 ^ t.toNat) m else 0
def placeD (id : Int) (L : List Rw) : Int := match L.findIdx? (fun x => x.i 0 == id) with | some i => (i : Int) | none => -1
def foundD (id : Int) (L : List Rw) (l : Nat) (q : Int) : Int := if id < 0 then 1 else if 0 ≤ placeD id L then 11 else if (l : Int) ≥ q then 4 else 0
def tkD (id : Int) (L : List Rw) : List Rw := L.takeWhile (fun x => decide (x.i 0 < id))
def drD (id : Int) (L : List Rw) : List Rw := L.dropWhile (fun x => decide (x.i 0 < id))
def rmD (id : Int) (L : List Rw) : List Rw := L.take (placeD id L).toNat ++ L.drop ((placeD id L).toNat + 1)
def c_dnew (args : List AV) (hp : Tr (AO O)) (nx : Nat) (K : AV → Tr (AO O) → Nat → Prop) : Prop := match args with
  | [.int .i64 m, .int .i64 w, .int .i64 q] => match Nat.blt nx 16777215, hp.get nx with
    | true, none => (badC m w q = true → K (.tup [.nilp, .int .i64 1]) hp nx) ∧ (badC m w q = false → K (.tup [.ptr nx 0, .int .i64 0]) (sameN hp nx m w q 0 false 0) (nx + 1))
    | _, _ => False
  | _ => False
def c_dwaits (args : List AV) (hp : Tr (AO O)) (nx : Nat) (K : AV → Tr (AO O) → Nat → Prop) : Prop := match args with
  | [.ptr n 0] => isD hp n nx (fun m w q t ak fr => K (.int .i64 (wtD w t)) (sameN hp n m w q t ak fr) nx) fun m w q t ak fr g l c xs room => K (.int .i64 (wtD w t)) (sameD hp n m w q t ak fr g l c xs room) nx
  | _ => False
def c_dmay (args : List AV) (hp : Tr (AO O)) (nx : Nat) (K : AV → Tr (AO O) → Nat → Prop) : Prop := match args with
  | [.ptr n 0, .int .i64 now] => isD hp n nx (fun m w q t ak fr => K (.int .i64 (mayD 0 q w t ak fr now)) (sameN hp n m w q t ak fr) nx) fun m w q t ak fr g l c xs room => K (.int .i64 (mayD l q w t ak fr now)) (sameD hp n m w q t ak fr g l c xs room) nx
  | _ => False
def c_dask (args : List AV) (hp : Tr (AO O)) (nx : Nat) (K : AV → Tr (AO O) → Nat → Prop) : Prop := match args with
  | [.ptr n 0, .int .i64 now] => isD hp n nx (fun m w q t ak fr => K (.tup [.int .i64 (eR (mayD 0 q w t ak fr now) t m), .int .i64 (mayD 0 q w t ak fr now)]) (sameN hp n m w q (eT (mayD 0 q w t ak fr now) t) (eA (mayD 0 q w t ak fr now) ak) (eF (mayD 0 q w t ak fr now) fr (now + wtD w t))) nx)
      fun m w q t ak fr g l c xs room => K (.tup [.int .i64 (eR (mayD l q w t ak fr now) t m), .int .i64 (mayD l q w t ak fr now)]) (sameD hp n m w q (eT (mayD l q w t ak fr now) t) (eA (mayD l q w t ak fr now) ak) (eF (mayD l q w t ak fr now) fr (now + wtD w t)) g l c xs room) nx
  | _ => False
def c_dplace (args : List AV) (hp : Tr (AO O)) (nx : Nat) (K : AV → Tr (AO O) → Nat → Prop) : Prop := match args with
  | [.ptr n 0, .int .i64 id] => isD hp n nx (fun m w q t ak fr => K (.int .i64 (-1)) (sameN hp n m w q t ak fr) nx) fun m w q t ak fr g l c xs room => K (.int .i64 (placeD id (xs.take l))) (sameD hp n m w q t ak fr g l c xs room) nx
  | _ => False
def c_dfound (args : List AV) (hp : Tr (AO O)) (nx : Nat) (K : AV → Tr (AO O) → Nat → Prop) : Prop := match args with
  | [.ptr n 0, .int .i64 id] => isD hp n nx (fun m w q t ak fr => (foundD id [] 0 q ≠ 0 → K (.int .i64 (foundD id [] 0 q)) (sameN hp n m w q t ak fr) nx) ∧ (foundD id [] 0 q = 0 → ∀ c' room', K (.int .i64 0) (newN hp n nx m w q t ak fr [iR id] 1 c' room') (nx + 1)))
      fun m w q t ak fr g l c xs room => (foundD id (xs.take l) l q ≠ 0 → K (.int .i64 (foundD id (xs.take l) l q)) (sameD hp n m w q t ak fr g l c xs room) nx) ∧
        (foundD id (xs.take l) l q = 0 → ∀ c' room', K (.int .i64 0) (newD hp n nx m w q t ak fr g xs room (tkD id (xs.take l) ++ iR id :: drD id (xs.take l)) (l + 1) c' room') (nx + 1))
  | _ => False
def c_dlost (args : List AV) (hp : Tr (AO O)) (nx : Nat) (K : AV → Tr (AO O) → Nat → Prop) : Prop := match args with
  | [.ptr n 0, .int .i64 id] => isD hp n nx (fun m w q t ak fr => K (.int .i64 10) (sameN hp n m w q t ak fr) nx)
      fun m w q t ak fr g l c xs room => (placeD id (xs.take l) < 0 → K (.int .i64 10) (sameD hp n m w q t ak fr g l c xs room) nx) ∧
        (0 ≤ placeD id (xs.take l) → ∀ c' room', K (.int .i64 0) (newD hp n nx m w q 0 ak fr g xs room (rmD id (xs.take l)) (l - 1) c' room') (nx + 1))
  | _ => False
noncomputable abbrev D1 : List (FuncId × Sp O) :=
  (24, .h c_dwaits) ::
  (25, .h c_dplace) ::
  []
noncomputable abbrev D2 : List (FuncId × Sp O) :=
  (13, .h c_dmay) ::
  D1
noncomputable abbrev j_dw (m w q t fr : Int) (ak : Bool) (l c room : Nat) (xs : List Rw) (x i : Int) : St O := ⟨Tr.setL [(0, .ptr 0 0), (3, .int .i64 x), (4, .int .i64 i)] .leaf, Tr.setL [(0, dO m w q (.sl 1 0 l c) t ak fr), (1, nO xs room)] .leaf, 2, 24⟩
noncomputable abbrev j_dw0 (m w q t fr : Int) (ak : Bool) (x i : Int) : St O := ⟨Tr.setL [(0, .ptr 0 0), (3, .int .i64 x), (4, .int .i64 i)] .leaf, Tr.setL [(0, dO m w q .nils t ak fr)] .leaf, 1, 24⟩
noncomputable abbrev j_da (m w q t fr : Int) (ak : Bool) (l c room : Nat) (xs : List Rw) (now r i : Int) : St O := ⟨Tr.setL [(0, .ptr 0 0), (1, .int .i64 now), (7, .int .i64 r), (8, .int .i64 i)] .leaf, Tr.setL [(0, dO m w q (.sl 1 0 l c) t ak fr), (1, nO xs room)] .leaf, 2, 56⟩
noncomputable abbrev j_da0 (m w q t fr : Int) (ak : Bool) (now r i : Int) : St O := ⟨Tr.setL [(0, .ptr 0 0), (1, .int .i64 now), (7, .int .i64 r), (8, .int .i64 i)] .leaf, Tr.setL [(0, dO m w q .nils t ak fr)] .leaf, 1, 56⟩
noncomputable abbrev j_dp (m w q t fr : Int) (ak : Bool) (l c room : Nat) (xs : List Rw) (id i : Int) : St O := ⟨Tr.setL [(0, .ptr 0 0), (1, .int .i64 id), (5, .int .i64 i)] .leaf, Tr.setL [(0, dO m w q (.sl 1 0 l c) t ak fr), (1, nO xs room)] .leaf, 2, 25⟩
noncomputable abbrev j_dp0 (m w q t fr : Int) (ak : Bool) (id i : Int) : St O := ⟨Tr.setL [(0, .ptr 0 0), (1, .int .i64 id), (5, .int .i64 i)] .leaf, Tr.setL [(0, dO m w q .nils t ak fr)] .leaf, 1, 25⟩
noncomputable abbrev j_df (m w q t fr : Int) (ak : Bool) (l c room : Nat) (xs : List Rw) (id i : Int) : St O := ⟨Tr.setL [(0, .ptr 0 0), (1, .int .i64 id), (5, .int .i64 i)] .leaf, Tr.setL [(0, dO m w q (.sl 1 0 l c) t ak fr), (1, nO xs room)] .leaf, 2, 63⟩
noncomputable abbrev j_df0 (m w q t fr : Int) (ak : Bool) (id i : Int) : St O := ⟨Tr.setL [(0, .ptr 0 0), (1, .int .i64 id), (5, .int .i64 i)] .leaf, Tr.setL [(0, dO m w q .nils t ak fr)] .leaf, 1, 63⟩
end Go.Tb.W
