/- Searches: the package's contracts. -/
import Derived.Test.YtamfmlaipbdpgaaC1
set_option linter.all false
set_option maxRecDepth 100000
namespace Go.Tb.W
open Go Go.Proofs
/-- What lies at n is a search. -/
def isC (hp : Tr (AO O)) (n : Nat) (K : O → Prop) : Prop := match Nat.blt n 16777215, hp.get n with
  | true, some (.own s) => K s
  | _, _ => False
abbrev nC (hp : Tr (AO O)) (n : Nat) (s : O) : Tr (AO O) := hp.set n (some (.own s))
/-- A search as it may be. -/
structure okC (s : O) : Prop where
  m1 : 1 ≤ s.m
  m2 : s.m ≤ 255
  w1 : 1 ≤ s.w
  w2 : s.w ≤ 1099511627776
  q1 : 1 ≤ s.q
  q2 : s.q ≤ 16
  r1 : 1 ≤ s.rc
  r2 : s.rc ≤ s.m
  t1 : s.w ≤ s.wt
  t2 : s.wt ≤ 64 * s.w
  so : s.ids.Pairwise (fun x y => x < y)
  nn : ∀ x ∈ s.ids, 0 ≤ x ∧ x ≤ 9223372036854775807
  ln : (s.ids.length : Int) ≤ s.q
def badC (m w q : Int) : Bool := decide (m < 1 ∨ m > 255 ∨ w < 1 ∨ w > 1099511627776 ∨ q < 1 ∨ q > 16)
def newC (m w q : Int) : O := ⟨m, w, q, [], 1, w, 0, false⟩
def fullC (s : O) : Bool := decide ((s.ids.length : Int) ≥ s.q)
def askE (s : O) (now : Int) : Int := mayE (fullC s) s.wt s.fr s.ak now
def askR (s : O) (now : Int) : Int := if askE s now = 0 then s.rc else 0
def minI (a b : Int) : Int := if b < a then b else a
def askS (s : O) (now : Int) : O := if askE s now = 0 then { s with rc := minI (2 * s.rc) s.m, wt := minI (2 * s.wt) (64 * s.w), fr := now + s.wt, ak := true } else s
def hasC (s : O) (id : Int) : Bool := s.ids.contains id
def foundE (s : O) (id : Int) : Int := if id < 0 then 1 else if hasC s id = true then 11 else if fullC s = true then 4 else 0
def insI (id : Int) (l : List Int) : List Int := l.filter (fun x => decide (x < id)) ++ id :: l.filter (fun x => !decide (x < id))
def foundS (s : O) (id : Int) : O := if foundE s id = 0 then { s with ids := insI id s.ids } else s
def lostE (s : O) (id : Int) : Int := if hasC s id = true then 0 else 10
def lostS (s : O) (id : Int) : O := if hasC s id = true then { s with ids := s.ids.filter (fun x => !(x == id)), rc := 1, wt := s.w } else s
abbrev nO (xs : List Rw) (room : Nat) : AO O := .rows 3 [.i .i64] xs room
def iR (x : Int) : Rw := rwA [.int .i64 x]
def c_new (args : List AV) (hp : Tr (AO O)) (nx : Nat) (K : AV → Tr (AO O) → Nat → Prop) : Prop := match args with
  | [.int .i64 m, .int .i64 w, .int .i64 q] => match Nat.blt nx 16777215, hp.get nx with
    | true, none => (badC m w q = true → K (.tup [.nilp, .int .i64 1]) hp nx) ∧ (badC m w q = false → K (.tup [.ptr nx 0, .int .i64 0]) (nC hp nx (newC m w q)) (nx + 1))
    | _, _ => False
  | _ => False
def c_full (args : List AV) (hp : Tr (AO O)) (nx : Nat) (K : AV → Tr (AO O) → Nat → Prop) : Prop := match args with
  | [.ptr n 0] => isC hp n fun s => K (.bool (fullC s)) (nC hp n s) nx
  | _ => False
def c_due (args : List AV) (hp : Tr (AO O)) (nx : Nat) (K : AV → Tr (AO O) → Nat → Prop) : Prop := match args with
  | [.ptr n 0, .int .i64 now] => isC hp n fun s => K (.bool (askE s now == 0)) (nC hp n s) nx
  | _ => False
def c_ask (args : List AV) (hp : Tr (AO O)) (nx : Nat) (K : AV → Tr (AO O) → Nat → Prop) : Prop := match args with
  | [.ptr n 0, .int .i64 now] => isC hp n fun s => K (.tup [.int .i64 (askR s now), .int .i64 (askE s now)]) (nC hp n (askS s now)) nx
  | _ => False
def c_found (args : List AV) (hp : Tr (AO O)) (nx : Nat) (K : AV → Tr (AO O) → Nat → Prop) : Prop := match args with
  | [.ptr n 0, .int .i64 id] => isC hp n fun s => K (.int .i64 (foundE s id)) (nC hp n (foundS s id)) nx
  | _ => False
def c_lost (args : List AV) (hp : Tr (AO O)) (nx : Nat) (K : AV → Tr (AO O) → Nat → Prop) : Prop := match args with
  | [.ptr n 0, .int .i64 id] => isC hp n fun s => K (.int .i64 (lostE s id)) (nC hp n (lostS s id)) nx
  | _ => False
def c_ids (args : List AV) (hp : Tr (AO O)) (nx : Nat) (K : AV → Tr (AO O) → Nat → Prop) : Prop := match args with
  | [.ptr n 0] => isC hp n fun s => match Nat.blt nx 16777215, hp.get nx with
    | true, none => okC s → (s.ids = [] → K .nils (nC hp n s) nx) ∧ (0 < s.ids.length → ∀ c room, K (.sl nx 0 s.ids.length c) ((nC hp n s).set nx (some (nO (s.ids.map iR) room))) (nx + 1))
    | _, _ => False
  | _ => False
noncomputable abbrev B1 : List (FuncId × Sp O) :=
  (10, .h c_new) ::
  (21, .h c_full) ::
  (12, .h c_due) ::
  (14, .h c_ask) ::
  (16, .h c_found) ::
  (18, .h c_lost) ::
  (20, .h c_ids) ::
  []
def c_awake (args : List AV) (K : AV → Prop) : Prop := match args with
  | [] => K (.bool true)
  | _ => False
noncomputable abbrev B2 : List (FuncId × Sp O) :=
  (9, .p c_awake) ::
  B1
end Go.Tb.W
