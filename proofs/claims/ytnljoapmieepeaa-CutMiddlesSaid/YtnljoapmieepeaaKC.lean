/- Claims: what is agreed on; contracts. -/
import Derived.Test.YtnljoapmieepeaaK3
set_option linter.all false
set_option maxRecDepth 100000
namespace Go.Tb.W
open Go Go.Proofs
/-- Where the counting stands. -/
structure Ag where
  nw : Int
  vo : Int
  lo : Int
  hi : Int
  op : Bool
def agS (s : Ag) (p : Int × Int) : Ag :=
  if p.2 = 0 then { s with nw := s.nw + p.2 }
  else if s.nw + p.2 > s.vo then { s with nw := s.nw + p.2, vo := s.nw + p.2, lo := p.1, op := true }
  else if s.op = true then { s with nw := s.nw + p.2, hi := p.1 - 1, op := false }
  else { s with nw := s.nw + p.2 }
def agF (L : List (Int × Int)) : Ag := L.foldl agS ⟨0, 0, 0, 0, false⟩
def agM (xs : List Rw) : Ag := agF (edgeF (lastF xs).1)
/-- Why nothing is agreed on. -/
def agE (xs : List Rw) : Int := if badI xs ≥ 0 then 1 else if (xs.length : Int) > 64 then 4 else if 2 * (agM xs).vo ≤ ((lastF xs).1.length : Int) then 10 else 0
def agLo (xs : List Rw) : Int := if agE xs = 0 then (agM xs).lo else 0
def agHi (xs : List Rw) : Int := if agE xs = 0 then (agM xs).hi else 0
def agVo (xs : List Rw) : Int := if agE xs = 0 then (agM xs).vo else 0
/-- Claims that lie in a variable's cells. -/
def chk : List AV → Option (List Rw)
  | [] => some []
  | .int .i64 a :: .int .i64 b :: .int .i64 c :: l => match chk l with | some r => some (rwA [.int .i64 a, .int .i64 b, .int .i64 c] :: r) | none => none
  | _ => none
def slD (hp : Tr (AO O)) (v : AV) (K : List Rw → (Tr (AO O) → Tr (AO O)) → Prop) : Prop := match v with
  | .sl n 0 l c => match Nat.blt n 16777215, hp.get n with
    | true, some (.cells 31 L room) => match chk L with
      | some xs => l ≤ xs.length ∧ K (xs.take l) (fun hp => hp.set n (some (cO xs room)))
      | none => False
    | _, _ => slC hp v K
  | _ => slC hp v K
def c_agree (args : List AV) (hp : Tr (AO O)) (nx : Nat) (K : AV → Tr (AO O) → Nat → Prop) : Prop := match args with
  | [v] => slD hp v fun xs f => xs.length ≤ 6 ∧ K (.tup [.int .i64 (agLo xs), .int .i64 (agHi xs), .int .i64 (agVo xs), .int .i64 (agE xs)]) (f hp) nx
  | _ => False
def insJ (x : Int) : List Int → List Int
  | [] => [x]
  | y :: l => if x ≤ y then x :: y :: l else y :: insJ x l
def srtJ : List Int → List Int
  | [] => []
  | x :: l => insJ x (srtJ l)
/-- Whose claims have it. -/
def trueF (xs : List Rw) : List Int := srtJ (((lastF xs).1.filter (fun e => decide (e.1.i 2 ≤ agLo xs) && decide (e.1.i 3 ≥ agHi xs))).map (fun e => e.1.i 0))
abbrev nO (xs : List Rw) (room : Nat) : AO O := .rows 3 [.i .i64] xs room
def iR (x : Int) : Rw := rwA [.int .i64 x]
def c_true (args : List AV) (hp : Tr (AO O)) (nx : Nat) (K : AV → Tr (AO O) → Nat → Prop) : Prop := match args with
  | [v] => slD hp v fun xs f => match Nat.blt nx 16777215, hp.get nx with
    | true, none => xs.length ≤ 6 ∧ (agE xs ≠ 0 → K .nils (f hp) nx) ∧ (agE xs = 0 → (trueF xs = [] → K .nils (f hp) nx) ∧ (trueF xs ≠ [] → ∀ c room, K (.sl nx 0 (trueF xs).length c) (f (hp.set nx (some (nO ((trueF xs).map iR) room)))) (nx + 1)))
    | _, _ => False
  | _ => False
def c_agreeC (args : List AV) (hp : Tr (AO O)) (nx : Nat) (K : AV → Tr (AO O) → Nat → Prop) : Prop := match args with
  | [v] => slC hp v fun xs f => xs.length ≤ 6 ∧ K (.tup [.int .i64 (agLo xs), .int .i64 (agHi xs), .int .i64 (agVo xs), .int .i64 (agE xs)]) (f hp) nx
  | _ => False
abbrev kO (n : Nat) : AO O := .kb 43 (.map n)
def c_keys (args : List AV) (hp : Tr (AO O)) (nx : Nat) (K : AV → Tr (AO O) → Nat → Prop) : Prop := match args with
  | [.map n] => match Nat.blt nx 16777215, hp.get nx with
    | true, none => K (.fn (.func 24) [] [.ptr nx 0]) (hp.set nx (some (kO n))) (nx + 1)
    | _, _ => False
  | _ => False
/-- A map whose keys can be told. -/
structure okK (es : List (Rw × Nat)) (clk : Nat) : Prop where
  key : es.Pairwise (fun x y => x.1.i 0 ≠ y.1.i 0)
  brn : es.Pairwise (fun x y => x.2 ≠ y.2)
  old : ∀ e ∈ es, e.2 < clk
  ln : es.length ≤ 1000
def keyL (es : List (Rw × Nat)) : List Int := es.map fun e => e.1.i 0
def c_sorted (args : List AV) (hp : Tr (AO O)) (nx : Nat) (K : AV → Tr (AO O) → Nat → Prop) : Prop := match args with
  | [.fn (.func 24) [] [.ptr m 0]] => match hp.get m with
    | some (.kb 43 (.map n)) => match hp.get n, Nat.blt nx 16777215, hp.get nx with
      | some (.mp ⟨.i .i64, [.i .i64, .i .i64, .i .i64], true⟩ es clk), true, none => okK es clk ∧ (es = [] → K .nils hp nx) ∧ (es ≠ [] → ∀ c room, K (.sl nx 0 es.length c) (hp.set nx (some (nO ((srtJ (keyL es)).map iR) room))) (nx + 1))
      | _, _, _ => False
    | _ => False
  | _ => False
noncomputable abbrev A7 : List (FuncId × Sp O) :=
  (10, .h c_agreeC) ::
  (15, .h c_last) ::
  (18, .h c_keys) ::
  (17, .h c_sorted) ::
  []
noncomputable abbrev j_trN (o : AO O) (es : List (Rw × Nat)) (clk : Nat) (lo hi : Int) : St O := ⟨Tr.setL [(3, .int .i64 lo), (4, .int .i64 hi), (7, .map 1), (8, .nils), (25, .nils), (26, .int .i64 0), (27, .int .i64 0)] .leaf, Tr.setL [(0, o), (1, mO es clk), (2, kO 1)] .leaf, 3, 50⟩
noncomputable abbrev j_trA (o : AO O) (es : List (Rw × Nat)) (clk : Nat) (lo hi : Int) (n c : Nat) (ys : List Rw) (room : Nat) (i : Int) : St O := ⟨Tr.setL [(3, .int .i64 lo), (4, .int .i64 hi), (7, .map 1), (8, .nils), (25, .sl 3 0 n c), (26, .int .i64 n), (27, .int .i64 i)] .leaf, Tr.setL [(0, o), (1, mO es clk), (2, kO 1), (3, nO ys room)] .leaf, 5, 50⟩
noncomputable abbrev j_trB (o : AO O) (es : List (Rw × Nat)) (clk : Nat) (lo hi : Int) (n c : Nat) (ys : List Rw) (room : Nat) (i : Int) (k d : Nat) (out : List Rw) (r2 : Nat) : St O := ⟨Tr.setL [(3, .int .i64 lo), (4, .int .i64 hi), (7, .map 1), (8, .sl 4 0 k d), (25, .sl 3 0 n c), (26, .int .i64 n), (27, .int .i64 i)] .leaf, Tr.setL [(0, o), (1, mO es clk), (2, kO 1), (3, nO ys room), (4, nO out r2)] .leaf, 5, 50⟩
def bAnd (a b : Int) : Int := bits .and .i64 a b
def bXor (a b : Int) : Int := bits .xor .i64 a b
def midI (a b : Int) : Int := (a + b).fdiv 2
def c_mid (args : List AV) (K : AV → Prop) : Prop := match args with
  | [.int .i64 a, .int .i64 b] => K (.int .i64 (midI a b))
  | _ => False
noncomputable abbrev B1 : List (FuncId × Sp O) :=
  (10, .h c_agree) ::
  (11, .h c_true) ::
  (8, .p c_mid) ::
  (12, .p c_may) ::
  []
def c_awake (args : List AV) (K : AV → Prop) : Prop := match args with
  | [] => K (.bool true)
  | _ => False
noncomputable abbrev B2 : List (FuncId × Sp O) := (7, .p c_awake) :: (9, .p c_mid) :: B1
end Go.Tb.W
