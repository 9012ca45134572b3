/- Buffers: what a buffer is made of; what its functions tell and leave. -/
import Derived.Test.YtojppaicjioohaaM22
import Derived.Test.YtojppaicjioohaaProg
set_option linter.all false
set_option maxRecDepth 100000
namespace Go.Tb.W
open Go Go.Proofs
noncomputable abbrev P : Program := Try.prog
instance decBytes : DecidableEq ByteArray := fun a b => decidable_of_iff (a.data = b.data) (by cases a; cases b; simp)
/-- A buffer: how many things each interval may have, how many intervals; the things, as they came; how many were dropped. -/
structure Bf where
  each : Int
  room : Int
  th : List (Int × ByteArray)
  dropped : Int
abbrev O := Bf
abbrev slotMS : MSh := ⟨.s, [.b], false⟩
def rowT (t : ByteArray) : Rw := rwA [.str t]
def rowE (t : ByteArray) : Rw := rwA [.str t, .bool true]
def rowI (x : Int) : Rw := rwA [.int .i64 x]
def entT (line : List ByteArray) : List (Rw × Nat) := line.zipIdx.map fun p => (rowE p.1, p.2)
abbrev bufO (each room size dropped : Int) : AO O := .cells 60 [.int .i64 each, .int .i64 room, .map 1, .int .i64 size, .int .i64 dropped] 5
abbrev focV (n m : Nat) : AV := .agg [.chan n, .map m]
abbrev chO (cap : Nat) (xs : List Rw) : AO O := .ch cap .s xs
abbrev setO' (es : List (Rw × Nat)) (clk : Nat) : AO O := .mp slotMS es clk
abbrev sO (xs : List Rw) (room : Nat) : AO O := .rows 9 [.s] xs room
abbrev nO (xs : List Rw) (room : Nat) : AO O := .rows 3 [.i .i64] xs room
noncomputable abbrev N0 : List (FuncId × Sp O) := []
/-- What lies there of an interval; which intervals have some. -/
def lineOf (th : List (Int × ByteArray)) (i : Int) : List ByteArray := (th.filter (fun p => decide (p.1 = i))).map (·.2)
def keysOf : List (Int × ByteArray) → List Int
  | [] => []
  | p :: l => if p.1 ∈ keysOf l then keysOf l else p.1 :: keysOf l
def srt (l : List Int) : List Int := l.mergeSort (fun x y => decide (x ≤ y))
def hasT (l : List ByteArray) (t : ByteArray) : Bool := l.any fun x => decide (x = t)
theorem hasT_iff {l : List ByteArray} {t : ByteArray} : hasT l t = true ↔ t ∈ l := by simp [hasT]
def putC (s : Bf) (i : Int) (t : ByteArray) : Int :=
  if i < 1 then 1 else if hasT (lineOf s.th i) t = true then 11 else if (lineOf s.th i = [] ∧ ((keysOf s.th).length : Int) = s.room) ∨ s.each ≤ ((lineOf s.th i).length : Int) then 4 else 0
def putS (s : Bf) (i : Int) (t : ByteArray) : Bf :=
  if putC s i t = 0 then { s with th := s.th ++ [(i, t)] } else if putC s i t = 4 then { s with dropped := s.dropped + 1 } else s
def takeS (s : Bf) (i : Int) : Bf := { s with th := s.th.filter (fun p => !decide (p.1 = i)) }
def dropS (s : Bf) (b : Int) : Bf := { s with th := s.th.filter (fun p => !decide (p.1 < b)) }
def dropN (s : Bf) (b : Int) : Int := ((s.th.filter (fun p => decide (p.1 < b))).length : Nat)
def newB (each room : Int) : Bf := ⟨each, room, [], 0⟩
def badB (each room : Int) : Bool := decide (each < 1 ∨ 64 < each ∨ room < 1 ∨ 64 < room)
/-- A buffer as it may be. -/
structure okB (s : Bf) : Prop where
  e1 : 1 ≤ s.each
  e2 : s.each ≤ 64
  r1 : 1 ≤ s.room
  r2 : s.room ≤ 64
  nd : s.th.Nodup
  ps : ∀ p ∈ s.th, 1 ≤ p.1
  ln : ∀ i, ((lineOf s.th i).length : Int) ≤ s.each
  ks : ((keysOf s.th).length : Int) ≤ s.room
/-- What lies at n is a buffer. -/
def isB (hp : Tr (AO O)) (n : Nat) (K : Bf → Prop) : Prop := match Nat.blt n 16777215, hp.get n with
  | true, some (.own s) => K s
  | _, _ => False
abbrev nB (hp : Tr (AO O)) (n : Nat) (s : Bf) : Tr (AO O) := hp.set n (some (.own s))
def c_new (args : List AV) (hp : Tr (AO O)) (nx : Nat) (K : AV → Tr (AO O) → Nat → Prop) : Prop := match args with
  | [.int .i64 e, .int .i64 r] => match Nat.blt nx 16777215, hp.get nx with
    | true, none => (badB e r = true → K (.tup [.nilp, .int .i64 1]) hp nx) ∧ (badB e r = false → okB (newB e r) → K (.tup [.ptr nx 0, .int .i64 0]) (nB hp nx (newB e r)) (nx + 1))
    | _, _ => False
  | _ => False
def c_put (args : List AV) (hp : Tr (AO O)) (nx : Nat) (K : AV → Tr (AO O) → Nat → Prop) : Prop := match args with
  | [.ptr n 0, .int .i64 i, .str t] => isB hp n fun s => (0 ≤ s.dropped ∧ s.dropped ≤ 1000000) ∧ K (.int .i64 (putC s i t)) (nB hp n (putS s i t)) nx
  | _ => False
def c_take (args : List AV) (hp : Tr (AO O)) (nx : Nat) (K : AV → Tr (AO O) → Nat → Prop) : Prop := match args with
  | [.ptr n 0, .int .i64 i] => isB hp n fun s => match Nat.blt nx 16777215, hp.get nx with
    | true, none => (lineOf s.th i = [] → K .nils (nB hp n (takeS s i)) nx) ∧
        (0 < (lineOf s.th i).length → ∀ c room, K (.sl nx 0 (lineOf s.th i).length c) ((nB hp n (takeS s i)).set nx (some (sO ((lineOf s.th i).map rowT) room))) (nx + 1))
    | _, _ => False
  | _ => False
def c_ivs (args : List AV) (hp : Tr (AO O)) (nx : Nat) (K : AV → Tr (AO O) → Nat → Prop) : Prop := match args with
  | [.ptr n 0] => isB hp n fun s => match Nat.blt nx 16777215, hp.get nx with
    | true, none => okB s → (s.th = [] → K .nils (nB hp n s) nx) ∧
        (0 < (keysOf s.th).length → ∀ c room, K (.sl nx 0 (keysOf s.th).length c) ((nB hp n s).set nx (some (nO ((srt (keysOf s.th)).map rowI) room))) (nx + 1))
    | _, _ => False
  | _ => False
def c_drop (args : List AV) (hp : Tr (AO O)) (nx : Nat) (K : AV → Tr (AO O) → Nat → Prop) : Prop := match args with
  | [.ptr n 0, .int .i64 b] => isB hp n fun s => K (.int .i64 (dropN s b)) (nB hp n (dropS s b)) nx
  | _ => False
def c_size (args : List AV) (hp : Tr (AO O)) (nx : Nat) (K : AV → Tr (AO O) → Nat → Prop) : Prop := match args with
  | [.ptr n 0] => isB hp n fun s => K (.int .i64 (s.th.length : Nat)) (nB hp n s) nx
  | _ => False
def c_dropped (args : List AV) (hp : Tr (AO O)) (nx : Nat) (K : AV → Tr (AO O) → Nat → Prop) : Prop := match args with
  | [.ptr n 0] => isB hp n fun s => K (.int .i64 s.dropped) (nB hp n s) nx
  | _ => False
def c_has (args : List AV) (hp : Tr (AO O)) (nx : Nat) (K : AV → Tr (AO O) → Nat → Prop) : Prop := match args with
  | [.ptr n 0, .int .i64 i, .str t] => isB hp n fun s => K (.bool (hasT (lineOf s.th i) t)) (nB hp n s) nx
  | _ => False
noncomputable abbrev j_tkA (each room size dropped : Int) (ss : List Slot) (cap : Nat) (xs : List Rw) (es : List (Rw × Nat)) (clk : Nat) : St O := ⟨Tr.setL [(0, .ptr 0 0), (5, .ptr 4 0), (7, .nils)] .leaf, Tr.setL [(0, bufO each room size dropped), (1, .pm ss none), (2, chO cap xs), (3, setO' es clk), (4, .cells 63 [.chan 2, .map 3] 2)] .leaf, 5, 43⟩
noncomputable abbrev j_tkB (each room size dropped : Int) (ss : List Slot) (cap : Nat) (xs : List Rw) (es : List (Rw × Nat)) (clk n c : Nat) (ys : List Rw) (rm : Nat) : St O := ⟨Tr.setL [(0, .ptr 0 0), (5, .ptr 4 0), (7, .sl 5 0 n c)] .leaf, Tr.setL [(0, bufO each room size dropped), (1, .pm ss none), (2, chO cap xs), (3, setO' es clk), (4, .cells 63 [.chan 2, .map 3] 2), (5, sO ys rm)] .leaf, 6, 43⟩
noncomputable abbrev j_drA (s : Bf) (b : Int) : St O := ⟨Tr.setL [(0, .ptr 0 0), (1, .int .i64 b), (5, .int .i64 0), (9, .nils), (10, .int .i64 0), (11, .int .i64 0)] .leaf, Tr.setL [(0, .own s)] .leaf, 1, 26⟩
noncomputable abbrev j_drB (s : Bf) (b n : Int) (m c : Nat) (xs : List Rw) (room : Nat) (i : Int) : St O := ⟨Tr.setL [(0, .ptr 0 0), (1, .int .i64 b), (5, .int .i64 n), (9, .sl 1 0 m c), (10, .int .i64 m), (11, .int .i64 i)] .leaf, Tr.setL [(0, .own s), (1, nO xs room)] .leaf, 2, 26⟩
noncomputable abbrev A1 : List (FuncId × Sp O) :=
  (17, .h c_take) ::
  (21, .h c_ivs) ::
  []
noncomputable abbrev B1 : List (FuncId × Sp O) :=
  (11, .h c_new) ::
  (14, .h c_put) ::
  (19, .h c_drop) ::
  (23, .h c_size) ::
  (24, .h c_dropped) ::
  (25, .h c_has) ::
  A1
def c_awake (args : List AV) (K : AV → Prop) : Prop := match args with
  | [] => K (.bool true)
  | _ => False
end Go.Tb.W
