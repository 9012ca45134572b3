/- Buffers: contracts of the laws' helpers. -/
import Derived.Test.YtojppaicjioohaaB1
set_option linter.all false
set_option maxRecDepth 100000
namespace Go.Tb.W
open Go Go.Proofs
def both (n m : Nat) : Bool := Nat.blt n 16777215 && (Nat.blt m 16777215 && !Nat.beq n m)
def c_large (args : List AV) (K : AV → Prop) : Prop := match args with
  | [.agg [.int .i64 a, .int .i64 b, .str t]] => K (.bool (decide ((t.size : Int) > 200)))
  | _ => False
abbrev strsOf (xs : List Rw) (l : Nat) : List ByteArray := (xs.take l).map (fun x => x.s 0)
abbrev strO (t : ByteArray) : AO O := .cells 9 [.str t] 1
def c_texts (args : List AV) (hp : Tr (AO O)) (nx : Nat) (K : AV → Tr (AO O) → Nat → Prop) : Prop := match args with
  | [.nils, .nils] => K (.bool true) hp nx
  | [.nils, .sl n 0 l c] => match Nat.blt n 16777215, hp.get n with
    | true, some (.rows 9 [.s] xs room) => l = 0 ∧ K (.bool true) hp nx
    | _, _ => False
  | [.sl m 0 k d, .nils] => match Nat.blt m 16777215, hp.get m with
    | true, some (.rows 9 [.s] ys room) => k = 0 ∧ K (.bool true) hp nx
    | _, _ => False
  | [.sl m 0 k d, .sl n 0 l c] => match both m n, hp.get m, hp.get n with
    | true, some (.rows 9 [.s] ys r1), some (.rows 9 [.s] xs r2) => (k ≤ ys.length ∧ l ≤ xs.length ∧ strsOf ys k = strsOf xs l) ∧ K (.bool true) hp nx
    | true, some (.rows 9 [.s] ys r1), some (.cells 9 [.str t] 1) => (k = 1 ∧ l = 1 ∧ strsOf ys 1 = [t]) ∧ K (.bool true) hp nx
    | _, _, _ => False
  | _ => False
noncomputable abbrev j_tx00 : St O := ⟨Tr.setL [(0, .nils), (1, .nils), (12, .int .i64 0), (13, .int .i64 0)] .leaf, .leaf, 0, 26⟩
noncomputable abbrev j_tx01 (l c room : Nat) (xs : List Rw) : St O := ⟨Tr.setL [(0, .nils), (1, .sl 0 0 l c), (12, .int .i64 0), (13, .int .i64 0)] .leaf, Tr.setL [(0, sO xs room)] .leaf, 1, 26⟩
noncomputable abbrev j_tx10 (d room : Nat) (ys : List Rw) : St O := ⟨Tr.setL [(0, .sl 0 0 0 d), (1, .nils), (12, .int .i64 0), (13, .int .i64 0)] .leaf, Tr.setL [(0, sO ys room)] .leaf, 1, 26⟩
noncomputable abbrev j_tx11 (k d l c r1 r2 : Nat) (ys xs : List Rw) (i : Int) : St O := ⟨Tr.setL [(0, .sl 0 0 k d), (1, .sl 1 0 l c), (12, .int .i64 k), (13, .int .i64 i)] .leaf, Tr.setL [(0, sO ys r1), (1, sO xs r2)] .leaf, 2, 26⟩
noncomputable abbrev j_tx1c (d c r1 : Nat) (ys : List Rw) (t : ByteArray) (i : Int) : St O := ⟨Tr.setL [(0, .sl 0 0 1 d), (1, .sl 1 0 1 c), (12, .int .i64 1), (13, .int .i64 i)] .leaf, Tr.setL [(0, sO ys r1), (1, strO t)] .leaf, 2, 26⟩
noncomputable abbrev B2 : List (FuncId × Sp O) :=
  (10, .p c_awake) ::
  (13, .p c_large) ::
  (16, .h c_texts) ::
  B1
/-! The same contracts, with names for what comes. -/
def q_new (args : List AV) (hp : Tr (AO O)) (nx : Nat) (K : AV → Tr (AO O) → Nat → Prop) : Prop := match args with
  | [.int .i64 e, .int .i64 r] => match Nat.blt nx 16777215, hp.get nx with
    | true, none => (badB e r = true → K (.tup [.nilp, .int .i64 1]) hp nx) ∧ (badB e r = false → ∀ s : Bf, s = newB e r → okB s → K (.tup [.ptr nx 0, .int .i64 0]) (nB hp nx s) (nx + 1))
    | _, _ => False
  | _ => False
def q_put (args : List AV) (hp : Tr (AO O)) (nx : Nat) (K : AV → Tr (AO O) → Nat → Prop) : Prop := match args with
  | [.ptr n 0, .int .i64 i, .str t] => isB hp n fun s => (0 ≤ s.dropped ∧ s.dropped ≤ 1000000) ∧ ∀ (e : Int) (s' : Bf), e = putC s i t → s' = putS s i t → K (.int .i64 e) (nB hp n s') nx
  | _ => False
def q_take (args : List AV) (hp : Tr (AO O)) (nx : Nat) (K : AV → Tr (AO O) → Nat → Prop) : Prop := match args with
  | [.ptr n 0, .int .i64 i] => isB hp n fun s => match Nat.blt nx 16777215, hp.get nx with
    | true, none => ∀ (L : List ByteArray) (s' : Bf), L = lineOf s.th i → s' = takeS s i → (L = [] → K .nils (nB hp n s') nx) ∧
        (0 < L.length → ∀ c room, K (.sl nx 0 L.length c) ((nB hp n s').set nx (some (sO (L.map rowT) room))) (nx + 1))
    | _, _ => False
  | _ => False
def q_ivs (args : List AV) (hp : Tr (AO O)) (nx : Nat) (K : AV → Tr (AO O) → Nat → Prop) : Prop := match args with
  | [.ptr n 0] => isB hp n fun s => match Nat.blt nx 16777215, hp.get nx with
    | true, none => okB s → ∀ L : List Int, L = srt (keysOf s.th) → (L = [] → K .nils (nB hp n s) nx) ∧
        (0 < L.length → ∀ c room, K (.sl nx 0 L.length c) ((nB hp n s).set nx (some (nO (L.map rowI) room))) (nx + 1))
    | _, _ => False
  | _ => False
def q_drop (args : List AV) (hp : Tr (AO O)) (nx : Nat) (K : AV → Tr (AO O) → Nat → Prop) : Prop := match args with
  | [.ptr n 0, .int .i64 b] => isB hp n fun s => ∀ (e : Int) (s' : Bf), e = dropN s b → s' = dropS s b → K (.int .i64 e) (nB hp n s') nx
  | _ => False
def q_has (args : List AV) (hp : Tr (AO O)) (nx : Nat) (K : AV → Tr (AO O) → Nat → Prop) : Prop := match args with
  | [.ptr n 0, .int .i64 i, .str t] => isB hp n fun s => ∀ b : Bool, b = hasT (lineOf s.th i) t → K (.bool b) (nB hp n s) nx
  | _ => False
noncomputable abbrev Q2 : List (FuncId × Sp O) :=
  (10, .p c_awake) ::
  (13, .p c_large) ::
  (16, .h c_texts) ::
  (11, .h q_new) ::
  (14, .h q_put) ::
  (19, .h q_drop) ::
  (23, .h c_size) ::
  (24, .h c_dropped) ::
  (25, .h q_has) ::
  (17, .h q_take) ::
  (21, .h q_ivs) ::
  []
end Go.Tb.W
