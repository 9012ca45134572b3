/- Claims: what the functions that judge them tell and leave. -/
import Derived.Test.YtnljoapmieepeaaM22
import Derived.Test.YtnljoapmieepeaaProg
set_option linter.all false
set_option maxRecDepth 100000
namespace Go.Tb.W
open Go Go.Proofs
noncomputable abbrev P : Program := Try.prog
/-- No object of a layer's own is needed here. -/
abbrev O := Unit
def both (n m : Nat) : Bool := Nat.blt n 16777215 && (Nat.blt m 16777215 && !Nat.beq n m)
abbrev cS : List Sh := [.i .i64, .i .i64, .i .i64]
abbrev eS : List Sh := [.i .i64, .i .i64]
abbrev cO (xs : List Rw) (room : Nat) : AO O := .rows 31 cS xs room
abbrev oO (ob : Obj) (xs : List Rw) : AO O := .out ob cS xs
abbrev eO (xs : List Rw) (room : Nat) : AO O := .rows 48 eS xs room
abbrev mC : MSh := ⟨.i .i64, [.i .i64, .i .i64, .i .i64], true⟩
abbrev mO (es : List (Rw × Nat)) (clk : Nat) : AO O := .mp mC es clk
def setI (x : Rw) (j : Nat) (v : Int) : Rw := ⟨fun q => match q.beq j with | true => v | false => x.i q, x.b, x.s⟩
/-- May a claim be? -/
def mayC (id lo hi : Int) : Bool := decide (0 ≤ id ∧ lo ≤ hi ∧ -1152921504606846976 ≤ lo ∧ hi ≤ 1152921504606846976)
def mayR (x : Rw) : Bool := mayC (x.i 0) (x.i 1) (x.i 2)
def c_may (args : List AV) (K : AV → Prop) : Prop := match args with
  | [.agg [.int .i64 id, .int .i64 lo, .int .i64 hi]] => K (.bool (mayC id lo hi))
  | _ => False
def c_not (args : List AV) (K : AV → Prop) : Prop := match args with
  | [.agg [.int .i64 id, .int .i64 lo, .int .i64 hi]] => K (.bool (!mayC id lo hi))
  | _ => False
/-- What a slice of claims tells: there is none, or some that lie there. -/
def slC (hp : Tr (AO O)) (v : AV) (K : List Rw → (Tr (AO O) → Tr (AO O)) → Prop) : Prop := match v with
  | .nils => K [] (fun hp => hp)
  | .sl n 0 l c => match Nat.blt n 16777215, hp.get n with
    | true, some (.rows 31 [.i .i64, .i .i64, .i .i64] xs room) => l ≤ xs.length ∧ K (xs.take l) (fun hp => hp.set n (some (cO xs room)))
    | true, some (.out ob [.i .i64, .i .i64, .i .i64] xs) => l ≤ xs.length ∧ K (xs.take l) (fun hp => hp.set n (some (oO ob xs)))
    | _, _ => False
  | _ => False
def badI (xs : List Rw) : Int := match xs.findIdx? (fun x => !mayR x) with | some i => (i : Int) | none => -1
def c_index (args : List AV) (hp : Tr (AO O)) (nx : Nat) (K : AV → Tr (AO O) → Nat → Prop) : Prop := match args with
  | [v, .fn (.func 14) [] []] => slC hp v fun xs f => K (.int .i64 (badI xs)) (f hp) nx
  | _ => False
def c_contains (args : List AV) (hp : Tr (AO O)) (nx : Nat) (K : AV → Tr (AO O) → Nat → Prop) : Prop := match args with
  | [v, .fn (.func 14) [] []] => slC hp v fun xs f => K (.bool (decide (badI xs ≥ 0))) (f hp) nx
  | _ => False
noncomputable abbrev N0 : List (FuncId × Sp O) := []
noncomputable abbrev A1 : List (FuncId × Sp O) := (12, .p c_may) :: []
noncomputable abbrev A2 : List (FuncId × Sp O) := (14, .p c_not) :: A1
noncomputable abbrev A3 : List (FuncId × Sp O) := (19, .h c_index) :: A2
/-- The claims that count, by their ids. -/
def lastS (s : List (Rw × Nat) × Nat) (x : Rw) : List (Rw × Nat) × Nat := (mput (rwA [.int .i64 (x.i 0), .int .i64 (x.i 0), .int .i64 (x.i 1), .int .i64 (x.i 2)]) (.int .i64 (x.i 0)) s.2 s.1, mclk (.int .i64 (x.i 0)) s.1 s.2)
def lastF (xs : List Rw) : List (Rw × Nat) × Nat := xs.foldl lastS ([], 0)
def c_last (args : List AV) (hp : Tr (AO O)) (nx : Nat) (K : AV → Tr (AO O) → Nat → Prop) : Prop := match args with
  | [v] => slC hp v fun xs f => match Nat.blt nx 16777215, hp.get nx with
    | true, none => K (.map nx) (f (hp.set nx (some (mO (lastF xs).1 (lastF xs).2)))) (nx + 1)
    | _, _ => False
  | _ => False
noncomputable abbrev fnA : AV := .fn (.func 14) [] []
noncomputable abbrev j_ixN : St O := ⟨Tr.setL [(0, .nils), (1, fnA), (7, .int .i64 0), (8, .int .i64 0)] .leaf, .leaf, 0, 19⟩
noncomputable abbrev j_ixR (l c room : Nat) (xs : List Rw) (i : Int) : St O := ⟨Tr.setL [(0, .sl 0 0 l c), (1, fnA), (7, .int .i64 l), (8, .int .i64 i)] .leaf, Tr.setL [(0, cO xs room)] .leaf, 1, 19⟩
noncomputable abbrev j_ixO (l c : Nat) (ob : Obj) (xs : List Rw) (i : Int) : St O := ⟨Tr.setL [(0, .sl 0 0 l c), (1, fnA), (7, .int .i64 l), (8, .int .i64 i)] .leaf, Tr.setL [(0, oO ob xs)] .leaf, 1, 19⟩
noncomputable abbrev j_laN : St O := ⟨Tr.setL [(3, .map 0), (7, .nils), (8, .int .i64 0), (9, .int .i64 0)] .leaf, Tr.setL [(0, mO [] 0)] .leaf, 1, 19⟩
noncomputable abbrev j_laR (l c room : Nat) (xs : List Rw) (es : List (Rw × Nat)) (clk : Nat) (i : Int) : St O := ⟨Tr.setL [(3, .map 1), (7, .sl 0 0 l c), (8, .int .i64 l), (9, .int .i64 i)] .leaf, Tr.setL [(0, cO xs room), (1, mO es clk)] .leaf, 2, 19⟩
noncomputable abbrev j_laO (l c : Nat) (ob : Obj) (xs : List Rw) (es : List (Rw × Nat)) (clk : Nat) (i : Int) : St O := ⟨Tr.setL [(3, .map 1), (7, .sl 0 0 l c), (8, .int .i64 l), (9, .int .i64 i)] .leaf, Tr.setL [(0, oO ob xs), (1, mO es clk)] .leaf, 2, 19⟩
noncomputable abbrev A4 : List (FuncId × Sp O) := (13, .h c_contains) :: (15, .h c_last) :: []
end Go.Tb.W
