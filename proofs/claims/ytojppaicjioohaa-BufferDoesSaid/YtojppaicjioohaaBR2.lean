/- Buffers: what the document's Put, Take and Drop tell and leave. -/
import Derived.Test.YtojppaicjioohaaBR
set_option linter.all false
set_option maxRecDepth 100000
namespace Go.Tb.W
open Go Go.Proofs
def c_rput (args : List AV) (hp : Tr (AO O)) (nx : Nat) (K : AV → Tr (AO O) → Nat → Prop) : Prop := match args with
  | [.ptr n 0, .int .i64 i, .str t] => isR hp n nx
      (fun e s d => ((0 ≤ d ∧ d ≤ 1000000) ∧ 0 ≤ s) ∧ ∀ (rc : Int) (rs : Bf), rc = putC ⟨e, s, [], d⟩ i t → rs = putS ⟨e, s, [], d⟩ i t →
        (rc = 0 → ∀ c' r', K (.int .i64 0) (newN hp n nx (dO [mkT i t] r') e s d (.sl nx 0 1 c')) (nx + 1)) ∧ (rc ≠ 0 → K (.int .i64 rc) (hp.set n (some (rO e s rs.dropped .nils))) nx))
      fun e s d m l c xs room => ((0 ≤ d ∧ d ≤ 1000000) ∧ ((keysOf (thR xs l)).length : Int) ≤ s) ∧ ∀ (rc : Int) (rs : Bf), rc = putC ⟨e, s, thR xs l, d⟩ i t → rs = putS ⟨e, s, thR xs l, d⟩ i t →
        (rc = 0 → ∀ c' r', K (.int .i64 0) (newR hp n m nx (dO (xs.take l ++ [mkT i t]) r') e s d (.sl nx 0 (l + 1) c') xs room) (nx + 1)) ∧ (rc ≠ 0 → K (.int .i64 rc) (sameR hp n m e s rs.dropped l c xs room) nx)
  | _ => False
def c_rtake (args : List AV) (hp : Tr (AO O)) (nx : Nat) (K : AV → Tr (AO O) → Nat → Prop) : Prop := match args with
  | [.ptr n 0, .int .i64 i] => free2 hp nx (isR hp n nx
      (fun e s d => ∀ c1 r1 c2 r2, K (.sl nx 0 0 c1) (newN (hp.set (nx + 1) (some (dO [] r2))) n nx (sO [] r1) e s d (.sl (nx + 1) 0 0 c2)) (nx + 2))
      fun e s d m l c xs room => ∀ (T : List ByteArray) (zs : List Rw), T = outR i i (xs.take l) → zs = restR i i (xs.take l) → ∀ c1 r1 c2 r2,
        K (.sl nx 0 T.length c1) (newR (hp.set (nx + 1) (some (dO zs r2))) n m nx (sO (T.map rowT) r1) e s d (.sl (nx + 1) 0 zs.length c2) xs room) (nx + 2))
  | _ => False
def c_rdrop (args : List AV) (hp : Tr (AO O)) (nx : Nat) (K : AV → Tr (AO O) → Nat → Prop) : Prop := match args with
  | [.ptr n 0, .int .i64 b] => free2 hp nx (isR hp n nx
      (fun e s d => (b < 1 → K (.int .i64 0) (hp.set n (some (rO e s d .nils))) nx) ∧ (1 ≤ b → ∀ c2 r2, K (.int .i64 0) (newN hp n nx (dO [] r2) e s d (.sl nx 0 0 c2)) (nx + 1)))
      fun e s d m l c xs room => (b < 1 → K (.int .i64 0) (sameR hp n m e s d l c xs room) nx) ∧ (1 ≤ b → ∀ (T : List ByteArray) (zs : List Rw), T = outR 1 (b - 1) (xs.take l) → zs = restR 1 (b - 1) (xs.take l) → ∀ c2 r2,
        K (.int .i64 (T.length : Nat)) (newR hp n m nx (dO zs r2) e s d (.sl nx 0 zs.length c2) xs room) (nx + 1)))
  | _ => False
noncomputable abbrev Q3 : List (FuncId × Sp O) :=
  (12, .h c_rnew) ::
  (15, .h c_rput) ::
  (18, .h c_rtake) ::
  (20, .h c_rdrop) ::
  (22, .h c_rivs) ::
  (26, .h c_rhas) ::
  Q2
end Go.Tb.W
