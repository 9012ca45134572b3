/- Searches: what their functions tell and leave. -/
import Derived.Test.YtamfmlaipbdpgaaM22
import Derived.Test.YtamfmlaipbdpgaaProg
set_option linter.all false
set_option maxRecDepth 100000
namespace Go.Tb.W
open Go Go.Proofs
noncomputable abbrev P : Program := Try.prog
/-- A search: limits; servers, rising; reach and wait; when it may ask, and whether it asked. -/
structure O where
  m : Int
  w : Int
  q : Int
  ids : List Int
  rc : Int
  wt : Int
  fr : Int
  ak : Bool
abbrev cO (m w q : Int) (g : Nat) (rc wt fr : Int) (ak : Bool) : AO O := .cells 56 [.int .i64 m, .int .i64 w, .int .i64 q, .map g, .int .i64 rc, .int .i64 wt, .int .i64 fr, .bool ak] 8
abbrev mB : MSh := ⟨.i .i64, [.b], false⟩
abbrev mO (es : List (Rw × Nat)) (clk : Nat) : AO O := .mp mB es clk
def both (n m : Nat) : Bool := Nat.blt n 16777215 && (Nat.blt m 16777215 && !Nat.beq n m)
/-- The search that lies open at n. -/
def isC1 (hp : Tr (AO O)) (n : Nat) (K : Int → Int → Int → Nat → Int → Int → Int → Bool → List (Rw × Nat) → Nat → Prop) : Prop := match hp.get n with
  | some (.cells 56 [.int .i64 m, .int .i64 w, .int .i64 q, .map g, .int .i64 rc, .int .i64 wt, .int .i64 fr, .bool ak] 8) => match both n g, hp.get g with
    | true, some (.mp ⟨.i .i64, [.b], false⟩ es clk) => K m w q g rc wt fr ak es clk
    | _, _ => False
  | _ => False
abbrev nC1 (hp : Tr (AO O)) (n : Nat) (m w q : Int) (g : Nat) (rc wt fr : Int) (ak : Bool) (es : List (Rw × Nat)) (clk : Nat) : Tr (AO O) := (hp.set g (some (mO es clk))).set n (some (cO m w q g rc wt fr ak))
def c_full1 (args : List AV) (hp : Tr (AO O)) (nx : Nat) (K : AV → Tr (AO O) → Nat → Prop) : Prop := match args with
  | [.ptr n 0] => isC1 hp n fun m w q g rc wt fr ak es clk => es.length ≤ 1000 ∧ K (.bool (decide ((es.length : Int) ≥ q))) (nC1 hp n m w q g rc wt fr ak es clk) nx
  | _ => False
def c_anew1 (args : List AV) (hp : Tr (AO O)) (nx : Nat) (K : AV → Tr (AO O) → Nat → Prop) : Prop := match args with
  | [.ptr n 0] => isC1 hp n fun m w q g rc wt fr ak es clk => K (.tup []) (nC1 hp n m w q g 1 w fr ak es clk) nx
  | _ => False
/-- Why it may not ask. -/
def mayE (full : Bool) (wt fr : Int) (ak : Bool) (now : Int) : Int := if full = true then 4 else if ak = true ∧ now < fr then 15 else if now > 9223372036854775807 - wt then 6 else 0
def c_may1 (args : List AV) (hp : Tr (AO O)) (nx : Nat) (K : AV → Tr (AO O) → Nat → Prop) : Prop := match args with
  | [.ptr n 0, .int .i64 now] => isC1 hp n fun m w q g rc wt fr ak es clk => (0 ≤ wt ∧ es.length ≤ 1000) ∧ K (.int .i64 (mayE (decide ((es.length : Int) ≥ q)) wt fr ak now)) (nC1 hp n m w q g rc wt fr ak es clk) nx
  | _ => False
noncomputable abbrev N0 : List (FuncId × Sp O) := []
noncomputable abbrev A1 : List (FuncId × Sp O) :=
  (21, .h c_full1) ::
  (22, .h c_anew1) ::
  []
noncomputable abbrev A2 : List (FuncId × Sp O) :=
  (23, .h c_may1) ::
  A1
end Go.Tb.W
