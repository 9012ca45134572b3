/- Buffers: states of the loops of the law that all that was put is taken once. -/
import Derived.Test.YtojppaicjioohaaBY1
import Derived.Test.YtojppaicjioohaaBL
set_option linter.all false
set_option maxRecDepth 100000
namespace Go.Tb.W
open Go Go.Proofs
abbrev PF := Nat → Pe
abbrev lieM : MSh := ⟨.i .i64, [.v], false⟩
noncomputable abbrev j_on (l c : Nat) (q : Bool) (ob : Obj) (xs : List Rw) (st : Bf) (f : PF) (es : List (Rw × Nat)) (clk : Nat) (i : Int) : St O := ⟨Tr.setL [(2, .slq 0 l c q), (7, .ptr 1 0), (9, .map 3), (10, .int .i64 i)] .leaf, Tr.setL [(0, .out ob aS xs), (1, .own st), (2, .pg 9 f), (3, .mp lieM es clk)] .leaf, 4, 134⟩
abbrev iO (x : Rw) : AO O := .cells 32 [.int .i64 (x.i 0), .int .i64 (x.i 1), .str (x.s 2)] 3
noncomputable abbrev j_od (l c : Nat) (q : Bool) (ob : Obj) (xs : List Rw) (st : Bf) (f : PF) (es : List (Rw × Nat)) (clk : Nat) (i : Int) (x : Rw) (n : Int) (since : Nat) (seen : List Nat) (last : Nat) (cur : Option (Rw × Nat)) : St O := ⟨Tr.setL [(2, .slq 0 l c q), (7, .ptr 1 0), (9, .map 3), (10, .int .i64 i), (11, .ptr 4 0), (12, .int .i64 n), (90, .ptr 5 0)] .leaf, Tr.setL [(0, .out ob aS xs), (1, .own st), (2, .pg 9 f), (3, .mp lieM es clk), (4, iO x), (5, .it 3 since seen last cur)] .leaf, 6, 134⟩
noncomputable abbrev j_oe (ob : Obj) (xs : List Rw) (st : Bf) (f : PF) (es : List (Rw × Nat)) (clk : Nat) (since : Nat) (seen : List Nat) (last : Nat) (cur : Option (Rw × Nat)) : St O := ⟨Tr.setL [(7, .ptr 1 0), (113, .ptr 4 0)] .leaf, Tr.setL [(0, .out ob aS xs), (1, .own st), (2, .pg 9 f), (3, .mp lieM es clk), (4, .it 3 since seen last cur)] .leaf, 5, 134⟩
end Go.Tb.W
