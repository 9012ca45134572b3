/- Buffers: states of the laws' loops. -/
import Derived.Test.YtojppaicjioohaaBT
set_option linter.all false
set_option maxRecDepth 100000
namespace Go.Tb.W
open Go Go.Proofs
abbrev aS : List Sh := [.i .i64, .i .i64, .s]
abbrev seenM : MSh := ⟨.s, [.b], false⟩
abbrev ivM : MSh := ⟨.i .i64, [.b], false⟩
noncomputable abbrev j_rm (l c : Nat) (q : Bool) (ob : Obj) (xs : List Rw) (E S : Int) (st : Bf) (i : Int) : St O := ⟨Tr.setL [(2, .slq 0 l c q), (7, .int .i64 E), (8, .int .i64 S), (9, .ptr 1 0), (11, .int .i64 i)] .leaf, Tr.setL [(0, .out ob aS xs), (1, .own st)] .leaf, 2, 164⟩
noncomputable abbrev j_fl (l c : Nat) (q : Bool) (ob : Obj) (xs : List Rw) (E : Int) (st : Bf) (es : List (Rw × Nat)) (clk : Nat) (n d : Nat) (ys : List Rw) (rm : Nat) (i : Int) : St O := ⟨Tr.setL [(5, .int .i64 E), (6, .ptr 1 0), (8, .map 2), (9, .sl 3 0 n d), (34, .slq 0 l c q), (35, .int .i64 l), (36, .int .i64 i)] .leaf, Tr.setL [(0, .out ob [.s] xs), (1, .own st), (2, .mp seenM es clk), (3, sO ys rm)] .leaf, 4, 83⟩
noncomputable abbrev j_ap (l c : Nat) (q : Bool) (ob : Obj) (xs : List Rw) (m d : Nat) (p : Bool) (oc : Obj) (ws : List Rw) (st : Bf) (n e : Nat) (ys : List Rw) (rm : Nat) (i : Int) : St O := ⟨Tr.setL [(1, .slq 1 m d p), (5, .ptr 2 0), (7, .sl 3 0 n e), (29, .slq 0 l c q), (30, .int .i64 l), (31, .int .i64 i)] .leaf, Tr.setL [(0, .out ob [.s] xs), (1, .out oc [.b] ws), (2, .own st), (3, sO ys rm)] .leaf, 4, 93⟩
noncomputable abbrev j_rs (l c : Nat) (q : Bool) (ob : Obj) (xs : List Rw) (st : Bf) (es : List (Rw × Nat)) (clk : Nat) (i : Int) : St O := ⟨Tr.setL [(0, .slq 0 l c q), (3, .ptr 1 0), (5, .map 2), (6, .int .i64 i)] .leaf, Tr.setL [(0, .out ob [.i .u8] xs), (1, .own st), (2, .mp ivM es clk)] .leaf, 3, 92⟩
end Go.Tb.W
