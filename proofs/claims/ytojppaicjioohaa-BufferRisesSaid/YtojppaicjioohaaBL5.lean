/- Buffers: states of a law's second loop. -/
import Derived.Test.YtojppaicjioohaaBL
set_option linter.all false
set_option maxRecDepth 100000
namespace Go.Tb.W
open Go Go.Proofs
noncomputable abbrev j_rt0 (ob : Obj) (xs : List Rw) (st : Bf) (es : List (Rw × Nat)) (clk : Nat) : St O := ⟨Tr.setL [(3, .ptr 1 0), (5, .map 2), (8, .nils), (52, .int .i64 0), (53, .int .i64 0)] .leaf, Tr.setL [(0, .out ob [.i .u8] xs), (1, .own st), (2, .mp ivM es clk)] .leaf, 3, 92⟩
noncomputable abbrev j_rt (ob : Obj) (xs : List Rw) (st : Bf) (es : List (Rw × Nat)) (clk n c : Nat) (ys : List Rw) (rm : Nat) (k : Int) : St O := ⟨Tr.setL [(3, .ptr 1 0), (5, .map 2), (8, .sl 3 0 n c), (52, .int .i64 n), (53, .int .i64 k)] .leaf, Tr.setL [(0, .out ob [.i .u8] xs), (1, .own st), (2, .mp ivM es clk), (3, nO ys rm)] .leaf, 4, 92⟩
end Go.Tb.W
