/- Searches: the laws' loops, as they are met. -/
import Derived.Test.YtamfmlaipbdpgaaC3
set_option linter.all false
set_option maxRecDepth 100000
namespace Go.Tb.W
open Go Go.Proofs
noncomputable abbrev j_gr (m w : Int) (s : O) (now reach gap i : Int) : St O := ⟨Tr.setL [(5, .int .i64 m), (6, .int .i64 w), (7, .ptr 0 0), (9, .int .i64 now), (10, .int .i64 reach), (11, .int .i64 gap), (12, .int .i64 i)] .leaf, Tr.setL [(0, .own s)] .leaf, 1, 88⟩
noncomputable abbrev j_qu (l c : Nat) (p : Bool) (ob : Obj) (xs : List Rw) (q : Int) (s : O) (es : List (Rw × Nat)) (clk : Nat) (i : Int) : St O := ⟨Tr.setL [(1, .slq 0 l c p), (5, .int .i64 q), (6, .ptr 1 0), (8, .map 2), (9, .int .i64 i)] .leaf, Tr.setL [(0, .out ob [.i .u8] xs), (1, .own s), (2, mO es clk)] .leaf, 3, 113⟩
noncomputable abbrev j_wa (l c : Nat) (p : Bool) (ob : Obj) (xs : List Rw) (s t : O) (now i : Int) : St O := ⟨Tr.setL [(2, .slq 0 l c p), (7, .ptr 1 0), (9, .ptr 2 0), (11, .int .i64 now), (12, .int .i64 i)] .leaf, Tr.setL [(0, .out ob [.i .u16] xs), (1, .own s), (2, .own t)] .leaf, 3, 89⟩
noncomputable abbrev j_id (l c : Nat) (p : Bool) (ob : Obj) (xs : List Rw) (q : Int) (s : O) (es : List (Rw × Nat)) (clk : Nat) (i : Int) : St O := ⟨Tr.setL [(1, .slq 0 l c p), (5, .int .i64 q), (6, .ptr 1 0), (8, .map 2), (9, .int .i64 i)] .leaf, Tr.setL [(0, .out ob [.i .i8] xs), (1, .own s), (2, mO es clk)] .leaf, 3, 104⟩
noncomputable abbrev j_mv (l c : Nat) (p : Bool) (ob : Obj) (xs : List Rw) (by_ : Int) (s t : O) (now i : Int) : St O := ⟨Tr.setL [(2, .slq 0 l c p), (3, .int .i64 by_), (9, .ptr 1 0), (11, .ptr 2 0), (13, .int .i64 now), (14, .int .i64 i)] .leaf, Tr.setL [(0, .out ob [.i .u16] xs), (1, .own s), (2, .own t)] .leaf, 3, 88⟩
noncomputable abbrev j_quB (ob : Obj) (xs : List Rw) (s : O) (es : List (Rw × Nat)) (clk : Nat) (since : Nat) (seen : List Nat) (last : Nat) (cur : Option (Rw × Nat)) : St O := ⟨Tr.setL [(6, .ptr 1 0), (91, .ptr 3 0)] .leaf, Tr.setL [(0, .out ob [.i .u8] xs), (1, .own s), (2, mO es clk), (3, .it 2 since seen last cur)] .leaf, 4, 113⟩
noncomputable abbrev j_idB (l c : Nat) (p : Bool) (ob : Obj) (xs : List Rw) (q : Int) (s : O) (es : List (Rw × Nat)) (clk : Nat) (i : Int) : St O := ⟨Tr.setL [(1, .slq 0 l c p), (5, .int .i64 q), (6, .ptr 1 0), (8, .map 2), (9, .int .i64 i), (11, .nils), (76, .int .i64 0), (77, .int .i64 0)] .leaf, Tr.setL [(0, .out ob [.i .i8] xs), (1, .own s), (2, mO es clk)] .leaf, 3, 104⟩
noncomputable abbrev j_idC (l c : Nat) (p : Bool) (ob : Obj) (xs : List Rw) (q : Int) (s : O) (es : List (Rw × Nat)) (clk : Nat) (i : Int) (n c2 : Nat) (ys : List Rw) (room : Nat) (k : Int) : St O := ⟨Tr.setL [(1, .slq 0 l c p), (5, .int .i64 q), (6, .ptr 1 0), (8, .map 2), (9, .int .i64 i), (11, .sl 3 0 n c2), (76, .int .i64 n), (77, .int .i64 k)] .leaf, Tr.setL [(0, .out ob [.i .i8] xs), (1, .own s), (2, mO es clk), (3, nO ys room)] .leaf, 4, 104⟩
end Go.Tb.W
