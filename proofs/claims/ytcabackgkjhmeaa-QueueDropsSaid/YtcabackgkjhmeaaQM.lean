/- Queues: the laws' loops, as they are met. -/
import Derived.Test.YtcabackgkjhmeaaQK
set_option linter.all false
set_option maxRecDepth 100000
namespace Go.Tb.W
open Go Go.Proofs
abbrev xO (ob : Obj) (xs : List Rw) : AO O := .out ob [.i .i8] xs
abbrev wO (l : List Rw) (sq : Int) : AO O := .own (.q l sq)
noncomputable abbrev j_fullA (more : Int) (q : List Rw) (sq i : Int) : St O := ⟨Tr.setL [(0, .int .u8 more), (3, .ptr 0 0), (4, .int .i64 i)] .leaf, Tr.setL [(0, wO q sq)] .leaf, 1, 54⟩
noncomputable abbrev j_sortA (l c : Nat) (p : Bool) (ob : Obj) (xs : List Rw) (n : Int) (q : List Rw) (sq i : Int) : St O := ⟨Tr.setL [(0, .slq 0 l c p), (3, .ptr 1 0), (4, .int .i64 n), (5, .int .i64 i)] .leaf, Tr.setL [(0, xO ob xs), (1, wO q sq)] .leaf, 2, 108⟩
noncomputable abbrev j_untlA (l c : Nat) (p : Bool) (ob : Obj) (xs : List Rw) (t u n : Int) (q : List Rw) (sq e a i : Int) : St O := ⟨Tr.setL [(0, .slq 0 l c p), (1, .int .i8 t), (2, .int .i8 u), (7, .ptr 1 0), (8, .int .i64 n), (9, .int .i64 e), (10, .int .i64 a), (11, .int .i64 i)] .leaf, Tr.setL [(0, xO ob xs), (1, wO q sq)] .leaf, 2, 113⟩
noncomputable abbrev j_dropA (l c : Nat) (p : Bool) (ob : Obj) (xs : List Rw) (n k : Int) (q : List Rw) (sq : Int) (r : List Rw) (sr g i : Int) : St O := ⟨Tr.setL [(0, .slq 0 l c p), (5, .ptr 1 0), (6, .ptr 2 0), (7, .int .i64 n), (8, .int .i64 k), (9, .int .i64 g), (10, .int .i64 i)] .leaf, Tr.setL [(0, xO ob xs), (1, wO q sq), (2, wO r sr)] .leaf, 3, 95⟩
abbrev mI : MSh := ⟨.i .i64, [.i .i64], false⟩
noncomputable abbrev j_latA (l c : Nat) (p : Bool) (ob : Obj) (xs : List Rw) (q : List Rw) (sq : Int) (es : List (Rw × Nat)) (clk : Nat) (i : Int) : St O := ⟨Tr.setL [(0, .slq 0 l c p), (3, .ptr 1 0), (4, .map 2), (5, .int .i64 i)] .leaf, Tr.setL [(0, xO ob xs), (1, wO q sq), (2, .mp mI es clk)] .leaf, 3, 88⟩
abbrev mB : MSh := ⟨.i .i64, [.b], false⟩
abbrev tO (a b : Int) (s : ByteArray) : AO O := .cells 33 [.int .i64 a, .int .i64 b, .str s] 3
noncomputable abbrev j_fullB (more : Int) (q : List Rw) (sq i : Int) : St O := ⟨Tr.setL [(0, .int .u8 more), (3, .ptr 0 0), (5, .int .i64 i)] .leaf, Tr.setL [(0, wO q sq)] .leaf, 1, 54⟩
noncomputable abbrev j_sortB (l c : Nat) (p : Bool) (ob : Obj) (xs : List Rw) (n : Int) (q : List Rw) (sq : Int) (es : List (Rw × Nat)) (clk : Nat) (a b : Int) (s : ByteArray) (i : Int) : St O := ⟨Tr.setL [(0, .slq 0 l c p), (3, .ptr 1 0), (4, .int .i64 n), (6, .map 2), (7, .ptr 3 0), (8, .int .i64 i)] .leaf, Tr.setL [(0, xO ob xs), (1, wO q sq), (2, .mp mB es clk), (3, tO a b s)] .leaf, 4, 108⟩
noncomputable abbrev j_untlB (ob : Obj) (xs : List Rw) (t u n : Int) (q : List Rw) (sq e a : Int) : St O := ⟨Tr.setL [(1, .int .i8 t), (2, .int .i8 u), (7, .ptr 1 0), (8, .int .i64 n), (9, .int .i64 e), (10, .int .i64 a), (12, .nils), (56, .nils), (57, .int .i64 0), (58, .int .i64 0)] .leaf, Tr.setL [(0, xO ob xs), (1, wO q sq)] .leaf, 2, 113⟩
noncomputable abbrev j_untlC (ob : Obj) (xs : List Rw) (t u n : Int) (q : List Rw) (sq e a : Int) (m d : Nat) (ys : List Rw) (room : Nat) (i : Int) : St O := ⟨Tr.setL [(1, .int .i8 t), (2, .int .i8 u), (7, .ptr 1 0), (8, .int .i64 n), (9, .int .i64 e), (10, .int .i64 a), (12, .sl 2 0 m d), (56, .sl 2 0 m d), (57, .int .i64 m), (58, .int .i64 i)] .leaf, Tr.setL [(0, xO ob xs), (1, wO q sq), (2, iO ys room)] .leaf, 3, 113⟩
noncomputable abbrev j_dropB (ob : Obj) (xs : List Rw) (k : Int) (q : List Rw) (sq : Int) (r : List Rw) (sr : Int) : St O := ⟨Tr.setL [(5, .ptr 1 0), (6, .ptr 2 0), (8, .int .i64 k)] .leaf, Tr.setL [(0, xO ob xs), (1, wO q sq), (2, wO r sr)] .leaf, 3, 95⟩
noncomputable abbrev j_latB (l c : Nat) (p : Bool) (ob : Obj) (xs : List Rw) (q : List Rw) (sq : Int) (es : List (Rw × Nat)) (clk : Nat) (i a b : Int) (s : ByteArray) (since : Nat) (seen : List Nat) (last : Nat) (cur : Option (Rw × Nat)) : St O := ⟨Tr.setL [(0, .slq 0 l c p), (3, .ptr 1 0), (4, .map 2), (5, .int .i64 i), (7, .ptr 3 0), (57, .ptr 4 0)] .leaf, Tr.setL [(0, xO ob xs), (1, wO q sq), (2, .mp mI es clk), (3, tO a b s), (4, .it 2 since seen last cur)] .leaf, 5, 88⟩
noncomputable abbrev j_latC (ob : Obj) (xs : List Rw) (q : List Rw) (sq : Int) (es : List (Rw × Nat)) (clk : Nat) (sum : Int) (since : Nat) (seen : List Nat) (last : Nat) (cur : Option (Rw × Nat)) : St O := ⟨Tr.setL [(3, .ptr 1 0), (11, .int .i64 sum), (77, .ptr 3 0)] .leaf, Tr.setL [(0, xO ob xs), (1, wO q sq), (2, .mp mI es clk), (3, .it 2 since seen last cur)] .leaf, 4, 88⟩
end Go.Tb.W
