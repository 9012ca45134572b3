/- Buffers: states of BufferDoes' loops. -/
import Derived.Test.YtojppaicjioohaaBR2
set_option linter.all false
set_option maxRecDepth 100000
namespace Go.Tb.W
open Go Go.Proofs
abbrev aS3 : List Sh := [.i .i64, .i .i64, .s]
noncomputable abbrev j_d0 (l c : Nat) (q : Bool) (ob : Obj) (xs : List Rw) : St O := ⟨Tr.setL [(2, .slq 0 l c q), (7, .nilp), (9, .nilp), (11, .int .i64 0)] .leaf, Tr.setL [(0, .out ob aS3 xs)] .leaf, 1, 158⟩
noncomputable abbrev j_dA (l c : Nat) (q : Bool) (ob : Obj) (xs : List Rw) (st : Bf) (e s d : Int) (i : Int) : St O := ⟨Tr.setL [(2, .slq 0 l c q), (7, .ptr 1 0), (9, .ptr 2 0), (11, .int .i64 i)] .leaf, Tr.setL [(0, .out ob aS3 xs), (1, .own st), (2, rO e s d .nils)] .leaf, 4, 158⟩
noncomputable abbrev j_dB (l c : Nat) (q : Bool) (ob : Obj) (xs : List Rw) (st : Bf) (e s d : Int) (n g : Nat) (ys : List Rw) (rm : Nat) (i : Int) : St O := ⟨Tr.setL [(2, .slq 0 l c q), (7, .ptr 1 0), (9, .ptr 2 0), (11, .int .i64 i)] .leaf, Tr.setL [(0, .out ob aS3 xs), (1, .own st), (2, rO e s d (.sl 3 0 n g)), (3, dO ys rm)] .leaf, 4, 158⟩
abbrev xO (kd k : Int) (t : ByteArray) : AO O := .cells 32 [.int .i64 kd, .int .i64 k, .str t] 3
noncomputable abbrev j_cA (l c : Nat) (q : Bool) (ob : Obj) (xs : List Rw) (st : Bf) (e s d : Int) (kd k : Int) (t : ByteArray) (i : Int) : St O := ⟨Tr.setL [(2, .slq 0 l c q), (7, .ptr 1 0), (9, .ptr 2 0), (11, .int .i64 i), (12, .ptr 3 0)] .leaf, Tr.setL [(0, .out ob aS3 xs), (1, .own st), (2, rO e s d .nils), (3, xO kd k t)] .leaf, 5, 158⟩
noncomputable abbrev j_cB (l c : Nat) (q : Bool) (ob : Obj) (xs : List Rw) (st : Bf) (e s d : Int) (n g : Nat) (ys : List Rw) (rm : Nat) (kd k : Int) (t : ByteArray) (i : Int) : St O := ⟨Tr.setL [(2, .slq 0 l c q), (7, .ptr 1 0), (9, .ptr 2 0), (11, .int .i64 i), (12, .ptr 3 0)] .leaf, Tr.setL [(0, .out ob aS3 xs), (1, .own st), (2, rO e s d (.sl 4 0 n g)), (3, xO kd k t), (4, dO ys rm)] .leaf, 5, 158⟩
noncomputable abbrev j_eA (l c : Nat) (q : Bool) (ob : Obj) (xs : List Rw) (st : Bf) (e s d : Int) (g1 r1 : Nat) (i : Int) : St O := ⟨Tr.setL [(2, .slq 0 l c q), (7, .ptr 1 0), (9, .ptr 2 0), (11, .int .i64 i), (13, .nils), (14, .sl 3 0 0 g1), (144, .int .i64 0), (145, .int .i64 0)] .leaf, Tr.setL [(0, .out ob aS3 xs), (1, .own st), (2, rO e s d .nils), (3, nO [] r1)] .leaf, 6, 158⟩
noncomputable abbrev j_eB0 (l c : Nat) (q : Bool) (ob : Obj) (xs : List Rw) (st : Bf) (e s d : Int) (n g : Nat) (ys : List Rw) (rm m g1 : Nat) (zs : List Rw) (r1 : Nat) (i : Int) : St O := ⟨Tr.setL [(2, .slq 0 l c q), (7, .ptr 1 0), (9, .ptr 2 0), (11, .int .i64 i), (13, .nils), (14, .sl 4 0 m g1), (144, .int .i64 0), (145, .int .i64 0)] .leaf, Tr.setL [(0, .out ob aS3 xs), (1, .own st), (2, rO e s d (.sl 3 0 n g)), (3, dO ys rm), (4, nO zs r1)] .leaf, 6, 158⟩
noncomputable abbrev j_eB (l c : Nat) (q : Bool) (ob : Obj) (xs : List Rw) (st : Bf) (e s d : Int) (n g : Nat) (ys : List Rw) (rm m g1 : Nat) (zs : List Rw) (r1 w g2 : Nat) (ws : List Rw) (r2 : Nat) (i kk : Int) : St O := ⟨Tr.setL [(2, .slq 0 l c q), (7, .ptr 1 0), (9, .ptr 2 0), (11, .int .i64 i), (13, .sl 5 0 w g2), (14, .sl 4 0 m g1), (144, .int .i64 w), (145, .int .i64 kk)] .leaf, Tr.setL [(0, .out ob aS3 xs), (1, .own st), (2, rO e s d (.sl 3 0 n g)), (3, dO ys rm), (4, nO zs r1), (5, nO ws r2)] .leaf, 6, 158⟩
end Go.Tb.W
