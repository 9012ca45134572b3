/- The lists of contracts that the laws of disciplines use. -/
import Derived.Test.YtfdociljddgnhaaT1
set_option linter.all false
set_option maxRecDepth 100000
namespace Go.Tb.W
open Go Go.Proofs
noncomputable abbrev G3 : List (FuncId × Sp O) :=
  (9, .p c_awake) ::
  G2
abbrev aS : List Sh := [.i .i64, .i .i64, .i .i64, .i .i64]
abbrev lim (s p w r : Int) : AO O := .cells 22 [.int .i64 s, .int .i64 p, .int .i64 w, .int .i64 r] 4
noncomputable abbrev j_grows (s p w r o1 o2 b1 b2 s1 s2 s3 st q lt b now i : Int) : St O := ⟨Tr.setL [(5, .ptr 1 0), (6, .ptr 2 0), (7, .ptr 3 0), (9, .ptr 4 0), (11, .int .i64 now), (45, .int .i64 i)] .leaf,
  Tr.setL [(1, .cells 40 [.int .i64 o1, .int .i64 o2] 2), (2, .cells 42 [.int .u32 b1, .int .u32 b2] 2), (3, .cells 43 [.int .u32 s1, .int .u32 s2, .int .u32 s3] 3), (4, dO s p w r st q lt b)] .leaf, 5, 176⟩
noncomputable abbrev j_slews (s p w r : Int) (l c : Nat) (ob : Obj) (xs : List Rw) (st q lt b last i : Int) (seen : Bool) : St O := ⟨Tr.setL [(1, .sl 0 0 l c), (2, .ptr 1 0), (5, .ptr 2 0), (7, .int .i64 last), (8, .bool seen), (9, .int .i64 i)] .leaf,
  Tr.setL [(0, .out ob aS xs), (1, lim s p w r), (2, dO s p w r st q lt b)] .leaf, 3, 188⟩
noncomputable abbrev j_slews0 (s p w r : Int) : St O := ⟨Tr.setL [(1, .nils), (2, .ptr 0 0), (5, .ptr 1 0), (7, .int .i64 0), (8, .bool false), (9, .int .i64 0)] .leaf,
  Tr.setL [(0, lim s p w r), (1, dO s p w r 0 0 0 0)] .leaf, 2, 188⟩
noncomputable abbrev j_sides (s p w r : Int) (l c : Nat) (ob : Obj) (xs : List Rw) (st q lt b st2 q2 lt2 b2 i : Int) : St O := ⟨Tr.setL [(1, .sl 0 0 l c), (5, .ptr 2 0), (7, .ptr 3 0), (9, .int .i64 i)] .leaf,
  Tr.setL [(0, .out ob aS xs), (2, dO s p w r st q lt b), (3, dO s p w r st2 q2 lt2 b2)] .leaf, 4, 142⟩
noncomputable abbrev j_sides0 (s p w r : Int) : St O := ⟨Tr.setL [(1, .nils), (5, .ptr 1 0), (7, .ptr 2 0), (9, .int .i64 0)] .leaf,
  Tr.setL [(1, dO s p w r 0 0 0 0), (2, dO s p w r 0 0 0 0)] .leaf, 3, 142⟩
noncomputable abbrev j_refuses (s p w r : Int) (l c : Nat) (ob : Obj) (xs : List Rw) (st q lt b st2 q2 lt2 b2 i : Int) : St O := ⟨Tr.setL [(1, .sl 0 0 l c), (5, .ptr 2 0), (7, .ptr 3 0), (9, .int .i64 i)] .leaf,
  Tr.setL [(0, .out ob aS xs), (2, dO s p w r st q lt b), (3, dO s p w r st2 q2 lt2 b2)] .leaf, 4, 115⟩
noncomputable abbrev j_refuses0 (s p w r : Int) : St O := ⟨Tr.setL [(1, .nils), (5, .ptr 1 0), (7, .ptr 2 0), (9, .int .i64 0)] .leaf,
  Tr.setL [(1, dO s p w r 0 0 0 0), (2, dO s p w r 0 0 0 0)] .leaf, 3, 115⟩
noncomputable abbrev j_rs1 (s p w r : Int) (l c l2 c2 : Nat) (z1 z2 : Bool) (ob ob2 : Obj) (xs ys : List Rw) (st q lt b i : Int) : St O := ⟨Tr.setL [(1, .slq 0 l c z1), (2, .slq 1 l2 c2 z2), (7, .ptr 3 0), (9, .ptr 4 0), (11, .int .i64 i)] .leaf,
  Tr.setL [(0, .out ob aS xs), (1, .out ob2 aS ys), (3, dO s p w r st q lt b), (4, dO s p w r 0 0 0 0)] .leaf, 5, 164⟩
noncomputable abbrev j_rs2 (s p w r : Int) (l2 c2 : Nat) (z2 : Bool) (ob ob2 : Obj) (xs ys : List Rw) (st q lt b st2 q2 lt2 b2 i : Int) : St O := ⟨Tr.setL [(2, .slq 1 l2 c2 z2), (7, .ptr 3 0), (9, .ptr 4 0), (12, .int .i64 i)] .leaf,
  Tr.setL [(0, .out ob aS xs), (1, .out ob2 aS ys), (3, dO s p w r st q lt b), (4, dO s p w r st2 q2 lt2 b2)] .leaf, 5, 164⟩
end Go.Tb.W
