/- Searches: all contracts of the law that holds the document to it. -/
import Derived.Test.YtamfmlaipbdpgaaD1
set_option linter.all false
set_option maxRecDepth 100000
namespace Go.Tb.W
open Go Go.Proofs
noncomputable abbrev B3 : List (FuncId × Sp O) :=
  (11, .h c_dnew) ::
  (13, .h c_dmay) ::
  (15, .h c_dask) ::
  (17, .h c_dfound) ::
  (19, .h c_dlost) ::
  B2
abbrev aS : List Sh := [.i .i64, .i .i64, .i .i64]
noncomputable abbrev j_eN (quota : Int) (l c : Nat) (p : Bool) (ob : Obj) (xs : List Rw) : St O := ⟨Tr.setL [(2, .int .i64 quota), (3, .slq 0 l c p), (9, .nilp), (11, .nilp), (13, .int .i64 0)] .leaf, Tr.setL [(0, .out ob aS xs)] .leaf, 4, 163⟩
noncomputable abbrev j_eA (quota : Int) (l c : Nat) (p : Bool) (ob : Obj) (xs : List Rw) (s : O) (m w q t fr : Int) (ak : Bool) (i : Int) : St O := ⟨Tr.setL [(2, .int .i64 quota), (3, .slq 0 l c p), (9, .ptr 1 0), (11, .ptr 2 0), (13, .int .i64 i)] .leaf, Tr.setL [(0, .out ob aS xs), (1, .own s), (2, dO m w q .nils t ak fr)] .leaf, 4, 163⟩
noncomputable abbrev j_eB (quota : Int) (l c : Nat) (p : Bool) (ob : Obj) (xs : List Rw) (s : O) (m w q t fr : Int) (ak : Bool) (i : Int) (n d : Nat) (ys : List Rw) (room : Nat) : St O := ⟨Tr.setL [(2, .int .i64 quota), (3, .slq 0 l c p), (9, .ptr 1 0), (11, .ptr 2 0), (13, .int .i64 i)] .leaf, Tr.setL [(0, .out ob aS xs), (1, .own s), (2, dO m w q (.sl 3 0 n d) t ak fr), (3, nO ys room)] .leaf, 4, 163⟩
noncomputable abbrev j_iA (quota : Int) (l c : Nat) (p : Bool) (ob : Obj) (xs : List Rw) (s : O) (m w q t fr : Int) (ak : Bool) (i : Int) : St O := ⟨Tr.setL [(2, .int .i64 quota), (3, .slq 0 l c p), (9, .ptr 1 0), (11, .ptr 2 0), (13, .int .i64 i), (19, .nils), (146, .int .i64 0), (147, .int .i64 0)] .leaf, Tr.setL [(0, .out ob aS xs), (1, .own s), (2, dO m w q .nils t ak fr)] .leaf, 5, 163⟩
noncomputable abbrev j_iB (quota : Int) (l c : Nat) (p : Bool) (ob : Obj) (xs : List Rw) (s : O) (m w q t fr : Int) (ak : Bool) (i : Int) (n d : Nat) (ys : List Rw) (room : Nat) : St O := ⟨Tr.setL [(2, .int .i64 quota), (3, .slq 0 l c p), (9, .ptr 1 0), (11, .ptr 2 0), (13, .int .i64 i), (19, .nils), (146, .int .i64 0), (147, .int .i64 0)] .leaf, Tr.setL [(0, .out ob aS xs), (1, .own s), (2, dO m w q (.sl 3 0 n d) t ak fr), (3, nO ys room)] .leaf, 5, 163⟩
noncomputable abbrev j_iC (quota : Int) (l c : Nat) (p : Bool) (ob : Obj) (xs : List Rw) (s : O) (m w q t fr : Int) (ak : Bool) (i : Int) (n d : Nat) (ys : List Rw) (room : Nat) (k c2 : Nat) (zs : List Rw) (r2 : Nat) (j : Int) : St O := ⟨Tr.setL [(2, .int .i64 quota), (3, .slq 0 l c p), (9, .ptr 1 0), (11, .ptr 2 0), (13, .int .i64 i), (19, .sl 4 0 k c2), (146, .int .i64 k), (147, .int .i64 j)] .leaf, Tr.setL [(0, .out ob aS xs), (1, .own s), (2, dO m w q (.sl 3 0 n d) t ak fr), (3, nO ys room), (4, nO zs r2)] .leaf, 5, 163⟩
end Go.Tb.W
