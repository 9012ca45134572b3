/- What the functions' bodies come to: each line is what the abstract machine makes of one function, or of one round of a loop, over the contracts of the functions that it calls (the text was printed by a program of mine; Lean proves it again). -/
import Derived.Test.YtkpkhddlijokcaaD1
set_option linter.all false
set_option maxRecDepth 100000
namespace Go.Tb
open Go Go.Proofs
namespace W
theorem t_since (I : Interp O) (K : AV → Prop) (a b c d : Int) : abody I P (Gm U) (adraw P (Gm U)) 0 Try.f17 [.agg [.int .i64 a, .int .u64 b], .agg [.int .i64 c, .int .u64 d]] .leaf 0 (fun v _ _ => K v) =
  (∀ (h0 : Int), (∀ (l1 : Int), (∀ (e2 : Int), (AddR (vl a b - vl c d) h0 l1 e2 → (bsplit (e2 != 0) fun | true => (K (.tup [(.int IntKind.i64 (0 : Int)), (.int IntKind.i64 (e2))])) | false => (∀ (n3 : Int), (∀ (e4 : Int), (I64R (vl h0 l1) n3 e4 → (K (.tup [(.int IntKind.i64 (n3)), (.int IntKind.i64 (e4))])))))))))) := by kernel_rfl
end W
end Go.Tb
