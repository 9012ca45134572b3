/- What the functions' bodies come to: each line is what the abstract machine makes of one function, or of one round of a loop, over the contracts of the functions that it calls (the text was printed by a program of mine; Lean proves it again). -/
import Derived.Test.YtfdociljddgnhaaD1
set_option linter.all false
set_option maxRecDepth 100000
namespace Go.Tb
open Go Go.Proofs
namespace W
theorem t_grown (I : Interp O) (K : AV → Prop) (s r : Int) : abody I P (Gm F5) (adraw P (Gm F5)) 0 Try.f12 [.int .i64 s, .int .i64 r] .leaf 0 (fun v _ _ => K v) =
  (bsplit (decide (s < 0)) fun | true => (K (.tup [(.int IntKind.i64 (0 : Int)), (.int IntKind.i64 (1 : Int))])) | false => (bsplit (decide (r < 0)) fun | true => (K (.tup [(.int IntKind.i64 (0 : Int)), (.int IntKind.i64 (1 : Int))])) | false => (∀ (h0 : Int), (∀ (l1 : Int), (Nm h0 l1 (s * r) → (∀ (h2 : Int), (∀ (l3 : Int), (∀ (r4 : Int), (∀ (e5 : Int), (DivR (vl h0 l1) 1000000000 h2 l3 r4 e5 → (bsplit (decide (r4 > 0)) fun | true => (∀ (h6 : Int), (∀ (l7 : Int), (Nm h6 l7 1 → (∀ (h8 : Int), (∀ (l9 : Int), (∀ (e10 : Int), (AddR (vl h2 l3 + vl h6 l7) h8 l9 e10 → (∀ (n11 : Int), (∀ (e12 : Int), (I64R (vl h8 l9) n11 e12 → (K (.tup [(.int IntKind.i64 (n11)), (.int IntKind.i64 (e12))])))))))))))) | false => (∀ (n13 : Int), (∀ (e14 : Int), (I64R (vl h2 l3) n13 e14 → (K (.tup [(.int IntKind.i64 (n13)), (.int IntKind.i64 (e14))])))))))))))))))) := by kernel_rfl
end W
end Go.Tb
