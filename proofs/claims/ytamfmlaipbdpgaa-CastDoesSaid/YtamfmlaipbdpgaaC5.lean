/- What the functions' bodies come to: each line is what the abstract machine makes of one function, or of one round of a loop, over the contracts of the functions that it calls (the text was printed by a program of mine; Lean proves it again). -/
import Derived.Test.YtamfmlaipbdpgaaC3
set_option linter.all false
set_option maxRecDepth 100000
set_option maxHeartbeats 0
namespace Go.Tb
open Go Go.Proofs
namespace W
theorem t_awake (I : Interp O) (K : AV → Prop) : abody I P (Gm B1) (adraw P (Gm B1)) 0 Try.f9 [] .leaf 0 (fun v _ _ => K v) =
  ((badC 5 10 1 = true → ((badC 0 10 1 = true → (K (.bool false))) ∧ (badC 0 10 1 = false → (K (.bool false))))) ∧ (badC 5 10 1 = false → ((badC 0 10 1 = true → (okC (askS (foundS (foundS (askS (askS (askS (askS (askS (newC 5 10 1) 0) 9) 10) 30) 70) 3) 3) 1000) → (((askS (foundS (foundS (askS (askS (askS (askS (askS (newC 5 10 1) 0) 9) 10) 30) 70) 3) 3) 1000).ids = [] → (K (.bool false))) ∧ (0 < (askS (foundS (foundS (askS (askS (askS (askS (askS (newC 5 10 1) 0) 9) 10) 30) 70) 3) 3) 1000).ids.length → (∀ (c0 : Nat), (∀ (room1 : Nat), (K (.bool true)))))))) ∧ (badC 0 10 1 = false → (okC (askS (foundS (foundS (askS (askS (askS (askS (askS (newC 5 10 1) 0) 9) 10) 30) 70) 3) 3) 1000) → (((askS (foundS (foundS (askS (askS (askS (askS (askS (newC 5 10 1) 0) 9) 10) 30) 70) 3) 3) 1000).ids = [] → (K (.bool false))) ∧ (0 < (askS (foundS (foundS (askS (askS (askS (askS (askS (newC 5 10 1) 0) 9) 10) 30) 70) 3) 3) 1000).ids.length → (∀ (c2 : Nat), (∀ (room3 : Nat), (K (.bool false))))))))))) := by kernel_rfl
end W
end Go.Tb
