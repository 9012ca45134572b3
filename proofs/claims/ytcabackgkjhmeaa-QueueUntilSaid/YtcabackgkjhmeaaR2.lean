/- Proved here: the statement QueueUntil, for all arguments. -/
import Derived.Test.YtcabackgkjhmeaaRows
import Derived.Test.YtcabackgkjhmeaaM14
import Derived.Test.YtcabackgkjhmeaaM15
import Derived.Test.YtcabackgkjhmeaaM17
import Derived.Test.YtcabackgkjhmeaaQN
import Derived.WalkKit
import Derived.ProofKit
import Derived.OpenShut
import Derived.ShutString
import Derived.ChangeOld
import Derived.SizedLaws
namespace Go.Proofs.Ytcabackgkjhmeaa.queueUntil
open Go.ChangeShapes Go.WideShapes Go.ChangeAt Go.RowKit Go.Tb
set_option linter.unusedVariables false
theorem own : ownKnob Try.prog.godebug = none := by kernel_rfl
theorem laidOut : laidOutB Try.prog = true := by kernel_rfl
set_option maxRecDepth 100000 in
theorem lifted (os : Os) (started : os.Started) (H : Type) (enc : TypeId × Value → H) :
    ReturnsInHanded {} Try.checked os 5 .any (Rows.queueUntilSpec.pre6 enc Try.prog Try.f5 Rows.queueUntilRow.domain false) (Rows.queueUntilSpec.post enc Try.prog Try.f5 false true false false) := by
  refine returnsInHanded_of_change_sized (C := Try.checked) own started (by kernel_rfl) Try.func5
    (ChangeSpec.witness6 (enc := enc) (C := Try.checked) false ⟨#[], #[.slice none 0 0, .int .i8 0, .int .i8 0], []⟩ 8 (by kernel_rfl) (by kernel_rfl) (by kernel_rfl) (by kernel_rfl)) ?_
  intro W base args ds gs before hval0 hW hcnd hsz0 _
  have hval : ∀ (j : Nat) t v, Try.f5.params[j]? = some t → args[j]? = some v → Value.okWide Try.prog W .any base t v := hval0
  have hW' := hW
  obtain ⟨p, q, hA0, hV, rfl, hfz, hnd⟩ := hW
  have hA : DataW.TrodAll enc Try.prog W 0 (fun _ => true) true Try.f5.params.toList args.toList ds p := hA0
  rw [Try.params5] at hA hval
  obtain ⟨v0, vs0, d0, ds0, p0, q0, hargs, rfl, rfl, h0, r0⟩ := trodAll_cons hA
  obtain ⟨v1, vs1, d1, ds1, p1, q1, rfl, rfl, rfl, h1, r1⟩ := trodAll_cons r0
  obtain ⟨v2, vs2, d2, ds2, p2, q2, rfl, rfl, rfl, h2, r2⟩ := trodAll_cons r1
  obtain ⟨rfl, rfl, rfl⟩ := trodAll_nil r2
  obtain rfl : args = #[v0, v1, v2] := by cases args; simp_all
  obtain ⟨rfl, rfl⟩ := trodVars_none hV
  have lt0 : ∀ x ∈ p0, x.block < W.heap.size := by obtain ⟨m, hm⟩ := h0; exact DataW.trod_lt m _ _ _ hm
  obtain ⟨a1, rfl, rfl, rfl, w1⟩ := open_int Try.underlying54 (hval 1 54 v1 rfl rfl) h1
  obtain ⟨a2, rfl, rfl, rfl, w2⟩ := open_int Try.underlying54 (hval 2 54 v2 rfl rfl) h2
  clear hA0 hval0 hsz0
  obtain ⟨⟨b0, z0, ob0, l0, xs0⟩, len0, cap0, qq0, rfl, hxs0, hok0, hden0⟩ := open_slq (open_slice (l := [.i .i8]) (e := 54) Try.underlying53 (by kernel_rfl) (by kernel_rfl) (hval 0 53 v0 rfl rfl) h0)
  refine (walk_outs (I := Go.Tb.W.IQ) [⟨b0, z0, ob0, _, xs0⟩] (fun s hs => by
      simp only [List.mem_cons, List.not_mem_nil, or_false] at hs
      rcases hs with rfl
      · exact hok0) rfl (Go.Tb.W.l_until (I := Go.Tb.W.IQ.frz W) rfl a1 a2 len0 cap0 qq0 ob0 xs0 hxs0) (.cons (hden0 0 _ rfl) (.cons (.int _ _ (inK_wf w1)) (.cons (.int _ _ (inK_wf w2)) .nil)))).mono fun e W' ⟨he, bel⟩ => ?_
  subst he
  exact ⟨_, rfl, _, _, _, [], _, [], hW', trodAll_mk1 (shut_bool Try.underlying4 _), (trodAll_cons_mk (Below.trod laidOut (by kernel_rfl) (of_decide_eq_true (by kernel_rfl)) h0 bel lt0) (trodAll_cons_mk (shut_int Try.underlying54 w1) (trodAll_cons_mk (shut_int Try.underlying54 w2) trodAll_mk0))), rfl, bel.frame _, fun h => by cases h⟩
theorem over : Rows.queueUntilRow.holds Try.pinned (OpenSpec.ofChange Rows.queueUntilSpec) :=
  OpenClaim.holds_of_wide 5 Try.f5 rfl rfl rfl rfl rfl rfl rfl ⟨rfl, rfl, rfl, rfl, rfl⟩ rfl rfl rfl rfl rfl (by kernel_rfl) Try.func5 (by kernel_rfl)
    (of_decide_eq_true (by kernel_rfl)) (by unfold Func.isWrapper; first | (rw [if_pos (by decide +kernel)]; kernel_rfl) | (rw [if_neg (by decide +kernel)]; exact ⟨rfl, rfl⟩))
    (fun os started H enc _ => lifted os started H enc)
theorem proved : Rows.QueueUntilSaid := over
end Go.Proofs.Ytcabackgkjhmeaa.queueUntil
namespace Go.Proofs.Ytcabackgkjhmeaa
theorem queueUntil_holds : Rows.QueueUntilSaid := queueUntil.proved
end Go.Proofs.Ytcabackgkjhmeaa

