/- Proved here: the statement DiscRestarts, for all arguments. -/
import Derived.Test.YtfdociljddgnhaaRows
import Derived.Test.YtfdociljddgnhaaM14
import Derived.Test.YtfdociljddgnhaaM15
import Derived.Test.YtfdociljddgnhaaM16
import Derived.Test.YtfdociljddgnhaaT11
import Derived.WalkKit
import Derived.ProofKit
import Derived.OpenShut
import Derived.ShutString
import Derived.ChangeOld
import Derived.SizedLaws
namespace Go.Proofs.Ytfdociljddgnhaa.discRestarts
open Go.ChangeShapes Go.WideShapes Go.ChangeAt Go.RowKit Go.Tb
set_option linter.unusedVariables false
theorem own : ownKnob Try.prog.godebug = none := by kernel_rfl
theorem laidOut : laidOutB Try.prog = true := by kernel_rfl
set_option maxRecDepth 100000 in
theorem lifted (os : Os) (started : os.Started) (H : Type) (enc : TypeId × Value → H) :
    ReturnsInHanded {} Try.checked os 5 .any (Rows.discRestartsSpec.pre6 enc Try.prog Try.f5 Rows.discRestartsRow.domain false) (Rows.discRestartsSpec.post enc Try.prog Try.f5 false true false false) := by
  refine returnsInHanded_of_change_sized (C := Try.checked) own started (by kernel_rfl) Try.func5
    (ChangeSpec.witness6 (enc := enc) (C := Try.checked) false ⟨#[], #[.agg #[.int .i64 0, .int .i64 0, .int .i64 0, .int .i64 0], .slice none 0 0, .slice none 0 0], []⟩ 8 (by kernel_rfl) (by kernel_rfl) (by kernel_rfl) (by kernel_rfl)) ?_
  intro W base args ds gs before hval0 hW hcnd hsz0 _
  have hval : ∀ (j : Nat) t v, Try.f5.params[j]? = some t → args[j]? = some v → Value.okWide Try.prog W .any base t v := hval0
  have hW' := hW
  obtain ⟨p, q, hA0, hV, rfl, hfz, hnd⟩ := hW
  have hA : DataW.TrodAll enc Try.prog W 0 (fun _ => true) true Try.f5.params.toList args.toList ds p := hA0
  rw [Try.params5] at hA hval
  obtain ⟨v0, vs0, d0, ds0, p0, q0, hargs, rfl, rfl, h0, r0⟩ := trodAll_cons hA
  obtain ⟨v1, vs1, d1, ds1, p1, q1, rfl, rfl, rfl, h1, r1⟩ := trodAll_cons r0
  obtain ⟨v2, vs2, d2, ds2, p2, q2, rfl, rfl, rfl, h2, r2⟩ := trodAll_cons r1
  obtain ⟨rfl, rfl, rfl⟩ := trodAll_nil r2
  obtain rfl : args = #[v0, v1, v2] := by cases args; simp_all
  obtain ⟨rfl, rfl⟩ := trodVars_none hV
  obtain ⟨x0, y0⟩ := open_arr (ts := (Try.prog.cellTypes Try.prog.depth 22).getD []) (shs := (shTs Try.prog ((Try.prog.cellTypes Try.prog.depth 22).getD [])).getD []) (L := [.i .i64, .i .i64, .i .i64, .i .i64]) Try.underlying22 (by kernel_rfl) (by kernel_rfl) (by kernel_rfl) (hval 0 22 v0 rfl rfl)
  have lt0 : ∀ x ∈ p0, x.block < W.heap.size := by obtain ⟨m, hm⟩ := h0; exact DataW.trod_lt m _ _ _ hm
  have lt1 : ∀ x ∈ p1, x.block < W.heap.size := by obtain ⟨m, hm⟩ := h1; exact DataW.trod_lt m _ _ _ hm
  have lt2 : ∀ x ∈ p2, x.block < W.heap.size := by obtain ⟨m, hm⟩ := h2; exact DataW.trod_lt m _ _ _ hm
  clear hA0 hval0 hsz0
  obtain ⟨⟨b1, z1, ob1, l1, xs1⟩, len1, cap1, qq1, rfl, hxs1, hok1, hden1⟩ := open_slq (open_slice (l := [.i .i64, .i .i64, .i .i64, .i .i64]) (e := 30) Try.underlying23 (by kernel_rfl) (by kernel_rfl) (hval 1 23 v1 rfl rfl) h1)
  obtain ⟨⟨b2, z2, ob2, l2, xs2⟩, len2, cap2, qq2, rfl, hxs2, hok2, hden2⟩ := open_slq (open_slice (l := [.i .i64, .i .i64, .i .i64, .i .i64]) (e := 30) Try.underlying23 (by kernel_rfl) (by kernel_rfl) (hval 2 23 v2 rfl rfl) h2)
  refine (walk_outs (I := noOwn) [⟨b1, z1, ob1, _, xs1⟩, ⟨b2, z2, ob2, _, xs2⟩] (fun s hs => by
      simp only [List.mem_cons, List.not_mem_nil, or_false] at hs
      rcases hs with rfl | rfl
      · exact hok1
      · exact hok2) rfl (Tb.W.l_restarts (x0.i 0) (x0.i 1) (x0.i 2) (x0.i 3) len1 cap1 qq1 ob1 xs1 hxs1 len2 cap2 qq2 ob2 xs2 hxs2) (.cons (y0 _) (.cons (hden1 0 _ rfl) (.cons (hden2 1 _ rfl) .nil)))).mono fun e W' ⟨he, bel⟩ => ?_
  subst he
  exact ⟨_, rfl, _, _, _, [], _, [], hW', trodAll_mk1 (shut_bool Try.underlying4 _), (trodAll_cons_mk (Below.trod laidOut (by kernel_rfl) (of_decide_eq_true (by kernel_rfl)) h0 bel lt0) (trodAll_cons_mk (Below.trod laidOut (by kernel_rfl) (of_decide_eq_true (by kernel_rfl)) h1 bel lt1) (trodAll_cons_mk (Below.trod laidOut (by kernel_rfl) (of_decide_eq_true (by kernel_rfl)) h2 bel lt2) trodAll_mk0))), rfl, bel.frame _, fun h => by cases h⟩
theorem over : Rows.discRestartsRow.holds Try.pinned (OpenSpec.ofChange Rows.discRestartsSpec) :=
  OpenClaim.holds_of_wide 5 Try.f5 rfl rfl rfl rfl rfl rfl rfl ⟨rfl, rfl, rfl, rfl, rfl⟩ rfl rfl rfl rfl rfl (by kernel_rfl) Try.func5 (by kernel_rfl)
    (of_decide_eq_true (by kernel_rfl)) (by unfold Func.isWrapper; first | (rw [if_pos (by decide +kernel)]; kernel_rfl) | (rw [if_neg (by decide +kernel)]; exact ⟨rfl, rfl⟩))
    (fun os started H enc _ => lifted os started H enc)
theorem proved : Rows.DiscRestartsSaid := over
end Go.Proofs.Ytfdociljddgnhaa.discRestarts
namespace Go.Proofs.Ytfdociljddgnhaa
theorem discRestarts_holds : Rows.DiscRestartsSaid := discRestarts.proved
end Go.Proofs.Ytfdociljddgnhaa

