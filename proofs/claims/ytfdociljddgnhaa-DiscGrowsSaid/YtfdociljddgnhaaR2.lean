/- Proved here: the statement DiscGrows, for all arguments. -/
import Derived.Test.YtfdociljddgnhaaRows
import Derived.Test.YtfdociljddgnhaaM17
import Derived.Test.YtfdociljddgnhaaT10
import Derived.WalkKit
import Derived.ProofKit
import Derived.OpenShut
import Derived.ShutString
import Derived.ChangeOld
import Derived.SizedLaws
namespace Go.Proofs.Ytfdociljddgnhaa.discGrows
open Go.ChangeShapes Go.WideShapes Go.ChangeAt Go.RowKit Go.Tb
set_option linter.unusedVariables false
theorem own : ownKnob Try.prog.godebug = none := by kernel_rfl
theorem laidOut : laidOutB Try.prog = true := by kernel_rfl
set_option maxRecDepth 100000 in
theorem lifted (os : Os) (started : os.Started) (H : Type) (enc : TypeId × Value → H) :
    ReturnsInHanded {} Try.checked os 4 .any (Rows.discGrowsSpec.pre6 enc Try.prog Try.f4 Rows.discGrowsRow.domain false) (Rows.discGrowsSpec.post enc Try.prog Try.f4 false true false false) := by
  refine returnsInHanded_of_change_sized (C := Try.checked) own started (by kernel_rfl) Try.func4
    (ChangeSpec.witness6 (enc := enc) (C := Try.checked) false ⟨#[], #[.agg #[.int .i64 0, .int .i64 0, .int .i64 0, .int .i64 0], .agg #[.int .i64 0, .int .i64 0], .agg #[.int .u32 0, .int .u32 0], .agg #[.int .u32 0, .int .u32 0, .int .u32 0]], []⟩ 8 (by kernel_rfl) (by kernel_rfl) (by kernel_rfl) (by kernel_rfl)) ?_
  intro W base args ds gs before hval0 hW hcnd hsz0 _
  have hval : ∀ (j : Nat) t v, Try.f4.params[j]? = some t → args[j]? = some v → Value.okWide Try.prog W .any base t v := hval0
  have hW' := hW
  obtain ⟨p, q, hA0, hV, rfl, hfz, hnd⟩ := hW
  have hA : DataW.TrodAll enc Try.prog W 0 (fun _ => true) true Try.f4.params.toList args.toList ds p := hA0
  rw [Try.params4] at hA hval
  obtain ⟨v0, vs0, d0, ds0, p0, q0, hargs, rfl, rfl, h0, r0⟩ := trodAll_cons hA
  obtain ⟨v1, vs1, d1, ds1, p1, q1, rfl, rfl, rfl, h1, r1⟩ := trodAll_cons r0
  obtain ⟨v2, vs2, d2, ds2, p2, q2, rfl, rfl, rfl, h2, r2⟩ := trodAll_cons r1
  obtain ⟨v3, vs3, d3, ds3, p3, q3, rfl, rfl, rfl, h3, r3⟩ := trodAll_cons r2
  obtain ⟨rfl, rfl, rfl⟩ := trodAll_nil r3
  obtain rfl : args = #[v0, v1, v2, v3] := by cases args; simp_all
  obtain ⟨rfl, rfl⟩ := trodVars_none hV
  obtain ⟨x0, y0⟩ := open_arr (ts := (Try.prog.cellTypes Try.prog.depth 22).getD []) (shs := (shTs Try.prog ((Try.prog.cellTypes Try.prog.depth 22).getD [])).getD []) (L := [.i .i64, .i .i64, .i .i64, .i .i64]) Try.underlying22 (by kernel_rfl) (by kernel_rfl) (by kernel_rfl) (hval 0 22 v0 rfl rfl)
  have lt0 : ∀ x ∈ p0, x.block < W.heap.size := by obtain ⟨m, hm⟩ := h0; exact DataW.trod_lt m _ _ _ hm
  obtain ⟨x1, y1⟩ := open_arr (ts := (Try.prog.cellTypes Try.prog.depth 40).getD []) (shs := (shTs Try.prog ((Try.prog.cellTypes Try.prog.depth 40).getD [])).getD []) (L := [.i .i64, .i .i64]) Try.underlying40 (by kernel_rfl) (by kernel_rfl) (by kernel_rfl) (hval 1 40 v1 rfl rfl)
  have lt1 : ∀ x ∈ p1, x.block < W.heap.size := by obtain ⟨m, hm⟩ := h1; exact DataW.trod_lt m _ _ _ hm
  obtain ⟨x2, y2⟩ := open_arr (ts := (Try.prog.cellTypes Try.prog.depth 42).getD []) (shs := (shTs Try.prog ((Try.prog.cellTypes Try.prog.depth 42).getD [])).getD []) (L := [.i .u32, .i .u32]) Try.underlying42 (by kernel_rfl) (by kernel_rfl) (by kernel_rfl) (hval 2 42 v2 rfl rfl)
  have lt2 : ∀ x ∈ p2, x.block < W.heap.size := by obtain ⟨m, hm⟩ := h2; exact DataW.trod_lt m _ _ _ hm
  obtain ⟨x3, y3⟩ := open_arr (ts := (Try.prog.cellTypes Try.prog.depth 43).getD []) (shs := (shTs Try.prog ((Try.prog.cellTypes Try.prog.depth 43).getD [])).getD []) (L := [.i .u32, .i .u32, .i .u32]) Try.underlying43 (by kernel_rfl) (by kernel_rfl) (by kernel_rfl) (hval 3 43 v3 rfl rfl)
  have lt3 : ∀ x ∈ p3, x.block < W.heap.size := by obtain ⟨m, hm⟩ := h3; exact DataW.trod_lt m _ _ _ hm
  clear hA0 hval0 hsz0
  refine (walk_true (I := noOwn) ((Tb.W.l_grows (x0.i 0) (x0.i 1) (x0.i 2) (x0.i 3) (x1.i 0) (x1.i 1) (x2.i 0) (x2.i 1) (x3.i 0) (x3.i 1) (x3.i 2) .leaf).mono fun _ _ h => h.1) (.cons (y0 _) (.cons (y1 _) (.cons (y2 _) (.cons (y3 _) .nil)))) W).mono fun e W' ⟨he, bel⟩ => ?_
  subst he
  exact ⟨_, rfl, _, _, _, [], _, [], hW', trodAll_mk1 (shut_bool Try.underlying4 _), (trodAll_cons_mk (Below.trod laidOut (by kernel_rfl) (of_decide_eq_true (by kernel_rfl)) h0 bel lt0) (trodAll_cons_mk (Below.trod laidOut (by kernel_rfl) (of_decide_eq_true (by kernel_rfl)) h1 bel lt1) (trodAll_cons_mk (Below.trod laidOut (by kernel_rfl) (of_decide_eq_true (by kernel_rfl)) h2 bel lt2) (trodAll_cons_mk (Below.trod laidOut (by kernel_rfl) (of_decide_eq_true (by kernel_rfl)) h3 bel lt3) trodAll_mk0)))), rfl, bel.frame _, fun h => by cases h⟩
theorem over : Rows.discGrowsRow.holds Try.pinned (OpenSpec.ofChange Rows.discGrowsSpec) :=
  OpenClaim.holds_of_wide 4 Try.f4 rfl rfl rfl rfl rfl rfl rfl ⟨rfl, rfl, rfl, rfl, rfl⟩ rfl rfl rfl rfl rfl (by kernel_rfl) Try.func4 (by kernel_rfl)
    (of_decide_eq_true (by kernel_rfl)) (by unfold Func.isWrapper; first | (rw [if_pos (by decide +kernel)]; kernel_rfl) | (rw [if_neg (by decide +kernel)]; exact ⟨rfl, rfl⟩))
    (fun os started H enc _ => lifted os started H enc)
theorem proved : Rows.DiscGrowsSaid := over
end Go.Proofs.Ytfdociljddgnhaa.discGrows
namespace Go.Proofs.Ytfdociljddgnhaa
theorem discGrows_holds : Rows.DiscGrowsSaid := discGrows.proved
end Go.Proofs.Ytfdociljddgnhaa

