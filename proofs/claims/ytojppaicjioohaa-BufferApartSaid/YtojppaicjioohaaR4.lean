/- Proved here: the statement BufferApart, for all arguments. -/
import Derived.Test.YtojppaicjioohaaRows
import Derived.Test.YtojppaicjioohaaM14
import Derived.Test.YtojppaicjioohaaM15
import Derived.Test.YtojppaicjioohaaM17
import Derived.Test.YtojppaicjioohaaBN4
import Derived.WalkKit
import Derived.ProofKit
import Derived.OpenShut
import Derived.ShutString
import Derived.ChangeOld
import Derived.SizedLaws
namespace Go.Proofs.Ytojppaicjioohaa.bufferApart
open Go.ChangeShapes Go.WideShapes Go.ChangeAt Go.RowKit Go.Tb
set_option linter.unusedVariables false
theorem own : ownKnob Try.prog.godebug = none := by kernel_rfl
theorem laidOut : laidOutB Try.prog = true := by kernel_rfl
set_option maxRecDepth 100000 in
theorem lifted (os : Os) (started : os.Started) (H : Type) (enc : TypeId × Value → H) :
    ReturnsInHanded {} Try.checked os 7 .any (Rows.bufferApartSpec.pre6 enc Try.prog Try.f7 Rows.bufferApartRow.domain false) (Rows.bufferApartSpec.post enc Try.prog Try.f7 false true false false) := by
  refine returnsInHanded_of_change_sized (C := Try.checked) own started (by kernel_rfl) Try.func7
    (ChangeSpec.witness6 (enc := enc) (C := Try.checked) false ⟨#[], #[.slice none 0 0, .slice none 0 0], []⟩ 8 (by kernel_rfl) (by kernel_rfl) (by kernel_rfl) (by kernel_rfl)) ?_
  intro W base args ds gs before hval0 hW hcnd hsz0 _
  have hval : ∀ (j : Nat) t v, Try.f7.params[j]? = some t → args[j]? = some v → Value.okWide Try.prog W .any base t v := hval0
  have hW' := hW
  obtain ⟨p, q, hA0, hV, rfl, hfz, hnd⟩ := hW
  have hA : DataW.TrodAll enc Try.prog W 0 (fun _ => true) true Try.f7.params.toList args.toList ds p := hA0
  rw [Try.params7] at hA hval
  obtain ⟨v0, vs0, d0, ds0, p0, q0, hargs, rfl, rfl, h0, r0⟩ := trodAll_cons hA
  obtain ⟨v1, vs1, d1, ds1, p1, q1, rfl, rfl, rfl, h1, r1⟩ := trodAll_cons r0
  obtain ⟨rfl, rfl, rfl⟩ := trodAll_nil r1
  obtain rfl : args = #[v0, v1] := by cases args; simp_all
  obtain ⟨rfl, rfl⟩ := trodVars_none hV
  have lt0 : ∀ x ∈ p0, x.block < W.heap.size := by obtain ⟨m, hm⟩ := h0; exact DataW.trod_lt m _ _ _ hm
  have lt1 : ∀ x ∈ p1, x.block < W.heap.size := by obtain ⟨m, hm⟩ := h1; exact DataW.trod_lt m _ _ _ hm
  clear hA0 hval0 hsz0
  obtain ⟨⟨b0, z0, ob0, l0, xs0⟩, len0, cap0, qq0, rfl, hxs0, hok0, hden0⟩ := open_slq (open_slice (l := [.s]) (e := 9) Try.underlying36 (by kernel_rfl) (by kernel_rfl) (hval 0 36 v0 rfl rfl) h0)
  obtain ⟨⟨b1, z1, ob1, l1, xs1⟩, len1, cap1, qq1, rfl, hxs1, hok1, hden1⟩ := open_slq (open_slice (l := [.b]) (e := 4) Try.underlying51 (by kernel_rfl) (by kernel_rfl) (hval 1 51 v1 rfl rfl) h1)
  refine (walk_outs (I := Go.Tb.W.IQ) [⟨b0, z0, ob0, _, xs0⟩, ⟨b1, z1, ob1, _, xs1⟩] (fun s hs => by
      simp only [List.mem_cons, List.not_mem_nil, or_false] at hs
      rcases hs with rfl | rfl
      · exact hok0
      · exact hok1) rfl (Go.Tb.W.l_apart (I := Go.Tb.W.IQ.frz W) rfl  len0 cap0 qq0 ob0 xs0 hxs0 len1 cap1 qq1 ob1 xs1 hxs1) (.cons (hden0 0 _ rfl) (.cons (hden1 1 _ rfl) .nil))).mono fun e W' ⟨he, bel⟩ => ?_
  subst he
  exact ⟨_, rfl, _, _, _, [], _, [], hW', trodAll_mk1 (shut_bool Try.underlying4 _), (trodAll_cons_mk (Below.trod laidOut (by kernel_rfl) (of_decide_eq_true (by kernel_rfl)) h0 bel lt0) (trodAll_cons_mk (Below.trod laidOut (by kernel_rfl) (of_decide_eq_true (by kernel_rfl)) h1 bel lt1) trodAll_mk0)), rfl, bel.frame _, fun h => by cases h⟩
theorem over : Rows.bufferApartRow.holds Try.pinned (OpenSpec.ofChange Rows.bufferApartSpec) :=
  OpenClaim.holds_of_wide 7 Try.f7 rfl rfl rfl rfl rfl rfl rfl ⟨rfl, rfl, rfl, rfl, rfl⟩ rfl rfl rfl rfl rfl (by kernel_rfl) Try.func7 (by kernel_rfl)
    (of_decide_eq_true (by kernel_rfl)) (by unfold Func.isWrapper; first | (rw [if_pos (by decide +kernel)]; kernel_rfl) | (rw [if_neg (by decide +kernel)]; exact ⟨rfl, rfl⟩))
    (fun os started H enc _ => lifted os started H enc)
theorem proved : Rows.BufferApartSaid := over
end Go.Proofs.Ytojppaicjioohaa.bufferApart
namespace Go.Proofs.Ytojppaicjioohaa
theorem bufferApart_holds : Rows.BufferApartSaid := bufferApart.proved
end Go.Proofs.Ytojppaicjioohaa

