/- Queues: awake. -/
import Derived.Test.YtcabackgkjhmeaaQH
import Derived.Test.YtcabackgkjhmeaaQI
set_option linter.all false
set_option maxRecDepth 100000
namespace Go.Tb.W
open Go Go.Proofs
theorem bs_t {b : Bool} {K : Bool → Prop} (hb : b = true) (h : K true) : bsplit b K := bsplit_both (fun _ => h) (fun hx => by rw [hb] at hx; cases hx)
theorem bs_f {b : Bool} {K : Bool → Prop} (hb : b = false) (h : K false) : bsplit b K := bsplit_both (fun hx => by rw [hb] at hx; cases hx) (fun _ => h)
abbrev eA : Rw := mkE 5 0 ⟨#[97]⟩ 0
abbrev eB : Rw := mkE 3 0 ⟨#[98]⟩ 1
abbrev eC : Rw := mkE 5 1 ⟨#[99]⟩ 2
abbrev eD : Rw := mkE 3 0 ⟨#[100]⟩ 3
variable {I : Interp O} (hI : I.R = pk.R)
include hI
theorem k_awake : ∀ (args : List AV) (K : AV → Prop), c_awake args K → ∀ hp, ACall I P 9 args hp (fun v hp' => K v ∧ hp' = hp) := by
  intro args K h hp
  unfold c_awake at h; split at h
  · refine pcall mix (gB1 hI) (fn := Try.f9) (by kernel_rfl) (by kernel_rfl) (by kernel_rfl) rfl rfl (fun hr => ?_) hp
    refine (t_awake I (fun v => K v ∧ cl v = true)).mpr ⟨fun _ => ?_, fun x t e => by cases e⟩
    refine ALoop.start [(0, 0), (2, 1)] [1, 3, 23, 24, 25] 2 (j_aw [] 0 0) (by kernel_rfl) (by kernel_rfl) ?_
    refine ALoop.stepg [(0, 0), (1, 1)] [1, 3, 23, 24, 25] 2 ?_
    refine (t_aw0 I _ _ [] 0).mpr ⟨by omega, fun h => absurd h (by decide), fun _ => ?_⟩
    have e1 : insQ [] (mkE 5 0 ⟨#[97]⟩ 0) = [eA] := by kernel_rfl
    rw [e1]
    refine ALoop.stepg (s := j_aw [eA] 1 1) [(0, 0), (1, 1)] [1, 3, 23, 24, 25] 2 ?_
    refine (t_aw1 I _ _ [eA] 1).mpr ⟨by omega, fun h => absurd h (by decide), fun _ => ?_⟩
    have e2 : insQ [eA] (mkE 3 0 ⟨#[98]⟩ 1) = [eB, eA] := by kernel_rfl
    rw [e2]
    refine ALoop.stepg (s := j_aw [eB, eA] 2 2) [(0, 0), (1, 1)] [1, 3, 23, 24, 25] 2 ?_
    refine (t_aw2 I _ _ [eB, eA] 2).mpr ⟨by omega, fun h => absurd h (by decide), fun _ => ?_⟩
    have e3 : insQ [eB, eA] (mkE 5 1 ⟨#[99]⟩ 2) = [eB, eA, eC] := by kernel_rfl
    rw [e3]
    refine ALoop.stepg (s := j_aw [eB, eA, eC] 3 3) [(0, 0), (1, 1)] [1, 3, 23, 24, 25] 2 ?_
    refine (t_aw3 I _ _ [eB, eA, eC] 3).mpr ⟨by omega, fun h => absurd h (by decide), fun _ => ?_⟩
    have e4 : insQ [eB, eA, eC] (mkE 3 0 ⟨#[100]⟩ 3) = [eB, eD, eA, eC] := by kernel_rfl
    rw [e4]
    refine ALoop.stepg (s := j_aw [eB, eD, eA, eC] 4 4) [(0, 0), (1, 1)] [1, 3, 23, 24, 25] 2 ?_
    refine (t_aw4 I _ _ [eB, eD, eA, eC] 4).mpr ⟨fun h => by simp at h, fun x t e hs => ?_⟩
    obtain ⟨rfl, rfl⟩ := List.cons.inj e
    refine ⟨fun h => by simp at h, fun x t e hs2 hs3 => ?_⟩
    obtain ⟨rfl, rfl⟩ := List.cons.inj e
    have l1 : lo 4 [eD, eA, eC] = [eD] := by kernel_rfl
    have l2 : hi 4 [eD, eA, eC] = [eA, eC] := by kernel_rfl
    have l3 : rest 1 [eA, eC] = [eA] := by kernel_rfl
    rw [l1, l2, l3]
    refine ⟨fun _ h => by simp at h, fun _ _ c room => ⟨fun h => by simp at h, fun x t e hs4 => ?_⟩⟩
    obtain ⟨rfl, rfl⟩ := List.cons.inj e
    refine bs_t (by decide) (bs_t (beq_self_eq_true _) (bs_t (by decide) (bs_t (by decide) (must_mk (by decide) (xget_mk rfl (bs_t (beq_self_eq_true _) (bs_t (by decide) (bs_t (beq_self_eq_true _) (fun _ => bs_t (by decide) ⟨h, rfl⟩)))))))))
  · exact h.elim
theorem gB2 : GOk I P (Gm B2) := Gm.consP (gB1 hI) (k_awake hI)
end Go.Tb.W
