/- The wide numbers' functions do what their contracts say. -/
import Derived.Test.YtfdociljddgnhaaW2
set_option linter.all false
set_option maxRecDepth 100000
namespace Go.Tb.W
open Go Go.Proofs
theorem mix : P.follows .mixedOrders = true := by kernel_rfl
variable {I : Interp O}
theorem f63 (a : Int) : a.fdiv (2 ^ min (Int.toNat 63) IntKind.i64.bits) = a / 9223372036854775808 := shr_eq (b := 9223372036854775808) a 63 _ (by decide) (by decide)
theorem wd_eq {x h l : Int} (h1 : h = hi x) (h2 : l = lo x) : AV.agg [.int .i64 h, .int .u64 l] = wd x := by subst h1; subst h2; rfl

theorem k_of : ∀ (args : List AV) (K : AV → Prop), c_of args K → ∀ hp, ACall I P 25 args hp (fun v hp' => K v ∧ hp' = hp) := by
  intro args K h hp
  unfold c_of at h; split at h
  · rename_i a
    refine pcall mix Gm.nil (fn := Try.f25) (by kernel_rfl) (by kernel_rfl) (by kernel_rfl) rfl rfl (fun hr => ?_) hp
    refine (t_of I (fun v => K v ∧ cl v = true) a).mpr ⟨?_, rfl⟩
    simp only [rgs, rg, Bool.and_eq_true] at hr
    have ha := r_i64 hr.1
    rw [wd_eq (x := a)]
    · exact h
    · rw [f63]; unfold hi; omega
    · rw [w_u64]; rfl
  · exact h.elim
theorem k_sum : ∀ (args : List AV) (K : AV → Prop), c_sum args K → ∀ hp, ACall I P 32 args hp (fun v hp' => K v ∧ hp' = hp) := by
  intro args K h hp
  unfold c_sum at h; split at h
  · rename_i a b c d
    refine pcall mix Gm.nil (fn := Try.f32) (by kernel_rfl) (by kernel_rfl) (by kernel_rfl) rfl rfl (fun hr => ?_) hp
    refine (t_sum I (fun v => K v ∧ cl v = true) a b c d).mpr ?_
    simp only [rgs, rg, Bool.and_eq_true] at hr
    obtain ⟨⟨ha, hb, _⟩, ⟨hc, hd, _⟩, _⟩ := hr
    have ha := r_i64 ha; have hb := r_u64 hb; have hc := r_i64 hc; have hd := r_u64 hd
    refine bsplit_both (fun hx => ⟨?_, rfl⟩) (fun hx => ⟨?_, rfl⟩)
    · rw [wd_eq (x := vl a b + vl c d)]
      · exact h
      · simp only [w_u64, w_i64, decide_eq_true_eq] at hx ⊢; unfold hi vl; omega
      · rw [w_u64]; unfold lo vl; omega
    · rw [wd_eq (x := vl a b + vl c d)]
      · exact h
      · simp only [w_u64, w_i64, decide_eq_false_iff_not] at hx ⊢; unfold hi vl; omega
      · rw [w_u64]; unfold lo vl; omega
  · exact h.elim
theorem k_size : ∀ (args : List AV) (K : AV → Prop), c_size args K → ∀ hp, ACall I P 30 args hp (fun v hp' => K v ∧ hp' = hp) := by
  intro args K h hp
  unfold c_size at h; split at h
  · rename_i a
    refine pcall mix Gm.nil (fn := Try.f30) (by kernel_rfl) (by kernel_rfl) (by kernel_rfl) rfl rfl (fun hr => ?_) hp
    refine (t_size I (fun v => K v ∧ cl v = true) a).mpr ?_
    simp only [rgs, rg, Bool.and_eq_true] at hr
    have ha := r_i64 hr.1
    refine bsplit_both (fun hx => ⟨?_, rfl⟩) (fun hx => ⟨?_, rfl⟩)
    · have hx' : a < 0 := by simpa using hx
      have : IntKind.u64.wrap (0 - IntKind.u64.wrap a) = absI a := by rw [w_u64, w_u64]; unfold absI; rw [hx]; simp only [ifB]; omega
      rw [this]; exact h
    · have hx' : ¬ a < 0 := by simpa using hx
      have : IntKind.u64.wrap a = absI a := by rw [w_u64]; unfold absI; rw [hx]; simp only [ifB]; omega
      rw [this]; exact h
  · exact h.elim
theorem g1 : GOk I P (Gm E1) := by
  refine Gm.consP ?_ k_of
  refine Gm.consP ?_ k_sum
  refine Gm.consP ?_ k_size
  exact Gm.nil
end Go.Tb.W
