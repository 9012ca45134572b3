/- The wide numbers' functions do what their contracts say. -/
import Derived.Test.YtkpkhddlijokcaaW2
set_option linter.all false
set_option maxRecDepth 100000
namespace Go.Tb.W
open Go Go.Proofs
theorem mix : P.follows .mixedOrders = true := by kernel_rfl
variable {I : Interp O}
theorem f63 (a : Int) : a.fdiv (2 ^ min (Int.toNat 63) IntKind.i64.bits) = a / 9223372036854775808 := shr_eq (b := 9223372036854775808) a 63 _ (by decide) (by decide)
theorem wd_eq {x h l : Int} (h1 : h = hi x) (h2 : l = lo x) : AV.agg [.int .i64 h, .int .u64 l] = wd x := by subst h1; subst h2; rfl

theorem k_of : ∀ (args : List AV) (K : AV → Prop), c_of args K → ∀ hp, ACall I P 31 args hp (fun v hp' => K v ∧ hp' = hp) := by
  intro args K h hp
  unfold c_of at h; split at h
  · rename_i a
    refine pcall mix Gm.nil (fn := Try.f31) (by kernel_rfl) (by kernel_rfl) (by kernel_rfl) rfl rfl (fun hr => ?_) hp
    refine (t_of I (fun v => K v ∧ cl v = true) a).mpr ⟨?_, rfl⟩
    simp only [rgs, rg, Bool.and_eq_true] at hr
    have ha := r_i64 hr.1
    rw [wd_eq (x := a)]
    · exact h
    · rw [f63]; unfold hi; omega
    · rw [w_u64]; rfl
  · exact h.elim
theorem k_sum : ∀ (args : List AV) (K : AV → Prop), c_sum args K → ∀ hp, ACall I P 47 args hp (fun v hp' => K v ∧ hp' = hp) := by
  intro args K h hp
  unfold c_sum at h; split at h
  · rename_i a b c d
    refine pcall mix Gm.nil (fn := Try.f47) (by kernel_rfl) (by kernel_rfl) (by kernel_rfl) rfl rfl (fun hr => ?_) hp
    refine (t_sum I (fun v => K v ∧ cl v = true) a b c d).mpr ?_
    simp only [rgs, rg, Bool.and_eq_true] at hr
    obtain ⟨⟨ha, hb, _⟩, ⟨hc, hd, _⟩, _⟩ := hr
    have ha := r_i64 ha; have hb := r_u64 hb; have hc := r_i64 hc; have hd := r_u64 hd
    refine bsplit_both (fun hx => ⟨?_, rfl⟩) (fun hx => ⟨?_, rfl⟩)
    · rw [wd_eq (x := vl a b + vl c d)]
      · exact h
      · simp only [w_u64, w_i64, decide_eq_true_eq] at hx ⊢; unfold hi vl; omega
      · rw [w_u64]; unfold lo vl; omega
    · rw [wd_eq (x := vl a b + vl c d)]
      · exact h
      · simp only [w_u64, w_i64, decide_eq_false_iff_not] at hx ⊢; unfold hi vl; omega
      · rw [w_u64]; unfold lo vl; omega
  · exact h.elim
theorem k_size : ∀ (args : List AV) (K : AV → Prop), c_size args K → ∀ hp, ACall I P 73 args hp (fun v hp' => K v ∧ hp' = hp) := by
  intro args K h hp
  unfold c_size at h; split at h
  · rename_i a
    refine pcall mix Gm.nil (fn := Try.f73) (by kernel_rfl) (by kernel_rfl) (by kernel_rfl) rfl rfl (fun hr => ?_) hp
    refine (t_size I (fun v => K v ∧ cl v = true) a).mpr ?_
    simp only [rgs, rg, Bool.and_eq_true] at hr
    have ha := r_i64 hr.1
    refine bsplit_both (fun hx => ⟨?_, rfl⟩) (fun hx => ⟨?_, rfl⟩)
    · have hx' : a < 0 := by simpa using hx
      have : IntKind.u64.wrap (0 - IntKind.u64.wrap a) = absI a := by rw [w_u64, w_u64]; unfold absI; rw [hx]; simp only [ifB]; omega
      rw [this]; exact h
    · have hx' : ¬ a < 0 := by simpa using hx
      have : IntKind.u64.wrap a = absI a := by rw [w_u64]; unfold absI; rw [hx]; simp only [ifB]; omega
      rw [this]; exact h
  · exact h.elim
theorem k_nani : ∀ (args : List AV) (K : AV → Prop), c_nani args K → ∀ hp, ACall I P 60 args hp (fun v hp' => K v ∧ hp' = hp) := by
  intro args K h hp
  unfold c_nani at h; split at h
  · rename_i a
    refine pcall mix Gm.nil (fn := Try.f60) (by kernel_rfl) (by kernel_rfl) (by kernel_rfl) rfl rfl (fun hr => ?_) hp
    refine (t_nani I (fun v => K v ∧ cl v = true) a).mpr ⟨?_, rfl⟩
    rw [show (a != a) = false by simp]; exact h
  · exact h.elim
theorem k_nanu : ∀ (args : List AV) (K : AV → Prop), c_nanu args K → ∀ hp, ACall I P 61 args hp (fun v hp' => K v ∧ hp' = hp) := by
  intro args K h hp
  unfold c_nanu at h; split at h
  · rename_i a
    refine pcall mix Gm.nil (fn := Try.f61) (by kernel_rfl) (by kernel_rfl) (by kernel_rfl) rfl rfl (fun hr => ?_) hp
    refine (t_nanu I (fun v => K v ∧ cl v = true) a).mpr ⟨?_, rfl⟩
    rw [show (a != a) = false by simp]; exact h
  · exact h.elim
theorem k_or : ∀ (args : List AV) (hp : Tr (AO O)) (nx : Nat) (K : AV → Tr (AO O) → Nat → Prop), c_or args hp nx K → ACall I P 48 args hp (fun v hp' => ∃ nx', K v hp' nx') := by
  intro args hp nx K h
  unfold c_or at h; split at h
  · rename_i n
    split at h
    · rename_i a b hb hg
      have hb := blt_iff.1 hb
      have back : ∀ {x : Int}, x = ifB (decide (a = 0)) b a → ∃ news mods, Back hp [n] (Tr.setL [(0, AO.cells 3 [AV.int .i64 a, .int .i64 b] 2)] .leaf) (.int .i64 x) news mods (fun v hp' => ∃ nx', K v hp' nx') := fun {x} hx => by
        refine ⟨[], [], ?_, trivial, rfl, fun j g hj => (by cases hj), ⟨hg, trivial⟩, rfl, rfl, ⟨nx, ?_⟩⟩
        · simp [pairs, uniq, hb, lk, lkr]
        · rw [hx]; exact h
      refine hcall mix Gm.nil (fn := Try.f48) (by kernel_rfl) (by kernel_rfl) (by kernel_rfl) [n] [.cells 3 [.int .i64 a, .int .i64 b] 2] [.sl 0 0 2 2] rfl ?_ rfl ⟨hg, trivial⟩ rfl rfl (fun hr ho => ?_)
      · simp [pairs, uniq, hb, lk, lkr]
      refine (t_or I (fun v lh _ => ∃ news mods, Back hp [n] lh v news mods (fun v hp' => ∃ nx', K v hp' nx')) a b).mpr ?_
      refine ALoop.start [] [2, 3, 6, 7, 8] 1 (j_or a b) (by kernel_rfl) (by kernel_rfl) ?_
      refine ALoop.stepg [] [2, 3, 6, 7, 8] 1 ?_
      refine (t_or0 I _ _ a b).mpr ?_
      refine bsplit_both (fun hx => back ?_) (fun hx => ?_)
      · have : a ≠ 0 := by simpa using hx
        simp [ifB, this]
      have ha : a = 0 := by simpa using hx
      refine ALoop.stepg (s := j_or1 a b) [] [2, 3, 6, 7, 8] 1 ?_
      refine (t_or1 I _ _ a b).mpr ?_
      refine bsplit_both (fun hx => back ?_) (fun hx => ?_)
      · simp [ifB, ha]
      have hb0 : b = 0 := by simpa using hx
      refine ALoop.stepg (s := j_or2 a b) [] [2, 3, 6, 7, 8] 1 ?_
      refine (t_or2 I _ _ a b).mpr ?_
      exact back (by simp [ifB, ha, hb0])
    · exact h.elim
  · exact h.elim
theorem g1 : GOk I P (Gm E1) := by
  refine Gm.consP ?_ k_of
  refine Gm.consP ?_ k_sum
  refine Gm.consP ?_ k_size
  refine Gm.consP ?_ k_nani
  refine Gm.consP ?_ k_nanu
  refine Gm.consH ?_ k_or
  exact Gm.nil
end Go.Tb.W
