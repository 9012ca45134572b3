/- What is fixed of disciplines is so; two of their laws. -/
import Derived.Test.YtfdociljddgnhaaT4
import Derived.Test.YtfdociljddgnhaaT6
set_option linter.all false
set_option maxRecDepth 100000
namespace Go.Tb.W
open Go Go.Proofs
variable {I : Interp O}
abbrev Tru : AV → Prop := fun v => v = .bool true ∧ cl v = true
theorem tru {b : Bool} (h : b = true) : Tru (.bool b) := by subst h; exact ⟨rfl, rfl⟩
theorem k_awake : ∀ (args : List AV) (K : AV → Prop), c_awake args K → ∀ hp, ACall I P 9 args hp (fun v hp' => K v ∧ hp' = hp) := by
  intro args K h hp
  unfold c_awake at h; split at h
  · refine pcall mix gg2 (fn := Try.f9) (by kernel_rfl) (by kernel_rfl) (by kernel_rfl) rfl rfl (fun hr => ?_) hp
    refine (t_dawake I (fun v => K v ∧ cl v = true)).mpr ⟨fun _ => ⟨fun hm => ?_, fun _ => ?_⟩, fun hm => ?_⟩
    · unfold mayN at hm; omega
    · intro n0 e0 m0
      obtain ⟨rfl, rfl⟩ : n0 = 0 ∧ e0 = 15 := by unfold BoundR at m0; omega
      intro k1 y1 v1 e1 s1 q1 l1 b1 m1
      obtain ⟨rfl, rfl, rfl, rfl, rfl, rfl, rfl, rfl⟩ := take_det (k2 := k1) (w := 1000000) (k := 2) (y := 50) (v := 0) (e := 0) (st' := 1) (q' := 0) (l' := 0) (b' := 3) (.inr ⟨rfl, by omega, by omega, by omega, by omega, .inr ⟨by omega, rfl, rfl, rfl, .inl ⟨by omega, rfl, rfl, rfl, by unfold BndQ; omega⟩⟩⟩) (take_flat (r := 0) rfl m1) (by decide)
      refine must_mk rfl ?_
      intro k2 y2 v2 e2 s2 q2 l2 b2 m2
      obtain ⟨rfl, rfl, rfl, rfl, rfl, rfl, rfl, rfl⟩ := take_det (k := 1) (y := 10) (v := 250000) (e := 0) (st' := 1) (q' := 250000) (l' := 10000) (b' := 35) (.inr ⟨rfl, by omega, by omega, by omega, by omega, .inr ⟨by omega, rfl, rfl, rfl, .inr (.inr ⟨rfl, by omega, by omega, rfl, by unfold SlewR; omega, by unfold FastR; omega, by unfold BndQ; omega⟩)⟩⟩) (take_flat (r := 0) rfl m2) (by decide)
      refine must_mk rfl ?_
      intro n3 e3 m3
      obtain ⟨rfl, rfl⟩ : n3 = 35 ∧ e3 = 0 := by unfold BoundR gro at m3; omega
      refine must_mk rfl ?_
      intro k4 y4 v4 e4 s4 q4 l4 b4 m4
      obtain ⟨rfl, rfl, rfl, rfl, rfl, rfl, rfl, rfl⟩ := take_det (k := 0) (y := 0) (v := 250000) (e := 0) (st' := 1) (q' := 250000) (l' := 20000) (b' := 8) (.inr ⟨rfl, by omega, by omega, by omega, by omega, .inr ⟨by omega, rfl, rfl, rfl, .inr (.inl ⟨rfl, by omega, by omega, rfl, rfl, rfl, by unfold BndQ; omega⟩)⟩⟩) (take_flat (r := 0) rfl m4) (by decide)
      refine must_mk rfl ?_
      intro k5 y5 v5 e5 s5 q5 l5 b5 m5
      obtain ⟨rfl, rfl, rfl, rfl, rfl, rfl, rfl, rfl⟩ := take_det (k := 2) (y := -101) (v := 250000) (e := 0) (st' := 1) (q' := 250000) (l' := 30000) (b' := 5) (.inr ⟨rfl, by omega, by omega, by omega, by omega, .inr ⟨by omega, rfl, rfl, rfl, .inl ⟨by omega, rfl, rfl, rfl, by unfold BndQ; omega⟩⟩⟩) (take_flat (r := 0) rfl m5) (by decide)
      refine must_mk rfl ?_
      intro k6 y6 v6 e6 s6 q6 l6 b6 m6
      obtain ⟨rfl, rfl, rfl, rfl, rfl, rfl, rfl, rfl⟩ := take_det (k := 0) (y := 0) (v := 0) (e := 1) (st' := 1) (q' := 250000) (l' := 30000) (b' := 5) (.inl ⟨by unfold RefQ; omega, rfl, rfl, rfl, rfl, rfl, rfl, rfl⟩) (take_flat (r := 0) rfl m6) (by decide)
      refine must_mk rfl ?_
      intro k7 y7 v7 e7 s7 q7 l7 b7 m7
      obtain ⟨rfl, rfl, rfl, rfl, rfl, rfl, rfl, rfl⟩ := take_det (k := 0) (y := 0) (v := 0) (e := 14) (st' := 1) (q' := 250000) (l' := 30000) (b' := 5) (.inl ⟨by unfold RefQ; omega, rfl, rfl, rfl, rfl, rfl, rfl, rfl⟩) (take_flat (r := 0) rfl m7) (by decide)
      refine must_mk rfl ?_
      intro k8 y8 v8 e8 s8 q8 l8 b8 m8
      obtain ⟨rfl, rfl, rfl, rfl, rfl, rfl, rfl, rfl⟩ := take_det (k := 3) (y := 0) (v := 250000) (e := 0) (st' := 2) (q' := 250000) (l' := 30000) (b' := 5) (.inr ⟨rfl, by omega, by omega, by omega, by omega, .inl ⟨by omega, rfl, rfl, rfl, rfl, rfl, rfl, rfl, rfl⟩⟩) (take_flat (r := 0) rfl m8) (by decide)
      refine must_mk rfl ?_
      intro k9 y9 v9 e9 s9 q9 l9 b9 m9
      obtain ⟨rfl, rfl, rfl, rfl, rfl, rfl, rfl, rfl⟩ := take_det (k := 0) (y := 0) (v := 0) (e := 17) (st' := 2) (q' := 250000) (l' := 30000) (b' := 5) (.inl ⟨by unfold RefQ; omega, rfl, rfl, rfl, rfl, rfl, rfl, rfl⟩) (take_flat (r := 0) rfl m9) (by decide)
      exact ⟨h, rfl⟩
    · exact (hm (by unfold mayN; omega)).elim
  · exact h.elim
theorem gg3 : GOk I P (Gm G3) := Gm.consP gg2 k_awake
/-- From a new discipline: the first offset is stepped. -/
theorem take_first {s p w o now k y v e st q l b : Int} (h : TakeQ s p w 0 0 0 0 o 0 now k y v e st q l b) (ho : -2305843009213693952 ≤ o ∧ o ≤ 2305843009213693952) (hw : 0 ≤ w) : k = 2 ∧ y = o ∧ v = 0 ∧ e = 0 ∧ st = 1 ∧ q = 0 ∧ l = now ∧ b = 0 :=
  take_det (.inr ⟨rfl, .inl rfl, by omega, ho, by omega, .inr ⟨by omega, rfl, rfl, rfl, .inl ⟨.inl rfl, rfl, rfl, rfl, by unfold BndQ; omega⟩⟩⟩) h hw
theorem take_panic {s p w q l b o now k y v e st q' l' b' : Int} (h : TakeQ s p w 1 q l b o 0 now k y v e st q' l' b') (ho : -2305843009213693952 ≤ o ∧ o ≤ 2305843009213693952) (hp : p < (o.natAbs : Int)) (hl : l < now ∧ now - l ≤ 9223372036854775807) (hw : 0 ≤ w) : k = 3 ∧ y = 0 ∧ v = q ∧ e = 0 ∧ st = 2 ∧ q' = q ∧ l' = l ∧ b' = b :=
  take_det (.inr ⟨rfl, .inr rfl, by omega, ho, by omega, .inl ⟨hp, rfl, rfl, rfl, rfl, rfl, rfl, rfl, rfl⟩⟩) h hw
theorem take_dead {s p w q l b o bd now k y v e st q' l' b' : Int} (h : TakeQ s p w 2 q l b o bd now k y v e st q' l' b') (hw : 0 ≤ w) : k = 0 ∧ y = 0 ∧ v = 0 ∧ e = 17 ∧ st = 2 ∧ q' = q ∧ l' = l ∧ b' = b :=
  take_det (.inl ⟨.inl ⟨rfl, rfl⟩, rfl, rfl, rfl, rfl, rfl, rfl, rfl⟩) h hw
theorem l_panics (s p w r m : Int) (below : Bool) (hp : Tr (AO O)) : ACall I P 6 [.agg [.int .i64 s, .int .i64 p, .int .i64 w, .int .i64 r], .int .u32 m, .bool below] hp (fun v hp' => v = .bool true ∧ hp' = hp) := by
  refine pcall mix gg3 (fn := Try.f6) (by kernel_rfl) (by kernel_rfl) (by kernel_rfl) rfl rfl (fun hr => ?_) hp
  simp only [rgs, rg, Bool.and_eq_true] at hr
  obtain ⟨⟨hs, hpp, hw, hq, _⟩, hm, _⟩ := hr
  have hm := r_u32 hm
  refine (t_panics I Tru s p w r m below).mpr ⟨fun hn => ?_, fun _ => tru rfl⟩
  have hi := dInv_new hn
  have hn' := hn
  unfold mayN at hn'
  rw [s_i64 (n := m) (by omega), s_i64 (n := p + 1) (by omega), s_i64 (n := p + 1 + m) (by omega), s_i64 (n := 0 - (p + 1 + m)) (by omega)]
  have main : ∀ o : Int, (-2305843009213693952 ≤ o ∧ o ≤ 2305843009213693952) → p < (o.natAbs : Int) → ∀ k0 y0 v0 e0 s0 q0 l0 b0, TakeR s p w 0 0 0 0 o 0 5 k0 y0 v0 e0 s0 q0 l0 b0 →
      (k0 = 2 ∧ y0 = o ∧ v0 = 0 ∧ e0 = 0 ∧ s0 = 1 ∧ q0 = 0 ∧ l0 = 5 ∧ b0 = 0) := fun o h1 h2 k0 y0 v0 e0 s0 q0 l0 b0 m0 => take_first (take_flat hi m0) h1 (by omega)
  have hi1 : dInv s p w r 1 0 5 0 = true := by rw [dInv_iff] at hi ⊢; omega
  have hi2 : dInv s p w r 2 0 5 0 = true := by rw [dInv_iff] at hi ⊢; omega
  refine bsplit_both (fun hb => ?_) (fun hb => ?_)
  all_goals
    refine must_mk hi (fun k0 y0 v0 e0 s0 q0 l0 b0 m0 => ?_)
    obtain ⟨rfl, rfl, rfl, rfl, rfl, rfl, rfl, rfl⟩ := main _ (by omega) (by omega) _ _ _ _ _ _ _ _ m0
    refine must_mk hi1 (fun k1 y1 v1 e1 s1 q1 l1 b1 m1 => ?_)
    obtain ⟨rfl, rfl, rfl, rfl, rfl, rfl, rfl, rfl⟩ := take_panic (take_flat hi1 m1) (by omega) (by omega) (by omega) (by omega)
    refine must_mk hi2 (fun k2 y2 v2 e2 s2 q2 l2 b2 m2 => ?_)
    obtain ⟨rfl, rfl, rfl, rfl, rfl, rfl, rfl, rfl⟩ := take_dead (take_flat hi2 m2) (by omega)
    refine must_mk hi2 (fun n3 e3 m3 => ?_)
    obtain rfl : e3 = 17 := by unfold BoundR at m3; omega
    refine must_mk hi (fun k4 y4 v4 e4 s4 q4 l4 b4 m4 => ?_)
    obtain ⟨rfl, rfl, rfl, rfl, rfl, rfl, rfl, rfl⟩ := main _ (by omega) (by omega) _ _ _ _ _ _ _ _ m4
    exact bsT rfl (bsT (by simp) (bsT rfl (bsT rfl (bsT rfl (bsT rfl (bsT rfl (bsT (by simp) (tru rfl))))))))
end Go.Tb.W
