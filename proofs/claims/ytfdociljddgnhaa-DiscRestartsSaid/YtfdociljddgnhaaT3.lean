/- The disciplines' functions do what their contracts say. -/
import Derived.Test.YtfdociljddgnhaaD3
import Derived.Test.YtfdociljddgnhaaM16
import Derived.Test.YtfdociljddgnhaaT2
set_option linter.all false
set_option maxRecDepth 100000
namespace Go.Tb.W
open Go Go.Proofs
variable {I : Interp O}
theorem k_within : ∀ (args : List AV) (K : AV → Prop), c_within args K → ∀ hp, ACall I P 17 args hp (fun v hp' => K v ∧ hp' = hp) := by
  intro args K h hp
  unfold c_within at h; split at h
  · rename_i n a b
    refine pcall mix gf6 (fn := Try.f17) (by kernel_rfl) (by kernel_rfl) (by kernel_rfl) rfl rfl (fun hr => ?_) hp
    refine (t_within I (fun v => K v ∧ cl v = true) n a b).mpr ?_
    refine bsplit_both (fun hx => ⟨?_, rfl⟩) (fun hx => ⟨?_, rfl⟩)
    · have : decide (a ≤ n) = true := by simpa using hx
      rw [this] at h; exact h
    · have : decide (a ≤ n) = false := by simpa using hx
      rw [this] at h; exact h
  · exact h.elim
theorem k_dsize : ∀ (args : List AV) (K : AV → Prop), c_dsize args K → ∀ hp, ACall I P 19 args hp (fun v hp' => K v ∧ hp' = hp) := by
  intro args K h hp
  unfold c_dsize at h; split at h
  · rename_i n
    refine pcall mix gf6 (fn := Try.f19) (by kernel_rfl) (by kernel_rfl) (by kernel_rfl) rfl rfl (fun hr => ?_) hp
    simp only [rgs, rg, Bool.and_eq_true] at hr
    have hn := r_i64 hr.1
    refine (t_dsize I (fun v => K v ∧ cl v = true) n).mpr ⟨h _ ?_, rfl⟩
    unfold SizeR
    by_cases hm : n = -9223372036854775808
    · subst hm; exact .inr (.inr ⟨rfl, rfl⟩)
    · rw [s_i64 (n := 0 - n) (by omega)]; split <;> omega
  · exact h.elim
theorem k_state : ∀ (args : List AV) (hp : Tr (AO O)) (nx : Nat) (K : AV → Tr (AO O) → Nat → Prop), c_state args hp nx K → ACall I P 13 args hp (fun v hp' => ∃ nx', K v hp' nx') := by
  intro args hp nx K h
  unfold c_state at h; split at h
  · rename_i n 
    split at h
    · rename_i s p w r st q l b hb hg
      refine hcall1 mix gf6 (fn := Try.f13) (by kernel_rfl) (by kernel_rfl) (by kernel_rfl) rfl hb hg rfl rfl (nx := nx) (fun hr hl => ?_)
      simp only [rgs, rg, Bool.and_eq_true] at hr hl
      obtain ⟨hs, hp', hw, hq0, hst, hq, hl', hb', _⟩ := hl
      have hs := r_i64 hs; have hp' := r_i64 hp'; have hw := r_i64 hw; have hq0 := r_i64 hq0; have hst := r_i64 hst; have hq := r_i64 hq; have hl' := r_i64 hl'; have hb' := r_i64 hb'
      refine (t_state I _ s p w r st q l b ).mpr ?_
      exact ⟨rfl, .inl ⟨rfl, h⟩⟩
    · exact h.elim
  · exact h.elim
theorem k_rate : ∀ (args : List AV) (hp : Tr (AO O)) (nx : Nat) (K : AV → Tr (AO O) → Nat → Prop), c_rate args hp nx K → ACall I P 14 args hp (fun v hp' => ∃ nx', K v hp' nx') := by
  intro args hp nx K h
  unfold c_rate at h; split at h
  · rename_i n 
    split at h
    · rename_i s p w r st q l b hb hg
      refine hcall1 mix gf6 (fn := Try.f14) (by kernel_rfl) (by kernel_rfl) (by kernel_rfl) rfl hb hg rfl rfl (nx := nx) (fun hr hl => ?_)
      simp only [rgs, rg, Bool.and_eq_true] at hr hl
      obtain ⟨hs, hp', hw, hq0, hst, hq, hl', hb', _⟩ := hl
      have hs := r_i64 hs; have hp' := r_i64 hp'; have hw := r_i64 hw; have hq0 := r_i64 hq0; have hst := r_i64 hst; have hq := r_i64 hq; have hl' := r_i64 hl'; have hb' := r_i64 hb'
      refine (t_rate I _ s p w r st q l b ).mpr ?_
      exact ⟨rfl, .inl ⟨rfl, h⟩⟩
    · exact h.elim
  · exact h.elim
theorem k_restart : ∀ (args : List AV) (hp : Tr (AO O)) (nx : Nat) (K : AV → Tr (AO O) → Nat → Prop), c_restart args hp nx K → ACall I P 16 args hp (fun v hp' => ∃ nx', K v hp' nx') := by
  intro args hp nx K h
  unfold c_restart at h; split at h
  · rename_i n 
    split at h
    · rename_i s p w r st q l b hb hg
      refine hcall1 mix gf6 (fn := Try.f16) (by kernel_rfl) (by kernel_rfl) (by kernel_rfl) rfl hb hg rfl rfl (nx := nx) (fun hr hl => ?_)
      simp only [rgs, rg, Bool.and_eq_true] at hr hl
      obtain ⟨hs, hp', hw, hq0, hst, hq, hl', hb', _⟩ := hl
      have hs := r_i64 hs; have hp' := r_i64 hp'; have hw := r_i64 hw; have hq0 := r_i64 hq0; have hst := r_i64 hst; have hq := r_i64 hq; have hl' := r_i64 hl'; have hb' := r_i64 hb'
      refine (t_restart I _ s p w r st q l b ).mpr ?_
      simp only [and_self]
      exact ⟨rfl, .inr ⟨_, rfl, rfl, h⟩⟩
    · exact h.elim
  · exact h.elim
theorem k_dsince : ∀ (args : List AV) (hp : Tr (AO O)) (nx : Nat) (K : AV → Tr (AO O) → Nat → Prop), c_dsince args hp nx K → ACall I P 27 args hp (fun v hp' => ∃ nx', K v hp' nx') := by
  intro args hp nx K h
  unfold c_dsince at h; split at h
  · rename_i n t
    split at h
    · rename_i s p w r st q l b hb hg
      refine hcall1 mix gf6 (fn := Try.f27) (by kernel_rfl) (by kernel_rfl) (by kernel_rfl) rfl hb hg rfl rfl (nx := nx) (fun hr hl => ?_)
      simp only [rgs, rg, Bool.and_eq_true] at hr hl
      obtain ⟨hs, hp', hw, hq0, hst, hq, hl', hb', _⟩ := hl
      have hs := r_i64 hs; have hp' := r_i64 hp'; have hw := r_i64 hw; have hq0 := r_i64 hq0; have hst := r_i64 hst; have hq := r_i64 hq; have hl' := r_i64 hl'; have hb' := r_i64 hb'
      refine (t_dsince I _ s p w r st q l b t).mpr ?_
      have ht := r_i64 hr.1
      refine ⟨?_, ?_⟩
      all_goals
        intro h0 l0 m0 h1 l1 m1 h2 l2 e2 m2 n e m3
        refine ⟨rfl, .inl ⟨rfl, h _ _ ?_⟩⟩
        simp only [Nm, AddR, I64R, true_and] at m0 m1 m2 m3 ⊢
        omega
    · exact h.elim
  · exact h.elim
theorem k_slewed : ∀ (args : List AV) (hp : Tr (AO O)) (nx : Nat) (K : AV → Tr (AO O) → Nat → Prop), c_slewed args hp nx K → ACall I P 20 args hp (fun v hp' => ∃ nx', K v hp' nx') := by
  intro args hp nx K h
  unfold c_slewed at h; split at h
  · rename_i n off span
    split at h
    · rename_i s p w r st q l b hb hg
      refine hcall1 mix gf6 (fn := Try.f20) (by kernel_rfl) (by kernel_rfl) (by kernel_rfl) rfl hb hg rfl rfl (nx := nx) (fun hr hl => ?_)
      simp only [rgs, rg, Bool.and_eq_true] at hr hl
      obtain ⟨hs, hp', hw, hq0, hst, hq, hl', hb', _⟩ := hl
      have hs := r_i64 hs; have hp' := r_i64 hp'; have hw := r_i64 hw; have hq0 := r_i64 hq0; have hst := r_i64 hst; have hq := r_i64 hq; have hl' := r_i64 hl'; have hb' := r_i64 hb'
      refine (t_slewed I _ s p w r st q l b off span).mpr ?_
      obtain ⟨hc, h⟩ := must_spec h
      simp only [Bool.and_eq_true, decide_eq_true_eq] at hc
      have hoff := r_i64 hr.1; have hspan := r_i64 hr.2.1
      intro n e m
      have h1 : 0 * 0 ≤ span * w := Int.mul_le_mul hc.2.2 hc.1 (by omega) hc.2.2
      have h2 : span * w ≤ 9223372036854775807 * 100000000 := Int.mul_le_mul hspan.2 hc.2.1 hc.1 (by omega)
      obtain ⟨rfl, h3⟩ : e = 0 ∧ n = span * w / 1000000000 := by
        unfold PartR I64R at m
        generalize span * w = x at *
        omega
      refine bsF rfl ⟨rfl, .inl ⟨rfl, h _ ?_⟩⟩
      unfold SlewR
      rw [← h3]
      have h4 : 0 ≤ n ∧ n ≤ 922337203685477580 := by
        generalize span * w = x at *
        omega
      rw [s_i64 (n := 0 - n) (by omega)]
      (repeat' split) <;> omega
    · exact h.elim
  · exact h.elim
theorem k_faster : ∀ (args : List AV) (hp : Tr (AO O)) (nx : Nat) (K : AV → Tr (AO O) → Nat → Prop), c_faster args hp nx K → ACall I P 21 args hp (fun v hp' => ∃ nx', K v hp' nx') := by
  intro args hp nx K h
  unfold c_faster at h; split at h
  · rename_i n off span
    split at h
    · rename_i s p w r st q l b hb hg
      refine hcall1 mix gf6 (fn := Try.f21) (by kernel_rfl) (by kernel_rfl) (by kernel_rfl) rfl hb hg rfl rfl (nx := nx) (fun hr hl => ?_)
      simp only [rgs, rg, Bool.and_eq_true] at hr hl
      obtain ⟨hs, hp', hw, hq0, hst, hq, hl', hb', _⟩ := hl
      have hs := r_i64 hs; have hp' := r_i64 hp'; have hw := r_i64 hw; have hq0 := r_i64 hq0; have hst := r_i64 hst; have hq := r_i64 hq; have hl' := r_i64 hl'; have hb' := r_i64 hb'
      refine (t_faster I _ s p w r st q l b off span).mpr ?_
      obtain ⟨hc, h⟩ := must_spec h
      have hc : 1 ≤ span := by simpa using hc
      have hoff := r_i64 hr.1; have hspan := r_i64 hr.2.1
      intro h0 l0 m0 h1 l1 r1 e1 m1 h2 l2 r2 e2 m2 h3 l3 m3 h4 l4 e4 m4 n5 e5 m5
      have q1 : vl h1 l1 = off * 1000000000 / span := by
        rw [m0.2.2] at m1
        unfold DivR at m1
        rcases m1 with m1 | m1
        · omega
        · exact m1.2.1.2.2
      have q2 : vl h2 l2 = off * 1000000000 / span / 16 := by
        rw [q1] at m2
        unfold DivR at m2
        rcases m2 with m2 | m2
        · omega
        · exact m2.2.1.2.2
      have b1 := div_bd (x := off * 1000000000) (by omega) hc
      have b2 := nm_bound m0
      have q3 := m3.2.2
      rw [q2, q3] at m4
      have b3 : -9223372036854775808000000000 ≤ off * 1000000000 / span ∧ off * 1000000000 / span ≤ 9223372036854775808000000000 := by
        constructor
        · rw [Int.le_ediv_iff_mul_le (by omega)]
          have := Int.mul_le_mul_of_nonpos_left (show (-9223372036854775808000000000 : Int) ≤ 0 by decide) hc
          omega
        · rcases Int.le_total 0 (off * 1000000000) with h0 | h0
          · exact Int.le_trans (Int.ediv_le_self span h0) (by omega)
          · have := Int.ediv_le_ediv (show 0 < span by omega) h0; rw [Int.zero_ediv] at this; omega
      obtain ⟨z, hz⟩ : ∃ z, z = off * 1000000000 / span := ⟨_, rfl⟩
      rw [← hz] at m4 b3
      have q4 : Nm h4 l4 (z / 16 + q) := by
        unfold AddR at m4
        rcases m4 with m4 | m4
        · exact m4.2
        · omega
      have q5 := q4.2.2
      rw [q5] at m5
      unfold I64R at m5
      refine bsplit_both (fun hx => ⟨rfl, .inl ⟨rfl, h _ ?_⟩⟩) (fun hx => bsplit_both (fun hy => ⟨rfl, .inl ⟨rfl, h _ ?_⟩⟩) (fun hy => ⟨rfl, .inl ⟨rfl, h _ ?_⟩⟩))
      · have hx : e5 = 0 := by simpa using hx
        unfold FastR
        rw [← hz]
        have : n5 = z / 16 + q := by omega
        rw [← this]
        (repeat' split) <;> omega
      · have hx : e5 ≠ 0 := by simpa using hx
        have hy : h4 < 0 := by simpa using hy
        have := (nm_neg q4).1 hy
        unfold FastR; rw [← hz]; omega
      · have hx : e5 ≠ 0 := by simpa using hx
        have hy : ¬ h4 < 0 := by simpa using hy
        have := mt (nm_neg q4).2 hy
        unfold FastR; rw [← hz]; omega
    · exact h.elim
  · exact h.elim
theorem gg0 : GOk I P (Gm G0) := by
  refine Gm.consP ?_ k_within
  refine Gm.consP ?_ k_dsize
  refine Gm.consH ?_ k_dsince
  refine Gm.consH ?_ k_slewed
  refine Gm.consH ?_ k_faster
  refine Gm.consH ?_ k_state
  refine Gm.consH ?_ k_rate
  refine Gm.consH ?_ k_restart
  exact gf6
theorem k_dnew : ∀ (args : List AV) (hp : Tr (AO O)) (nx : Nat) (K : AV → Tr (AO O) → Nat → Prop), c_dnew args hp nx K → ACall I P 10 args hp (fun v hp' => ∃ nx', K v hp' nx') := by
  intro args hp nx K h
  unfold c_dnew at h; split at h
  · rename_i s p w r
    split at h
    · rename_i hb hg
      refine hcallN mix gg0 (nx := nx) (fn := Try.f10) (by kernel_rfl) (by kernel_rfl) (by kernel_rfl) rfl hb hg rfl (fun v => .tup [v, .int .i64 0]) (fun hr => ?_) (fun ι j => rfl) (fun d j hd => by simp [nm, nms, hd])
      refine (t_dnew I _ s p w r).mpr ?_
      refine bsplit_both (fun hx => .inl ⟨rfl, h.2 ?_⟩) (fun h1 => bsplit_both (fun hx => .inl ⟨rfl, h.2 ?_⟩) (fun h2 => bsplit_both (fun hx => .inl ⟨rfl, h.2 ?_⟩) (fun h3 => bsplit_both (fun hx => .inl ⟨rfl, h.2 ?_⟩) (fun h4 => .inr ⟨0, _, _, _, rfl, rfl, rfl, h.1 ?_⟩))))
      all_goals simp at *
      all_goals unfold mayN
      all_goals omega
    · exact h.elim
  · exact h.elim
theorem k_dmay : ∀ (args : List AV) (hp : Tr (AO O)) (nx : Nat) (K : AV → Tr (AO O) → Nat → Prop), c_dmay args hp nx K → ACall I P 18 args hp (fun v hp' => ∃ nx', K v hp' nx') := by
  intro args hp nx K h
  unfold c_dmay at h; split at h
  · rename_i n off bd t
    split at h
    · rename_i s p w r st q l b hb hg
      refine hcall1 mix gg0 (fn := Try.f18) (by kernel_rfl) (by kernel_rfl) (by kernel_rfl) rfl hb hg rfl rfl (nx := nx) (fun hr hl => ?_)
      simp only [rgs, rg, Bool.and_eq_true] at hr hl
      obtain ⟨hs, hp', hw, hq0, hst, hq, hl', hb', _⟩ := hl
      have hs := r_i64 hs; have hp' := r_i64 hp'; have hw := r_i64 hw; have hq0 := r_i64 hq0; have hst := r_i64 hst; have hq := r_i64 hq; have hl' := r_i64 hl'; have hb' := r_i64 hb'
      refine (t_dmay I _ s p w r st q l b off bd t).mpr ?_
      refine bsplit_both (fun hx => ⟨rfl, .inl ⟨rfl, h _ _ (.inl ⟨by simpa using hx, rfl, rfl⟩)⟩⟩) (fun h1 => ?_)
      have h1 : st ≠ 2 := by simpa using h1
      refine bsplit_both (fun hx => ⟨rfl, .inl ⟨rfl, h _ _ (.inr (.inl ⟨h1, by simpa using hx, rfl, rfl⟩))⟩⟩) (fun h2 => ?_)
      have h2 : 0 ≤ bd := by simpa using h2
      refine bsplit_both (fun hx => ?_) (fun h3 => ?_)
      · have hx : st = 1 := by simpa using hx
        refine bsplit_both (fun hy => ⟨rfl, .inl ⟨rfl, h _ _ (.inr (.inr (.inl ⟨h1, h2, hx, by simpa using hy, rfl, rfl⟩)))⟩⟩) (fun h4 => ?_)
        have h4 : l < t := by simpa using h4
        refine bsplit_both (fun hy => ⟨rfl, .inl ⟨rfl, h _ _ (.inr (.inr (.inr (.inl ⟨h1, h2, fun _ => h4, ?_, rfl, rfl⟩))))⟩⟩) (fun h5 => ?_)
        · simp at hy; omega
        have h5 : -2305843009213693952 ≤ off ∧ off ≤ 2305843009213693952 := by simpa using h5
        refine bsplit_both (fun hy => ?_) (fun h6 => ?_)
        · have hy : st = 0 := by simpa using hy
          omega
        · intro n e m
          exact ⟨rfl, .inl ⟨rfl, h _ _ (.inr (.inr (.inr (.inr (.inr ⟨h1, by omega, h2, fun _ => h4, h5, m⟩)))))⟩⟩
      · have h3 : st ≠ 1 := by simpa using h3
        refine bsplit_both (fun hy => ⟨rfl, .inl ⟨rfl, h _ _ (.inr (.inr (.inr (.inl ⟨h1, h2, fun hx => absurd hx h3, ?_, rfl, rfl⟩))))⟩⟩) (fun h5 => ?_)
        · simp at hy; omega
        have h5 : -2305843009213693952 ≤ off ∧ off ≤ 2305843009213693952 := by simpa using h5
        refine bsplit_both (fun hy => ?_) (fun h6 => ?_)
        · have hy : st = 0 := by simpa using hy
          exact ⟨rfl, .inl ⟨rfl, h _ _ (.inr (.inr (.inr (.inr (.inl ⟨h2, h5, hy, rfl, rfl⟩)))))⟩⟩
        · have h6 : st ≠ 0 := by simpa using h6
          intro n e m
          exact ⟨rfl, .inl ⟨rfl, h _ _ (.inr (.inr (.inr (.inr (.inr ⟨h1, h6, h2, fun hx => absurd hx h3, h5, m⟩)))))⟩⟩
    · exact h.elim
  · exact h.elim
theorem k_bound : ∀ (args : List AV) (hp : Tr (AO O)) (nx : Nat) (K : AV → Tr (AO O) → Nat → Prop), c_bound args hp nx K → ACall I P 15 args hp (fun v hp' => ∃ nx', K v hp' nx') := by
  intro args hp nx K h
  unfold c_bound at h; split at h
  · rename_i n t
    split at h
    · rename_i s p w r st q l b hb hg
      refine hcall1 mix gg0 (fn := Try.f15) (by kernel_rfl) (by kernel_rfl) (by kernel_rfl) rfl hb hg rfl rfl (nx := nx) (fun hr hl => ?_)
      simp only [rgs, rg, Bool.and_eq_true] at hr hl
      obtain ⟨hs, hp', hw, hq0, hst, hq, hl', hb', _⟩ := hl
      have hs := r_i64 hs; have hp' := r_i64 hp'; have hw := r_i64 hw; have hq0 := r_i64 hq0; have hst := r_i64 hst; have hq := r_i64 hq; have hl' := r_i64 hl'; have hb' := r_i64 hb'
      refine (t_bound I _ s p w r st q l b t).mpr ?_
      obtain ⟨hc, h⟩ := must_spec h
      simp only [dInv, Bool.and_eq_true, decide_eq_true_eq] at hc
      have ht := r_i64 hr.1
      refine bsplit_both (fun hx => ⟨rfl, .inl ⟨rfl, h _ _ (.inl ⟨by simpa using hx, rfl, rfl⟩)⟩⟩) (fun h1 => ?_)
      have h1 : st ≠ 0 := by simpa using h1
      refine bsplit_both (fun hx => ⟨rfl, .inl ⟨rfl, h _ _ (.inr (.inl ⟨by simpa using hx, rfl, rfl⟩))⟩⟩) (fun h2 => ?_)
      have h2 : st ≠ 2 := by simpa using h2
      have h3 : st = 1 := by omega
      refine bsplit_both (fun hx => ⟨rfl, .inl ⟨rfl, h _ _ (.inr (.inr (.inl ⟨h3, by simpa using hx, rfl, rfl⟩)))⟩⟩) (fun h4 => ?_)
      have h4 : l ≤ t := by simpa using h4
      intro n e m
      refine bsplit_both (fun hx => ?_) (fun hx => ?_)
      · have hx : e ≠ 0 := by simpa using hx
        unfold I64R at m
        obtain ⟨rfl, h5⟩ : e = 6 ∧ 9223372036854775807 < t - l := by omega
        exact ⟨rfl, .inl ⟨rfl, h _ _ (.inr (.inr (.inr (.inl ⟨h3, h4, h5, rfl, rfl⟩))))⟩⟩
      · have hx : e = 0 := by simpa using hx
        obtain ⟨rfl, h5⟩ : n = t - l ∧ t - l ≤ 9223372036854775807 := by unfold I64R at m; omega
        intro g eg mg h0 l0 m0 h1' l1 m1 h2' l2 e2 m2 k ek mk
        have h6 : 0 * 0 ≤ (t - l) * r := Int.mul_le_mul (by omega) (by omega) (by omega) (by omega)
        have h7 : (t - l) * r ≤ 9223372036854775807 * 100000000 := Int.mul_le_mul h5 (by omega) (by omega) (by omega)
        refine ⟨rfl, .inl ⟨rfl, h _ _ (.inr (.inr (.inr (.inr ⟨h3, h4, h5, ?_, ?_⟩))))⟩⟩
        all_goals
          try unfold gro
          unfold GrownR I64R gro at mg
          unfold I64R AddR Nm at *
          generalize (t - l) * r = x at *
          omega
    · exact h.elim
  · exact h.elim
theorem gg1 : GOk I P (Gm G1) := by
  refine Gm.consH ?_ k_dnew
  refine Gm.consH ?_ k_dmay
  refine Gm.consH ?_ k_bound
  exact gg0
theorem k_take : ∀ (args : List AV) (hp : Tr (AO O)) (nx : Nat) (K : AV → Tr (AO O) → Nat → Prop), c_take args hp nx K → ACall I P 11 args hp (fun v hp' => ∃ nx', K v hp' nx') := by
  intro args hp nx K h
  unfold c_take at h; split at h
  · rename_i n off bd t
    split at h
    · rename_i s p w r st q l b hb hg
      refine hcall1 mix gg1 (fn := Try.f11) (by kernel_rfl) (by kernel_rfl) (by kernel_rfl) rfl hb hg rfl rfl (nx := nx) (fun hr hl => ?_)
      simp only [rgs, rg, Bool.and_eq_true] at hr hl
      obtain ⟨hs, hp', hw, hq0, hst, hq, hl', hb', _⟩ := hl
      have hs := r_i64 hs; have hp' := r_i64 hp'; have hw := r_i64 hw; have hq0 := r_i64 hq0; have hst := r_i64 hst; have hq := r_i64 hq; have hl' := r_i64 hl'; have hb' := r_i64 hb'
      refine (t_take I _ s p w r st q l b off bd t).mpr ?_
      obtain ⟨hc, h⟩ := must_spec h
      simp only [dInv, Bool.and_eq_true, decide_eq_true_eq] at hc
      have hoff := r_i64 hr.1; have hbd := r_i64 hr.2.1; have ht := r_i64 hr.2.2.1
      intro n d m
      refine bsplit_both (fun hx => ⟨rfl, .inr ⟨_, rfl, rfl, h _ _ _ _ _ _ _ _ ⟨n, d, m, .inl ⟨by simpa using hx, rfl, rfl, rfl, rfl, rfl, rfl, rfl, rfl⟩⟩⟩⟩) (fun hx => ?_)
      have hd : d = 0 := by simpa using hx
      subst hd
      have hm : (-2305843009213693952 ≤ off ∧ off ≤ 2305843009213693952) ∧ 0 ≤ bd ∧ st ≠ 2 ∧ (st = 1 → 1 ≤ n) := by unfold MayR I64R at m; omega
      intro far hf
      have hf' : (0 ≤ off ∧ far = off) ∨ (off < 0 ∧ far = -off) := by unfold SizeR at hf; omega
      have hb : 0 ≤ far ∧ far ≤ 2305843009213693952 := by omega
      clear hf
      have fin : ∀ k y v st' q' l' b', _ → TakeR s p w st q l b off bd t k y v 0 st' q' l' b' := fun k y v st' q' l' b' hz => ⟨n, 0, m, .inr ⟨rfl, rfl, far, hf', hz⟩⟩
      have bnd : ∀ left, 0 ≤ left → left ≤ 2305843009213693952 → BndR bd left (if 4611686018427387904 < IntKind.i64.wrap ((if 4611686018427387904 < bd then 4611686018427387904 else bd) + left) then 4611686018427387904 else IntKind.i64.wrap ((if 4611686018427387904 < bd then 4611686018427387904 else bd) + left)) := fun left h1 h2 => by
        refine ⟨(if 4611686018427387904 < bd then 4611686018427387904 else bd), by split <;> omega, ?_⟩
        have : (if 4611686018427387904 < bd then 4611686018427387904 else bd) ≤ 4611686018427387904 ∧ 0 ≤ (if 4611686018427387904 < bd then 4611686018427387904 else bd) := by split <;> omega
        generalize (if 4611686018427387904 < bd then 4611686018427387904 else bd) = c at *
        rw [s_i64 (n := c + left) (by omega)]
        split <;> omega
      refine bsplit_both (fun h1 => bsplit_both (fun h2 => ⟨rfl, .inr ⟨_, rfl, rfl, h _ _ _ _ _ _ _ _ (fin _ _ _ _ _ _ _ (.inl ⟨by simpa using h1, by simpa using h2, rfl, rfl, rfl, rfl, rfl, rfl, rfl⟩))⟩⟩) (fun h2 => ?_)) (fun h1 => ?_)
      all_goals
        have hn : ¬ (p < far ∧ st = 1) := by simp at *; omega
        refine bsplit_both (fun h3 => ⟨rfl, .inr ⟨_, rfl, rfl, h _ _ _ _ _ _ _ _ (fin _ _ _ _ _ _ _ (.inr ⟨hn, rfl, rfl, rfl, .inl ⟨.inl (by simpa using h3), rfl, rfl, rfl, bnd 0 (by omega) (by omega)⟩⟩))⟩⟩) (fun h3 => ?_)
        have h3 : st ≠ 0 := by simpa using h3
        refine bsplit_both (fun h4 => ⟨rfl, .inr ⟨_, rfl, rfl, h _ _ _ _ _ _ _ _ (fin _ _ _ _ _ _ _ (.inr ⟨hn, rfl, rfl, rfl, .inl ⟨.inr (by simpa using h4), rfl, rfl, rfl, bnd 0 (by omega) (by omega)⟩⟩))⟩⟩) (fun h4 => ?_)
        have h4 : far ≤ s := by simpa using h4
        refine bsplit_both (fun h5 => ⟨rfl, .inr ⟨_, rfl, rfl, h _ _ _ _ _ _ _ _ (fin _ _ _ _ _ _ _ (.inr ⟨hn, rfl, rfl, rfl, .inr (.inl ⟨h3, h4, by simpa using h5, rfl, rfl, rfl, bnd far (by omega) (by omega)⟩)⟩))⟩⟩) (fun h5 => ?_)
        have h5 : bd < far := by simpa using h5
        have h6 : 1 ≤ n := hm.2.2.2 (by omega)
        refine must_mk (by simp; omega) (fun y my => must_mk (by simp; omega) (fun v mv z mz => ?_))
        have hy : -far ≤ y ∧ y ≤ far ∧ (0 ≤ y ∧ z = y ∨ y < 0 ∧ z = -y) := by
          unfold SlewR at my; unfold SizeR at mz
          have h1 : 0 * 0 ≤ n * w := Int.mul_le_mul (by omega) (by omega) (by omega) (by omega)
          generalize n * w = x at *
          omega
        clear mz
        rw [s_i64 (n := far - z) (by omega)]
        refine ⟨rfl, .inr ⟨_, rfl, rfl, h _ _ _ _ _ _ _ _ (fin _ _ _ _ _ _ _ (.inr ⟨hn, rfl, rfl, rfl, .inr (.inr ⟨h3, h4, h5, rfl, my, mv, ?_⟩)⟩))⟩⟩
        rcases hy.2.2 with ⟨hz, rfl⟩ | ⟨hz, rfl⟩
        · exact .inl ⟨hz, bnd _ (by omega) (by omega)⟩
        · exact .inr ⟨hz, by have := bnd (far - -y) (by omega) (by omega); rw [show far - -y = far + y by omega] at this ⊢; exact this⟩
    · exact h.elim
  · exact h.elim
theorem gg2 : GOk I P (Gm G2) := by
  refine Gm.consH ?_ k_take
  exact gg1
end Go.Tb.W
