/- What is fixed of stamps is so; the laws without the document's answer. -/
import Derived.Test.YtkpkhddlijokcaaS3
set_option linter.all false
set_option maxRecDepth 100000
namespace Go.Tb.W
open Go Go.Proofs
variable {I : Interp O}
abbrev Tru : AV → Prop := fun v => v = .bool true ∧ cl v = true
theorem tru {b : Bool} (h : b = true) : Tru (.bool b) := by subst h; exact ⟨rfl, rfl⟩
theorem k_awake : ∀ (args : List AV) (K : AV → Prop), c_awake args K → ∀ hp, ACall I P 11 args hp (fun v hp' => K v ∧ hp' = hp) := by
  intro args K h hp
  unfold c_awake at h; split at h
  · refine pcall mix gs6 (fn := Try.f11) (by kernel_rfl) (by kernel_rfl) (by kernel_rfl) rfl rfl (fun hr => ?_) hp
    refine (t_awake I (fun v => K v ∧ cl v = true)).mpr ?_
    intro h0 l0 e0 m0
    obtain ⟨rfl, rfl, rfl⟩ : h0 = 1 ∧ l0 = 5 ∧ e0 = 0 := by
      obtain ⟨d, hd, hm, m0⟩ := m0
      obtain rfl : d = 5 := by omega
      unfold AddR Nm vl at m0; omega
    intro h1 l1 e1 m1
    obtain ⟨rfl, rfl, rfl⟩ : h1 = 0 ∧ l1 = 9223372036854775808 ∧ e1 = 0 := by
      obtain ⟨d, hd, hm, m1⟩ := m1
      obtain rfl : d = 9223372036854775808 := by omega
      unfold AddR Nm vl at m1; omega
    intro n2 e2 m2
    obtain ⟨rfl, rfl⟩ : n2 = 2 ∧ e2 = 0 := by unfold ShortR at m2; omega
    intro n3 e3 m3
    obtain rfl : e3 = 3 := by unfold ShortR at m3; omega
    intro n4 e4 m4
    obtain ⟨rfl, rfl⟩ : n4 = 4294967296 ∧ e4 = 0 := by unfold I64R at m4; omega
    intro h5 l5 m5 h6 l6 m6 n7 e7 m7
    obtain ⟨rfl, rfl⟩ : n7 = -4 ∧ e7 = 0 := by unfold Nm at m5 m6; unfold I64R at m7; omega
    intro d8 m8
    obtain rfl : d8 = 2 := by unfold DiffR at m8; omega
    refine bsT rfl ?_
    intro d9 m9
    obtain rfl : d9 = 1 := by unfold SumR at m9; omega
    exact ⟨h, rfl⟩
  · exact h.elim
theorem gs7 : GOk I P (Gm S7) := Gm.consP gs6 k_awake
theorem l_adds (a b s : Int) (hp : Tr (AO O)) : ACall I P 5 [.int .u64 a, .int .u64 b, .int .i64 s] hp (fun v hp' => v = .bool true ∧ hp' = hp) := by
  refine pcall mix gs7 (fn := Try.f5) (by kernel_rfl) (by kernel_rfl) (by kernel_rfl) rfl rfl (fun hr => ?_) hp
  simp only [rgs, rg, Bool.and_eq_true] at hr
  have ha := r_u64 hr.1; have hb := r_u64 hr.2.1; have hs := r_i64 hr.2.2.1
  refine (t_adds I Tru a b s).mpr ?_
  intro d0 m0 d1 m1
  unfold SumR at m0; unfold DiffR at m1
  refine bsT (by simp; omega) (fun d2 m2 d3 m3 => ?_)
  unfold DiffR at m2; unfold SumR at m3
  refine bsT (by simp; omega) (fun d4 m4 d5 m5 => ?_)
  unfold DiffR at m4 m5
  refine bsT (by rw [w_i64]; simp; omega) (fun d6 m6 => ?_)
  unfold DiffR at m6
  exact tru (by simp; omega)
theorem l_back (h l o : Int) (hp : Tr (AO O)) : ACall I P 6 [.agg [.int .i64 h, .int .u64 l], .int .i64 o] hp (fun v hp' => v = .bool true ∧ hp' = hp) := by
  refine pcall mix gs7 (fn := Try.f6) (by kernel_rfl) (by kernel_rfl) (by kernel_rfl) rfl rfl (fun hr => ?_) hp
  simp only [rgs, rg, Bool.and_eq_true] at hr
  obtain ⟨⟨hh, hl, _⟩, ho, _⟩ := hr
  have hh := r_i64 hh; have hl := r_u64 hl; have ho := r_i64 ho
  refine (t_back I Tru h l o).mpr (bsplit_both (fun _ => tru rfl) (fun hx => ?_))
  have hx : o ≠ -9223372036854775808 := by simpa using hx
  intro h0 l0 m0 h1 l1 e1 m1
  rw [m0.2.2] at m1
  refine bsplit_both (fun _ => tru rfl) (fun he => ?_)
  have he : e1 = 0 := by simpa using he
  subst he
  have m1 : Nm h1 l1 (vl h l + o) := by rcases m1 with m1 | m1; exact m1.2; omega
  intro h2 l2 e2 m2 n3 e3 m3
  have hv := m1.2.2
  obtain ⟨rfl, rfl, rfl⟩ : h2 = h ∧ l2 = l ∧ e2 = 0 := by
    obtain ⟨d, hd, hm, m2⟩ := m2
    have : d = -o := by unfold Nm at m1; unfold vl at m1 hv; omega
    subst this
    rw [hv, show vl h l + o + -o = vl h l by omega] at m2
    have hs := nm_self hh hl
    have hb := nm_bound hs
    rcases m2 with m2 | m2
    · have := nm_inj m2.2 hs; exact ⟨this.1, this.2, m2.1⟩
    · omega
  rw [hv, show vl h2 l2 + o - vl h2 l2 = o by omega] at m3
  obtain ⟨rfl, rfl⟩ : n3 = o ∧ e3 = 0 := by unfold I64R at m3; omega
  exact bsT rfl (bsT (by simp) (bsT rfl (tru (by simp))))
theorem l_short (s n : Int) (hp : Tr (AO O)) : ACall I P 7 [.int .i64 s, .int .u32 n] hp (fun v hp' => v = .bool true ∧ hp' = hp) := by
  refine pcall mix gs7 (fn := Try.f7) (by kernel_rfl) (by kernel_rfl) (by kernel_rfl) rfl rfl (fun hr => ?_) hp
  simp only [rgs, rg, Bool.and_eq_true] at hr
  have hs := r_i64 hr.1; have hn := r_u32 hr.2.1
  refine (t_shortl I Tru s n).mpr ?_
  intro n0 e0 m0
  obtain ⟨rfl, rfl⟩ : n0 = n ∧ e0 = 0 := by unfold ShortR at m0; omega
  refine bsF (by simp) (bsF rfl (fun n1 e1 m1 => ?_))
  unfold ShortR at m1
  refine bsplit_both (fun he => ?_) (fun he => ?_)
  · have he : e1 ≠ 0 := by simpa using he
    refine bsT (by simp; omega) (bsT (by simp; omega) (bsplit_both (fun _ => tru rfl) (fun hx => tru ?_)))
    have : ¬ s < 0 := by simpa using hx
    simp; omega
  · have he : e1 = 0 := by simpa using he
    refine bsT (by simp; omega) (tru ?_)
    rw [s_i64 (by omega)]; simp; omega
theorem tm_bd (a : Int) (m : Int) (hm : 0 < m) : -m < a.tmod m ∧ a.tmod m < m := by
  have h := Int.natAbs_tmod a m
  have h2 : (a.tmod m).natAbs < m.natAbs := by rw [h]; exact Nat.mod_lt _ (by omega)
  omega
theorem l_micros (n : Int) (hp : Tr (AO O)) : ACall I P 8 [.int .i64 n] hp (fun v hp' => v = .bool true ∧ hp' = hp) := by
  refine pcall mix gs7 (fn := Try.f8) (by kernel_rfl) (by kernel_rfl) (by kernel_rfl) rfl rfl (fun hr => ?_) hp
  refine (t_microsl I Tru n).mpr ?_
  have b := tm_bd n 1125899906842624 (by decide)
  generalize n.tmod 1125899906842624 = n at *
  intro n0 e0 m0 n1 e1 m1
  unfold I64R at m0 m1
  obtain ⟨rfl, h0⟩ : e0 = 0 ∧ n0 = n * 4294967296 / 1000000 := by omega
  obtain ⟨rfl, h1⟩ : e1 = 0 ∧ n1 = n * 1000000 / 4294967296 * 4294967296 / 1000000 := by omega
  refine bsT rfl (bsT rfl (bsT (by simp; omega) (bsT ?_ (tru (by simp; omega)))))
  rw [s_i64 (by omega)]; simp; omega
theorem td_bd {a : Int} (h : -9223372036854775808 ≤ a ∧ a ≤ 9223372036854775807) : -4611686018427387904 ≤ a.tdiv 2 ∧ a.tdiv 2 ≤ 4611686018427387903 := by
  rcases Int.le_total 0 a with h0 | h0
  · rw [Int.tdiv_eq_ediv_of_nonneg h0]; omega
  · have : a = -(-a) := by omega
    rw [this, Int.neg_tdiv, Int.tdiv_eq_ediv_of_nonneg (show 0 ≤ -a by omega)]; omega
/-- A stamp's moment, near a pivot. -/
theorem near_of {h l a h1 l1 h2 l2 e : Int} (hh : -9223372036854775808 ≤ h ∧ h ≤ 9223372036854775807) (hl : 0 ≤ l ∧ l ≤ 18446744073709551615) (ha : -4611686018427387904 ≤ a ∧ a ≤ 4611686018427387904) (m1 : Nm h1 l1 (vl h l + a)) (m2 : NearR l1 h l h2 l2 e) : e = 0 ∧ Nm h2 l2 (vl h l + a) := by
  obtain ⟨d, hd, hm, m2⟩ := m2
  have hb := nm_bound m1
  have : d = a := by unfold Nm vl at m1; omega
  subst this
  rcases m2 with m2 | m2
  · exact m2
  · omega
theorem l_order (h l a b : Int) (hp : Tr (AO O)) : ACall I P 9 [.agg [.int .i64 h, .int .u64 l], .int .i64 a, .int .i64 b] hp (fun v hp' => v = .bool true ∧ hp' = hp) := by
  refine pcall mix gs7 (fn := Try.f9) (by kernel_rfl) (by kernel_rfl) (by kernel_rfl) rfl rfl (fun hr => ?_) hp
  simp only [rgs, rg, Bool.and_eq_true] at hr
  obtain ⟨⟨hh, hl, _⟩, ha, hb, _⟩ := hr
  have hh := r_i64 hh; have hl := r_u64 hl; have ha := td_bd (r_i64 ha); have hb := td_bd (r_i64 hb)
  refine (t_orderl I Tru h l a b).mpr ?_
  generalize a.tdiv 2 = a at *
  generalize b.tdiv 2 = b at *
  rw [s_i64 (n := a) (by omega), s_i64 (n := b) (by omega), s_i64 (n := a - b) (by omega)]
  intro h0 l0 m0 h1 l1 e1 m1 h2 l2 m2 h3 l3 e3 m3
  rw [m0.2.2] at m1; rw [m2.2.2] at m3
  refine bsplit_both (fun _ => tru rfl) (fun he => bsplit_both (fun _ => tru rfl) (fun hf => ?_))
  have he : e1 = 0 := by simpa using he
  have hf : e3 = 0 := by simpa using hf
  have m1 : Nm h1 l1 (vl h l + a) := by rcases m1 with m1 | m1; exact m1.2; omega
  have m3 : Nm h3 l3 (vl h l + b) := by rcases m3 with m3 | m3; exact m3.2; omega
  intro h4 l4 e4 m4 h5 l5 e5 m5
  obtain ⟨rfl, x4⟩ := near_of hh hl (by omega) m1 m4
  obtain ⟨rfl, x5⟩ := near_of hh hl (by omega) m3 m5
  refine bsT rfl (bsT rfl (fun n mn => ?_))
  rw [x4.2.2, x5.2.2] at mn
  refine bsT ?_ (fun d md => tru ?_)
  · unfold CmpR at mn
    by_cases hab : a < b
    · have : n < 0 := by omega
      simp [hab, this]
    · have : ¬ n < 0 := by omega
      simp [hab, this]
  · unfold DiffR at md
    have : d = a - b := by unfold Nm vl at m1 m3; omega
    simp [this]
theorem l_since (h l a b : Int) (hp : Tr (AO O)) : ACall I P 10 [.agg [.int .i64 h, .int .u64 l], .int .i64 a, .int .i64 b] hp (fun v hp' => v = .bool true ∧ hp' = hp) := by
  refine pcall mix gs7 (fn := Try.f10) (by kernel_rfl) (by kernel_rfl) (by kernel_rfl) rfl rfl (fun hr => ?_) hp
  simp only [rgs, rg, Bool.and_eq_true] at hr
  obtain ⟨⟨hh, hl, _⟩, _⟩ := hr
  have hh := r_i64 hh; have hl := r_u64 hl
  refine (t_sincel I Tru h l a b).mpr ?_
  have ba := tm_bd a 2305843009213693952 (by decide)
  have bb := tm_bd b 2305843009213693952 (by decide)
  generalize a.tmod 2305843009213693952 = a at *
  generalize b.tmod 2305843009213693952 = b at *
  rw [s_i64 (n := a + b) (by omega)]
  intro h0 l0 m0 h1 l1 e1 m1 h2 l2 m2 h3 l3 e3 m3
  rw [m0.2.2] at m1; rw [m2.2.2] at m3
  refine bsplit_both (fun _ => tru rfl) (fun he => bsplit_both (fun _ => tru rfl) (fun hf => ?_))
  have he : e1 = 0 := by simpa using he
  have hf : e3 = 0 := by simpa using hf
  have m1 : Nm h1 l1 (vl h l + a) := by rcases m1 with m1 | m1; exact m1.2; omega
  have x1 := m1.2.2
  rw [x1] at m3
  have m3 : Nm h3 l3 (vl h l + a + b) := by rcases m3 with m3 | m3; exact m3.2; omega
  have x3 := m3.2.2
  rw [x1, x3]
  intro n4 e4 m4 n5 e5 m5 n6 e6 m6 n7 e7 m7
  obtain ⟨rfl, rfl⟩ : n4 = a ∧ e4 = 0 := by unfold I64R at m4; omega
  obtain ⟨rfl, rfl⟩ : n5 = b ∧ e5 = 0 := by unfold I64R at m5; omega
  obtain ⟨rfl, rfl⟩ : n6 = n4 + n5 ∧ e6 = 0 := by unfold I64R at m6; omega
  obtain ⟨rfl, rfl⟩ : n7 = -(n4 + n5) ∧ e7 = 0 := by unfold I64R at m7; omega
  rw [s_i64 (n := 0 - (n4 + n5)) (by omega)]
  refine bsT rfl (bsT rfl (bsT rfl (bsT rfl (bsT (by simp) (bsT (by simp) (bsT (by simp) (bsT (by simp) (fun d md => tru ?_))))))))
  unfold DiffR at md
  have : d = n4 + n5 := by unfold Nm vl at m3; omega
  simp [this]
end Go.Tb.W
