/- The document's clocks: told. What any clock shows is as the document says. -/
import Derived.Test.YtlgoijjiadcmeaaN11
import Derived.Test.YtlgoijjiadcmeaaD3
import Derived.Test.YtlgoijjiadcmeaaG2
set_option linter.all false
set_option maxRecDepth 100000
namespace Go.Tb.W
open Go Go.Proofs
variable {I : Interp O}
abbrev Tru : AV → Prop := fun v => v = .bool true ∧ cl v = true
theorem tru {b : Bool} (h : b = true) : Tru (.bool b) := by subst h; exact ⟨rfl, rfl⟩
theorem fits_whole {v m e : Int} {b : Bool} (f : FitsR v 63 b) : (b = false → I64R v 0 6) ∧ (b = true → -9223372036854775808 ≤ v ∧ v ≤ 9223372036854775807) := by
  have f := fits63 f
  constructor
  · intro hb; rw [hb] at f; simp only [Bool.false_eq_true, false_iff] at f
    exact .inr ⟨rfl, rfl, by omega⟩
  · exact f.1
theorem mul_bd2 {a b : Int} (ha : -18446744073709551615 ≤ a ∧ a ≤ 18446744073709551615) (hb : -9223372036854775808 ≤ b ∧ b ≤ 9223372036854775807) : -170141183460469231731687303715884105727 ≤ a * b ∧ a * b ≤ 170141183460469231731687303715884105727 := by
  have h1 : (a * b).natAbs ≤ 18446744073709551615 * 9223372036854775808 := by rw [Int.natAbs_mul]; exact Nat.mul_le_mul (by omega) (by omega)
  omega
theorem k_rwhole : ∀ (args : List AV) (hp : Tr (AO O)) (nx : Nat) (K : AV → Tr (AO O) → Nat → Prop), c_rwhole args hp nx K → ACall I P 30 args hp (fun v hp' => ∃ nx', K v hp' nx') := by
  intro args hp nx K h
  unfold c_rwhole at h; split at h
  · rename_i s n l c
    split at h
    · rename_i xs r hb hg
      obtain ⟨⟨p1, L1⟩, h⟩ := h
      refine hrows mix gq3 (fn := Try.f30) (by kernel_rfl) (by kernel_rfl) (by kernel_rfl) [n] [bo xs r] [.agg [.bool s, .sl 0 0 l c]] (nx := nx) rfl (uniq1 hb) rfl ⟨hg, trivial⟩ rfl rfl (fun hr ho => ?_)
      refine (t_rwhole I _ s l c r xs).mpr ⟨⟨p1, L1, by unfold powOk; omega⟩, fun b0 f0 => ?_⟩
      have f := fits_whole (m := 0) (e := 0) f0
      generalize nv s xs l = v at *
      refine bsplit_both (fun hx => ⟨⟨rfl, trivial⟩, .inl ⟨rfl, h _ _ (f.1 (by simpa using hx))⟩⟩) (fun hx => ⟨⟨p1, L1⟩, fun h' l' w => ⟨⟨rfl, trivial⟩, .inl ⟨rfl, h _ _ ?_⟩⟩⟩)
      have f := f.2 (by simpa using hx)
      rw [wide_low w f]
      exact .inl ⟨rfl, rfl, f⟩
    · exact h.elim
  · exact h.elim
theorem k_rshows : ∀ (args : List AV) (hp : Tr (AO O)) (nx : Nat) (K : AV → Tr (AO O) → Nat → Prop), c_rshows args hp nx K → ACall I P 31 args hp (fun v hp' => ∃ nx', K v hp' nx') := by
  intro args hp nx K h
  unfold c_rshows at h; split at h
  · rename_i f s r t
    split at h
    · rename_i hb hg
      refine hrows mix gq3 (fn := Try.f31) (by kernel_rfl) (by kernel_rfl) (by kernel_rfl) [] [] [.agg [.int .i64 f, .int .i64 s, .int .i64 r], .int .i64 t] (nx := nx) rfl rfl rfl trivial rfl rfl (fun hr ho => ?_)
      simp only [rgs, rg, Bool.and_eq_true] at hr
      have hf := r_i64 hr.1.1; have hs := r_i64 hr.1.2.1; have hrr := r_i64 hr.1.2.2.1; have ht := r_i64 hr.2.1
      refine (t_rshows I _ f s r t).mpr ?_
      intro u0 zs1 j2 e3 r4 n1
      obtain ⟨p1, l1⟩ := nr64 n1 ht
      refine ⟨rfl, ?_⟩
      intro u5 zs6 j7 e8 r9 n2
      obtain ⟨p2, l2⟩ := nr64 n2 hf
      refine ⟨p2, ?_⟩
      rw [nv_of n2]
      intro u10 j11 n3
      obtain ⟨p3, l3⟩ := nr128 n3 (by omega)
      refine ⟨⟨p1, p3⟩, ?_⟩
      rw [nv_of n1, nv_of n3]
      intro u12 zs13 j14 e15 r16 n4
      obtain ⟨p4, l4⟩ := nr128 n4 (by omega)
      intro u17 zs18 j19 e20 r21 n5
      obtain ⟨p5, l5⟩ := nr64 n5 hrr
      refine ⟨rfl, ⟨p4, p5, by omega⟩, ?_⟩
      rw [nv_of n4, nv_of n5]
      have hm := mul_bd2 (a := t + -f) (b := r) (by omega) hrr
      intro u22 zs23 j24 e25 r26 n6
      obtain ⟨p6, l6⟩ := nr128 n6 (by omega)
      intro u27 zs28 j29 e30 r31 n7
      obtain ⟨p7, l7⟩ := nr64 n7 (by omega)
      refine ⟨⟨p6, p7, by omega, by omega, by rw [nv_of n7]; decide⟩, ?_⟩
      rw [nv_of n6, nv_of n7]
      have hd := div_bd (x := (t + -f) * r) (y := 1000000000) (by omega) (by decide)
      intro u32 u33 zs34 zs35 j36 e37 r38 j39 e40 r41 n8 n9
      obtain ⟨p8, l8⟩ := nr128 n8 hd
      intro u42 zs43 j44 e45 r46 n10
      obtain ⟨p10, l10⟩ := nr64 n10 hs
      refine ⟨rfl, rfl, ⟨p4, p8⟩, ?_⟩
      rw [nv_of n8]
      intro u47 zs48 j49 e50 r51 n11
      obtain ⟨p11, l11⟩ := nr256 n11 (by omega)
      refine ⟨⟨p10, p11⟩, ?_⟩
      rw [nv_of n10, nv_of n11]
      intro u52 zs53 j54 e55 r56 n12
      refine ⟨trivial, .inr ⟨15, _, _, zs53, r56, hb, hg, Nat.zero_le _, rfl, rfl, h u52 zs53 j54 e55 r56 ?_⟩⟩
      have e : s + (t + -f + (t + -f) * r / 1000000000) = shw f s r t := by unfold shw; rw [show t + -f = t - f by omega]; omega
      rw [← e]; exact n12
    · exact h.elim
  · exact h.elim
theorem gg0 : GOk I P (Gm G0) := by
  refine Gm.consH ?_ k_rwhole
  refine Gm.consH ?_ k_rshows
  exact gq3
/-- What a clock shows is not told far off: how great it may be. -/
theorem shw_bd {f s r t : Int} (hf : -9223372036854775808 ≤ f ∧ f ≤ 9223372036854775807) (hs : -9223372036854775808 ≤ s ∧ s ≤ 9223372036854775807) (hr : -9223372036854775808 ≤ r ∧ r ≤ 9223372036854775807) (ht : -9223372036854775808 ≤ t ∧ t ≤ 9223372036854775807) :
    -340282366920938463463374607431768211456 ≤ shw f s r t ∧ shw f s r t ≤ 340282366920938463463374607431768211456 := by
  have hm := mul_bd2 (a := t - f) (b := r) (by omega) hr
  unfold shw
  generalize (t - f) * r = x at *
  omega
theorem k_rread : ∀ (args : List AV) (K : AV → Prop), c_read args K → ∀ hp, ACall I P 12 args hp (fun v hp' => K v ∧ hp' = hp) := by
  intro args K h hp
  unfold c_read at h; split at h
  · rename_i f s r t
    refine pcall mix gg0 (fn := Try.f12) (by kernel_rfl) (by kernel_rfl) (by kernel_rfl) rfl rfl (fun hr => ?_) hp
    simp only [rgs, rg, Bool.and_eq_true] at hr
    have hf := r_i64 hr.1.1; have hs := r_i64 hr.1.2.1; have hrr := r_i64 hr.1.2.2.1; have ht := r_i64 hr.2.1
    refine (t_rread I (fun v => K v ∧ cl v = true) f s r t).mpr ?_
    refine bsplit_both (fun hx => ⟨h 0 1 (.inl ⟨by simpa using hx, rfl, rfl⟩), rfl⟩) (fun hx => ?_)
    have h0 : f ≤ t := by simpa using hx
    intro u0 zs1 j2 e3 r4 n1
    obtain ⟨p1, l1⟩ := nr64 n1 ht
    refine ⟨rfl, ?_⟩
    intro u5 zs6 j7 e8 r9 n2
    obtain ⟨p2, l2⟩ := nr64 n2 hf
    refine ⟨p2, ?_⟩
    rw [nv_of n2]
    intro u10 j11 n3
    obtain ⟨p3, l3⟩ := nr128 n3 (by omega)
    refine ⟨⟨p1, p3⟩, ?_⟩
    rw [nv_of n1, nv_of n3]
    intro u12 zs13 j14 e15 r16 n4
    obtain ⟨p4, l4⟩ := nr128 n4 (by omega)
    refine ⟨⟨p4, by omega, by unfold powOk; omega⟩, ?_⟩
    rw [nv_of n4]
    intro b17 f17
    have ff := fits63 f17
    refine bsplit_both (fun hx => ⟨h 0 6 (.inr (.inl ⟨h0, ?_, rfl, rfl⟩)), rfl⟩) (fun hx => ?_)
    · have : b17 = false := by simpa using hx
      rw [this] at ff; simp only [Bool.false_eq_true, false_iff] at ff
      omega
    · have : b17 = true := by simpa using hx
      have ff := ff.1 this
      intro u18 zs19 j20 e21 r22 n5
      obtain ⟨p5, l5⟩ := nr256 n5 (shw_bd hf hs hrr ht)
      refine ⟨⟨p5, by omega⟩, ?_⟩
      rw [nv_of n5]
      intro m23 e24 i1
      exact ⟨h _ _ (.inr (.inr ⟨h0, by omega, i1⟩)), rfl⟩
  · exact h.elim
theorem gg1 : GOk I P (Gm G1) := Gm.consP gg0 k_rread
theorem readR_bd {f s r t n e : Int} (m : ReadR f s r t n e) : -9223372036854775808 ≤ n ∧ n ≤ 9223372036854775807 := by
  unfold ReadR I64R at m; omega
theorem readR_err {f s r t n e : Int} (m : ReadR f s r t n e) (h : e ≠ 0) : n = 0 := by
  unfold ReadR I64R at m; omega
theorem k_rturn : ∀ (args : List AV) (K : AV → Prop), c_turn args K → ∀ hp, ACall I P 14 args hp (fun v hp' => K v ∧ hp' = hp) := by
  intro args K h hp
  unfold c_turn at h; split at h
  · rename_i f s r t q
    refine pcall mix gg1 (fn := Try.f14) (by kernel_rfl) (by kernel_rfl) (by kernel_rfl) rfl rfl (fun hr => ?_) hp
    simp only [rgs, rg, Bool.and_eq_true] at hr
    refine (t_rturn I (fun v => K v ∧ cl v = true) f s r t q).mpr ?_
    refine bsplit_both (fun hx => ⟨h _ _ _ _ (.inl ⟨.inl (by simpa using hx), rfl, rfl, rfl, rfl⟩), rfl⟩) (fun hx => ?_)
    have h1 : -100000000 ≤ q := by simpa using hx
    refine bsplit_both (fun hx => ⟨h _ _ _ _ (.inl ⟨.inr (by simpa using hx), rfl, rfl, rfl, rfl⟩), rfl⟩) (fun hx => ?_)
    have h2 : q ≤ 100000000 := by simpa using hx
    intro n e m
    have bd := readR_bd m
    refine bsplit_both (fun hx => ?_) (fun hx => ?_)
    · have he : e ≠ 0 := by simpa using hx
      exact ⟨h _ _ _ _ (.inr ⟨⟨h1, h2⟩, 0, ⟨n, e, m, .inl ⟨he, rfl, rfl⟩⟩, .inl ⟨he, rfl, rfl, rfl⟩⟩), rfl⟩
    · have he : e = 0 := by simpa using hx
      subst he
      exact ⟨h _ _ _ _ (.inr ⟨⟨h1, h2⟩, n, ⟨n, 0, m, .inr ⟨rfl, .inl ⟨rfl, by omega, by omega, by omega⟩⟩⟩, .inr ⟨rfl, rfl, rfl, rfl⟩⟩), rfl⟩
  · exact h.elim
theorem k_rstep : ∀ (args : List AV) (K : AV → Prop), c_step args K → ∀ hp, ACall I P 16 args hp (fun v hp' => K v ∧ hp' = hp) := by
  intro args K h hp
  unfold c_step at h; split at h
  · rename_i f s r t q
    refine pcall mix gg1 (fn := Try.f16) (by kernel_rfl) (by kernel_rfl) (by kernel_rfl) rfl rfl (fun hr => ?_) hp
    simp only [rgs, rg, Bool.and_eq_true] at hr
    have hq := r_i64 hr.2.2.1
    refine (t_rstep I (fun v => K v ∧ cl v = true) f s r t q).mpr ?_
    intro n e m
    have bd := readR_bd m
    refine bsplit_both (fun hx => ?_) (fun hx => ?_)
    · have he : e ≠ 0 := by simpa using hx
      exact ⟨h _ _ _ _ ⟨0, ⟨n, e, m, .inl ⟨he, rfl, rfl⟩⟩, .inl ⟨he, rfl, rfl, rfl⟩⟩, rfl⟩
    · have he : e = 0 := by simpa using hx
      subst he
      intro u2 zs3 j4 e5 r6 n1
      obtain ⟨p1, l1⟩ := nr64 n1 bd
      intro u7 zs8 j9 e10 r11 n2
      obtain ⟨p2, l2⟩ := nr64 n2 hq
      refine ⟨⟨p1, p2⟩, ?_⟩
      rw [nv_of n1, nv_of n2]
      intro u12 zs13 j14 e15 r16 n3
      obtain ⟨p3, l3⟩ := nr128 n3 (by omega)
      refine ⟨⟨p3, by omega⟩, ?_⟩
      rw [nv_of n3]
      intro m17 e18 i1
      refine bsplit_both (fun hx => ?_) (fun hx => ?_)
      · have he : e18 ≠ 0 := by simpa using hx
        have hm : m17 = 0 := by unfold I64R at i1; omega
        subst hm
        exact ⟨h _ _ _ _ ⟨0, ⟨n, 0, m, .inr ⟨rfl, i1⟩⟩, .inl ⟨he, rfl, rfl, rfl⟩⟩, rfl⟩
      · have he : e18 = 0 := by simpa using hx
        subst he
        exact ⟨h _ _ _ _ ⟨m17, ⟨n, 0, m, .inr ⟨rfl, i1⟩⟩, .inr ⟨rfl, rfl, rfl, rfl⟩⟩, rfl⟩
  · exact h.elim
theorem k_rgrown : ∀ (args : List AV) (K : AV → Prop), c_grown args K → ∀ hp, ACall I P 18 args hp (fun v hp' => K v ∧ hp' = hp) := by
  intro args K h hp
  unfold c_grown at h; split at h
  · rename_i s r
    refine pcall mix gg0 (fn := Try.f18) (by kernel_rfl) (by kernel_rfl) (by kernel_rfl) rfl rfl (fun hr => ?_) hp
    simp only [rgs, rg, Bool.and_eq_true] at hr
    have hs := r_i64 hr.1; have hrr := r_i64 hr.2.1
    refine (t_rgrown I (fun v => K v ∧ cl v = true) s r).mpr ?_
    refine bsplit_both (fun hx => ⟨h _ _ (.inl ⟨.inl (by simpa using hx), rfl, rfl⟩), rfl⟩) (fun hx => ?_)
    have h1 : 0 ≤ s := by simpa using hx
    refine bsplit_both (fun hx => ⟨h _ _ (.inl ⟨.inr (by simpa using hx), rfl, rfl⟩), rfl⟩) (fun hx => ?_)
    have h2 : 0 ≤ r := by simpa using hx
    have hm := mul_bd hs hrr
    have h0 : 0 ≤ s * r := Int.mul_nonneg h1 h2
    have h : ∀ n e, I64R (gro s r) n e → K (.tup [.int .i64 n, .int .i64 e]) := fun n e i => h n e (.inr ⟨h1, h2, i⟩)
    unfold gro at h
    intro u0 zs1 j2 e3 r4 n1
    obtain ⟨p1, l1⟩ := nr64 n1 hs
    intro u5 zs6 j7 e8 r9 n2
    obtain ⟨p2, l2⟩ := nr64 n2 hrr
    refine ⟨⟨p1, p2, by omega⟩, ?_⟩
    rw [nv_of n1, nv_of n2]
    generalize s * r = x at *
    intro u10 zs11 j12 e13 r14 n3
    obtain ⟨p3, l3⟩ := nr128 n3 (by omega)
    intro u15 zs16 j17 e18 r19 n4
    obtain ⟨p4, l4⟩ := nr64 n4 (by omega)
    refine ⟨⟨p3, p4, by omega, by omega, by rw [nv_of n4]; decide⟩, ?_⟩
    rw [nv_of n3, nv_of n4]
    intro u20 u21 zs22 zs23 j24 e25 r26 j27 e28 r29 n5 n6
    obtain ⟨p5, l5⟩ := nr128 n5 (by omega)
    have hz := nr_zero n6
    refine bsplit_both (fun hx => ?_) (fun hx => ?_)
    · have hj : j27 ≠ 0 := by have : (j27 : Int) > 0 := by simpa using hx
                              omega
      intro u30 zs31 j32 e33 r34 n7
      obtain ⟨p7, l7⟩ := nr64 n7 (by omega)
      refine ⟨rfl, ⟨p5, p7⟩, ?_⟩
      rw [nv_of n5, nv_of n7]
      intro u35 zs36 j37 e38 r39 n8
      obtain ⟨p8, l8⟩ := nr128 n8 (by omega)
      refine ⟨⟨p8, by omega⟩, ?_⟩
      rw [nv_of n8]
      intro m40 e41 i1
      refine ⟨h _ _ ?_, rfl⟩
      have e : (x + 999999999) / 1000000000 = x / 1000000000 + 1 := by omega
      rw [e]; exact i1
    · have hj : j27 = 0 := by have : ¬ (j27 : Int) > 0 := by simpa using hx
                              omega
      refine ⟨⟨p5, by omega⟩, ?_⟩
      rw [nv_of n5]
      intro m40 e41 i1
      refine ⟨h _ _ ?_, rfl⟩
      have e : (x + 999999999) / 1000000000 = x / 1000000000 := by omega
      rw [e]; exact i1
  · exact h.elim
theorem k_awake : ∀ (args : List AV) (K : AV → Prop), c_awake args K → ∀ hp, ACall I P 10 args hp (fun v hp' => K v ∧ hp' = hp) := by
  intro args K h hp
  unfold c_awake at h; split at h
  · refine pcall mix gf6 (fn := Try.f10) (by kernel_rfl) (by kernel_rfl) (by kernel_rfl) rfl rfl (fun hr => ?_) hp
    refine (t_awake I (fun v => K v ∧ cl v = true)).mpr ?_
    intro f0 s0 q0 e0 m0
    obtain ⟨rfl, rfl, rfl, rfl⟩ : f0 = 0 ∧ s0 = 100 ∧ q0 = 1000000 ∧ e0 = 0 := by unfold NewR at m0; omega
    intro n1 e1 m1
    obtain ⟨rfl, rfl⟩ : n1 = 5105 ∧ e1 = 0 := by simp only [ReadR, I64R, shw] at m1; omega
    intro n2 e2 m2
    obtain ⟨rfl, rfl⟩ : n2 = 0 ∧ e2 = 1 := by simp only [ReadR, I64R, shw] at m2; omega
    intro f3 s3 q3 e3 m3
    obtain rfl : e3 = 3 := by unfold NewR at m3; omega
    intro f4 s4 q4 e4 m4
    obtain ⟨rfl, rfl, rfl, rfl⟩ : f4 = 5000 ∧ s4 = 5105 ∧ q4 = -1000000 ∧ e4 = 0 := by
      rcases m4 with m4 | ⟨_, n, ⟨m, d, a, b⟩, c⟩
      · omega
      · simp only [ReadR, I64R, shw] at a b; omega
    intro n5 e5 m5
    obtain ⟨rfl, rfl⟩ : n5 = 6104 ∧ e5 = 0 := by simp only [ReadR, I64R, shw] at m5; omega
    intro f6 s6 q6 e6 m6
    obtain ⟨rfl, rfl, rfl, rfl⟩ : f6 = 5000 ∧ s6 = 5115 ∧ q6 = 1000000 ∧ e6 = 0 := by
      obtain ⟨n, ⟨m, d, a, b⟩, c⟩ := m6
      simp only [ReadR, I64R, shw] at a b; omega
    intro n7 e7 m7
    obtain ⟨rfl, rfl⟩ : n7 = 1 ∧ e7 = 0 := by simp only [GrownR, I64R, gro] at m7; omega
    intro n8 e8 m8
    obtain ⟨rfl, rfl⟩ : n8 = 0 ∧ e8 = 1 := by simp only [GrownR, I64R, gro] at m8; omega
    exact ⟨h, rfl⟩
  · exact h.elim
theorem gg2 : GOk I P (Gm G2) := by
  refine Gm.consP ?_ k_rread
  refine Gm.consP ?_ k_rturn
  refine Gm.consP ?_ k_rstep
  refine Gm.consP ?_ k_rgrown
  exact Gm.consP gf6 k_awake
theorem i64R_fun {x n e n' e' : Int} (a : I64R x n e) (b : I64R x n' e') : n = n' ∧ e = e' := by unfold I64R at *; omega
theorem readR_fun {f s r t n e n' e' : Int} (a : ReadR f s r t n e) (b : ReadR f s r t n' e') : n = n' ∧ e = e' := by
  unfold ReadR I64R at *; generalize shw f s r t = x at *; omega
theorem shownR_fun {f s r t y n e n' e' : Int} (a : ShownR f s r t y n e) (b : ShownR f s r t y n' e') : n = n' ∧ e = e' := by
  obtain ⟨m, d, a, a'⟩ := a
  obtain ⟨m', d', b, b'⟩ := b
  obtain ⟨rfl, rfl⟩ := readR_fun a b
  unfold I64R at a' b'; omega
theorem stepR_fun {f s r t y q f' s' r' e f'' s'' r'' e' : Int} (a : StepR f s r t y q f' s' r' e) (b : StepR f s r t y q f'' s'' r'' e') : f' = f'' ∧ s' = s'' ∧ r' = r'' ∧ e = e' := by
  obtain ⟨n, a, a'⟩ := a
  obtain ⟨n', b, b'⟩ := b
  have := shownR_fun a b
  omega
theorem turnR_fun {f s r t q f' s' r' e f'' s'' r'' e' : Int} (a : TurnR f s r t q f' s' r' e) (b : TurnR f s r t q f'' s'' r'' e') : f' = f'' ∧ s' = s'' ∧ r' = r'' ∧ e = e' := by
  rcases a with a | ⟨a0, a⟩ <;> rcases b with b | ⟨b0, b⟩
  · omega
  · omega
  · omega
  · exact stepR_fun a b
theorem grownR_fun {s r n e n' e' : Int} (a : GrownR s r n e) (b : GrownR s r n' e') : n = n' ∧ e = e' := by
  unfold GrownR I64R at *; generalize gro s r = x at *; omega
theorem l_tells (f s r t y : Int) (hp : Tr (AO O)) : ACall I P 3 [.agg [.int .i64 f, .int .i64 s, .int .i64 r], .int .i64 t, .int .i64 y] hp (fun v hp' => v = .bool true ∧ hp' = hp) := by
  refine (pcall mix gg2 (fn := Try.f3) (K := Tru) (by kernel_rfl) (by kernel_rfl) (by kernel_rfl) rfl rfl (fun hr => ?_) hp).mono fun _ _ h => ⟨h.1.1, h.2⟩
  refine (t_tells I (fun v => Tru v ∧ cl v = true) f s r t y).mpr ?_
  intro n0 e1 a0 n2 e3 a1 f4 s5 r6 e7 b0 f8 s9 r10 e11 b1 f12 s13 r14 e15 c0 f16 s17 r18 e19 c1 n20 e21 d0 n22 e23 d1
  obtain ⟨rfl, rfl⟩ := readR_fun a0 a1
  obtain ⟨rfl, rfl, rfl, rfl⟩ := turnR_fun b0 b1
  obtain ⟨rfl, rfl, rfl, rfl⟩ := stepR_fun c0 c1
  obtain ⟨rfl, rfl⟩ := grownR_fun d0 d1
  exact bsT (by simp) (bsT (by simp) (bsT (by simp) (bsT (by simp) (bsT (by simp) (bsT (by simp) (bsT (by simp) ⟨tru (by simp), rfl⟩))))))
end Go.Tb.W
