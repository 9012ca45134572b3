/- The stamps' functions do what their contracts say. -/
import Derived.Test.YtkpkhddlijokcaaD3
import Derived.Test.YtkpkhddlijokcaaM16
import Derived.Test.YtkpkhddlijokcaaS2
set_option linter.all false
set_option maxRecDepth 100000
namespace Go.Tb.W
open Go Go.Proofs
variable {I : Interp O}
theorem k_diff : ∀ (args : List AV) (K : AV → Prop), c_diff args K → ∀ hp, ACall I P 19 args hp (fun v hp' => K v ∧ hp' = hp) := by
  intro args K h hp
  unfold c_diff at h; split at h
  · rename_i a b
    refine pcall mix gf6 (fn := Try.f19) (by kernel_rfl) (by kernel_rfl) (by kernel_rfl) rfl rfl (fun hr => ?_) hp
    simp only [rgs, rg, Bool.and_eq_true] at hr
    refine (t_diff I (fun v => K v ∧ cl v = true) a b).mpr ?_
    refine ⟨h _ ?_, rfl⟩
    unfold DiffR; rw [w_i64, w_u64]; omega
  · exact h.elim
theorem k_sadd : ∀ (args : List AV) (K : AV → Prop), c_sadd args K → ∀ hp, ACall I P 21 args hp (fun v hp' => K v ∧ hp' = hp) := by
  intro args K h hp
  unfold c_sadd at h; split at h
  · rename_i a b
    refine pcall mix gf6 (fn := Try.f21) (by kernel_rfl) (by kernel_rfl) (by kernel_rfl) rfl rfl (fun hr => ?_) hp
    simp only [rgs, rg, Bool.and_eq_true] at hr
    refine (t_sadd I (fun v => K v ∧ cl v = true) a b).mpr ?_
    refine ⟨h _ ?_, rfl⟩
    unfold SumR; rw [w_u64, w_u64]; omega
  · exact h.elim
theorem k_fold : ∀ (args : List AV) (K : AV → Prop), c_fold args K → ∀ hp, ACall I P 22 args hp (fun v hp' => K v ∧ hp' = hp) := by
  intro args K h hp
  unfold c_fold at h; split at h
  · rename_i a b
    refine pcall mix gf6 (fn := Try.f22) (by kernel_rfl) (by kernel_rfl) (by kernel_rfl) rfl rfl (fun hr => ?_) hp
    simp only [rgs, rg, Bool.and_eq_true] at hr
    refine (t_fold I (fun v => K v ∧ cl v = true) a b).mpr ?_
    exact ⟨h, rfl⟩
  · exact h.elim
theorem k_far : ∀ (args : List AV) (K : AV → Prop), c_far args K → ∀ hp, ACall I P 54 args hp (fun v hp' => K v ∧ hp' = hp) := by
  intro args K h hp
  unfold c_far at h; split at h
  · rename_i a b c d
    refine pcall mix gf6 (fn := Try.f54) (by kernel_rfl) (by kernel_rfl) (by kernel_rfl) rfl rfl (fun hr => ?_) hp
    simp only [rgs, rg, Bool.and_eq_true] at hr
    refine (t_far I (fun v => K v ∧ cl v = true) a b c d).mpr ?_
    intro n m
    refine bsplit_both (fun hx h l e m2 => ⟨?_, rfl⟩) (fun hx h l e m2 => ⟨?_, rfl⟩)
    · rename_i h'
      refine h' _ _ _ (.inl ⟨?_, m2⟩)
      have hx : n < 0 := by simpa using hx
      unfold CmpR at m; omega
    · rename_i h'
      refine h' _ _ _ (.inr ⟨?_, m2⟩)
      have hx : ¬ n < 0 := by simpa using hx
      unfold CmpR at m; omega
  · exact h.elim
theorem k_short : ∀ (args : List AV) (K : AV → Prop), c_short args K → ∀ hp, ACall I P 24 args hp (fun v hp' => K v ∧ hp' = hp) := by
  intro args K h hp
  unfold c_short at h; split at h
  · rename_i s
    refine pcall mix gf6 (fn := Try.f24) (by kernel_rfl) (by kernel_rfl) (by kernel_rfl) rfl rfl (fun hr => ?_) hp
    simp only [rgs, rg, Bool.and_eq_true] at hr
    refine (t_short I (fun v => K v ∧ cl v = true) s).mpr ?_
    have hs := r_i64 hr.1
    refine bsplit_both (fun hx => ⟨h _ _ (.inl ⟨.inl (by simpa using hx), rfl, rfl⟩), rfl⟩) (fun hx => ?_)
    have hx : 0 ≤ s := by simpa using hx
    rw [Int.tdiv_eq_ediv_of_nonneg hx, Int.tmod_eq_emod_of_nonneg hx, s_i64 (n := s / 65536) (by omega)]
    have e : s / 65536 + (if 1 < s % 65536 then 1 else s % 65536) = (s + 65535) / 65536 := by split <;> omega
    rw [e, s_i64 (n := (s + 65535) / 65536) (by omega)]
    refine bsplit_both (fun hy => ⟨h _ _ (.inl ⟨.inr ?_, rfl, rfl⟩), rfl⟩) (fun hy => ⟨h _ _ (.inr ⟨hx, ?_, ?_, rfl⟩), rfl⟩)
    · have hy : (s + 65535) / 65536 ≥ 4294967296 := by simpa using hy
      omega
    · have hy : (s + 65535) / 65536 < 4294967296 := by simpa using hy
      omega
    · have hy : (s + 65535) / 65536 < 4294967296 := by simpa using hy
      rw [w_u32]; omega
  · exact h.elim
theorem k_long : ∀ (args : List AV) (K : AV → Prop), c_long args K → ∀ hp, ACall I P 28 args hp (fun v hp' => K v ∧ hp' = hp) := by
  intro args K h hp
  unfold c_long at h; split at h
  · rename_i n
    refine pcall mix gf6 (fn := Try.f28) (by kernel_rfl) (by kernel_rfl) (by kernel_rfl) rfl rfl (fun hr => ?_) hp
    simp only [rgs, rg, Bool.and_eq_true] at hr
    refine (t_long I (fun v => K v ∧ cl v = true) n).mpr ?_
    have hn := r_u32 hr.1
    rw [s_i64 (n := n) (by omega), s_i64 (n := n * 65536) (by omega)]
    exact ⟨h, rfl⟩
  · exact h.elim
theorem k_micros : ∀ (args : List AV) (K : AV → Prop), c_micros args K → ∀ hp, ACall I P 29 args hp (fun v hp' => K v ∧ hp' = hp) := by
  intro args K h hp
  unfold c_micros at h; split at h
  · rename_i s
    refine pcall mix gf6 (fn := Try.f29) (by kernel_rfl) (by kernel_rfl) (by kernel_rfl) rfl rfl (fun hr => ?_) hp
    simp only [rgs, rg, Bool.and_eq_true] at hr
    refine (t_micros I (fun v => K v ∧ cl v = true) s).mpr ?_
    have hs := r_i64 hr.1
    intro n e m
    have : n = s * 1000000 / 4294967296 := by unfold PartR I64R at m; omega
    rw [this]; exact ⟨h, rfl⟩
  · exact h.elim
theorem k_ticks : ∀ (args : List AV) (K : AV → Prop), c_ticks args K → ∀ hp, ACall I P 27 args hp (fun v hp' => K v ∧ hp' = hp) := by
  intro args K h hp
  unfold c_ticks at h; split at h
  · rename_i s
    refine pcall mix gf6 (fn := Try.f27) (by kernel_rfl) (by kernel_rfl) (by kernel_rfl) rfl rfl (fun hr => ?_) hp
    simp only [rgs, rg, Bool.and_eq_true] at hr
    refine (t_ticks I (fun v => K v ∧ cl v = true) s).mpr ?_
    intro n e m
    refine ⟨h _ _ ?_, rfl⟩
    unfold PartR at m
    rcases m with m | m
    · omega
    · exact m.2
  · exact h.elim
theorem gs0 : GOk I P (Gm S0) := by
  refine Gm.consP ?_ k_diff
  refine Gm.consP ?_ k_sadd
  refine Gm.consP ?_ k_fold
  refine Gm.consP ?_ k_far
  refine Gm.consP ?_ k_short
  refine Gm.consP ?_ k_long
  refine Gm.consP ?_ k_micros
  refine Gm.consP ?_ k_ticks
  exact gf6
theorem far_ok {x y h l e : Int} (m : FarR x y h l e) (he : e = 0) : Nm h l ((x - y).natAbs : Int) := by
  unfold FarR AddR at m
  rcases m with ⟨h1, m⟩ | ⟨h1, m⟩
  · have : ((x - y).natAbs : Int) = y - x := by omega
    rw [this]; rcases m with m | m; exact m.2; omega
  · have : ((x - y).natAbs : Int) = x - y := by omega
    rw [this]; rcases m with m | m; exact m.2; omega
theorem far_no {x y h l e : Int} (m : FarR x y h l e) (he : e ≠ 0) : x - y < -170141183460469231731687303715884105727 ∨ 170141183460469231731687303715884105727 < x - y := by
  unfold FarR AddR at m; omega
theorem k_nearer : ∀ (args : List AV) (K : AV → Prop), c_nearer args K → ∀ hp, ACall I P 35 args hp (fun v hp' => K v ∧ hp' = hp) := by
  intro args K h hp
  unfold c_nearer at h; split at h
  · rename_i p q a b c d
    refine pcall mix gs0 (fn := Try.f35) (by kernel_rfl) (by kernel_rfl) (by kernel_rfl) rfl rfl (fun hr => ?_) hp
    simp only [rgs, rg, Bool.and_eq_true] at hr
    refine (t_nearer I (fun v => K v ∧ cl v = true) p q a b c d).mpr ?_
    intro h0 l0 e0 m0 h1 l1 e1 m1
    refine bsplit_both (fun hx => ⟨h _ (.inl ⟨?_, rfl⟩), rfl⟩) (fun hx => ?_)
    · have := far_no m0 (by simpa using hx); omega
    have x0 := far_ok m0 (by simpa using hx)
    refine bsplit_both (fun hx => ⟨h _ (.inl ⟨?_, rfl⟩), rfl⟩) (fun hx => ?_)
    · have := far_no m1 (by simpa using hx); omega
    have x1 := far_ok m1 (by simpa using hx)
    have key := nm_iff x0 x1
    refine bsplit_both (fun hx n m => ⟨h _ (.inr (.inl ⟨?_, m⟩)), rfl⟩) (fun hx n m => ⟨h _ (.inr (.inr ⟨?_, ?_⟩)), rfl⟩)
    · exact key.1 (by simpa using hx)
    · exact fun he => by have := key.2 he; simp [this] at hx
    · rw [x0.2.2, x1.2.2] at m; exact m
  · exact h.elim
theorem gs1 : GOk I P (Gm S1) := Gm.consP gs0 k_nearer
theorem k_blen64 : ∀ (args : List AV) (K : AV → Prop), c_blen args K → ∀ hp, ACall I P 71 args hp (fun v hp' => K v ∧ hp' = hp) := by
  intro args K h hp
  unfold c_blen at h; split at h
  · refine pcall mix gf6 (fn := Try.f71) (by kernel_rfl) (by kernel_rfl) (by kernel_rfl) rfl rfl (fun hr => ?_) hp
    exact (t_blen64 I (fun v => K v ∧ cl v = true) 0).mpr ⟨h, rfl⟩
  · exact h.elim
theorem gs2 : GOk I P (Gm S2) := Gm.consP gs1 k_blen64
theorem k_blen : ∀ (args : List AV) (K : AV → Prop), c_blen args K → ∀ hp, ACall I P 53 args hp (fun v hp' => K v ∧ hp' = hp) := by
  intro args K h hp
  unfold c_blen at h; split at h
  · refine pcall mix gs2 (fn := Try.f53) (by kernel_rfl) (by kernel_rfl) (by kernel_rfl) rfl rfl (fun hr => ?_) hp
    exact (t_blen I (fun v => K v ∧ cl v = true) 0).mpr ⟨h, rfl⟩
  · exact h.elim
theorem k_isort : ∀ (args : List AV) (hp : Tr (AO O)) (nx : Nat) (K : AV → Tr (AO O) → Nat → Prop), c_isort args hp nx K → ACall I P 62 args hp (fun v hp' => ∃ nx', K v hp' nx') := by
  intro args hp nx K h
  unfold c_isort at h; split at h
  · rename_i n p q
    split at h
    · rename_i a b c d hb hg
      refine hcall1g mix gs1 (fn := Try.f62) (by kernel_rfl) (by kernel_rfl) (by kernel_rfl) (fun n => .sl n 0 2 2) (fun ι => rfl) (fun d hd => by simp [nm, hd]) rfl hb hg rfl rfl (nx := nx) (fun hr hl => ?_)
      refine (t_isort I _ p q a b c d).mpr ?_
      refine ALoop.start [] [0, 1, 2, 3, 8] 1 (j_is p q a b c d 1) (by kernel_rfl) (by kernel_rfl) ?_
      refine ALoop.stepg [] [0, 1, 2, 3, 8] 1 ?_
      refine (t_isA I _ _ p q a b c d).mpr ?_
      refine ALoop.start [] [0, 1, 2, 3, 8, 9] 1 (j_in p q a b c d 1) (by kernel_rfl) (by kernel_rfl) ?_
      refine ALoop.stepg [] [0, 1, 2, 3, 8, 9] 1 ?_
      refine (t_isIn1 I _ _ _ p q a b c d).mpr ?_
      intro r m
      refine bsplit_both (fun hx => ?_) (fun hx => ?_)
      · have hx : r < 0 := by simpa using hx
        refine ALoop.stepg (s := j_in p q c d a b 0) [] [0, 1, 2, 3, 8, 9] 1 ?_
        refine (t_isIn0 I _ _ _ p q c d a b).mpr ?_
        refine ALoop.stepg (s := j_is p q c d a b 2) [] [0, 1, 2, 3, 8] 1 ?_
        exact (t_isC I _ _ p q c d a b).mpr ⟨rfl, .inr ⟨_, rfl, rfl, (h r m).1 hx⟩⟩
      · have hx : 0 ≤ r := by simpa using hx
        refine ALoop.stepg (s := j_is p q a b c d 2) [] [0, 1, 2, 3, 8] 1 ?_
        exact (t_isC I _ _ p q a b c d).mpr ⟨rfl, .inl ⟨rfl, (h r m).2 hx⟩⟩
    · exact h.elim
  · exact h.elim
theorem gs3 : GOk I P (Gm S3) := Gm.consP (Gm.consH gs2 k_isort) k_blen
theorem k_pdq : ∀ (args : List AV) (hp : Tr (AO O)) (nx : Nat) (K : AV → Tr (AO O) → Nat → Prop), c_pdq args hp nx K → ACall I P 52 args hp (fun v hp' => ∃ nx', K v hp' nx') := by
  intro args hp nx K h
  unfold c_pdq at h; split at h
  · rename_i n p q
    split at h
    · rename_i a b c d hb hg
      refine hcall1g mix gs3 (fn := Try.f52) (by kernel_rfl) (by kernel_rfl) (by kernel_rfl) (fun n => .sl n 0 2 2) (fun ι => rfl) (fun d hd => by simp [nm, hd]) rfl hb hg rfl rfl (nx := nx) (fun hr hl => ?_)
      refine (t_pdq I _ p q a b c d).mpr ?_
      refine ALoop.start [] [0, 1, 2, 3, 4, 10, 11] 1 (j_pdq p q a b c d) (by kernel_rfl) (by kernel_rfl) ?_
      refine ALoop.stepg [] [0, 1, 2, 3, 4, 10, 11] 1 ?_
      refine (t_pdqA I _ _ p q a b c d).mpr ?_
      exact fun r m => ⟨fun hx => ⟨rfl, .inr ⟨_, rfl, rfl, (h r m).1 hx⟩⟩, fun hx => ⟨rfl, .inl ⟨rfl, (h r m).2 hx⟩⟩⟩
    · exact h.elim
  · exact h.elim
theorem gs4 : GOk I P (Gm S4) := Gm.consH gs3 k_pdq
theorem k_sortf : ∀ (args : List AV) (hp : Tr (AO O)) (nx : Nat) (K : AV → Tr (AO O) → Nat → Prop), c_sortf args hp nx K → ACall I P 34 args hp (fun v hp' => ∃ nx', K v hp' nx') := by
  intro args hp nx K h
  unfold c_sortf at h; split at h
  · rename_i n p q
    split at h
    · rename_i a b c d hb hg
      refine hcall1g mix gs4 (fn := Try.f34) (by kernel_rfl) (by kernel_rfl) (by kernel_rfl) (fun n => .sl n 0 2 2) (fun ι => rfl) (fun d hd => by simp [nm, hd]) rfl hb hg rfl rfl (nx := nx) (fun hr hl => ?_)
      refine (t_sortf I _ p q a b c d).mpr ?_
      exact fun r m => ⟨fun hx => ⟨rfl, .inr ⟨_, rfl, rfl, (h r m).1 hx⟩⟩, fun hx => ⟨rfl, .inl ⟨rfl, (h r m).2 hx⟩⟩⟩
    · exact h.elim
  · exact h.elim
theorem gs5 : GOk I P (Gm S5) := Gm.consH gs4 k_sortf
theorem k_near : ∀ (args : List AV) (K : AV → Prop), c_near args K → ∀ hp, ACall I P 12 args hp (fun v hp' => K v ∧ hp' = hp) := by
  intro args K h hp
  unfold c_near at h; split at h
  · rename_i s h0 l0
    refine pcall mix gs5 (fn := Try.f12) (by kernel_rfl) (by kernel_rfl) (by kernel_rfl) rfl rfl (fun hr => ?_) hp
    simp only [rgs, rg, Bool.and_eq_true] at hr
    refine (t_near I (fun v => K v ∧ cl v = true) s h0 l0).mpr ?_
    obtain ⟨hs, ⟨hh, hl, _⟩, _⟩ := hr
    have hs := r_u64 hs; have hh := r_i64 hh; have hl := r_u64 hl
    intro d md h1 l1 m1 h2 l2 e2 m2
    rw [m1.2.2] at m2
    unfold DiffR at md
    refine bsplit_both (fun hx => ⟨h _ _ _ ⟨d, ?_, md.2, m2⟩, rfl⟩) (fun hx => ?_)
    · have hx : d ≠ -9223372036854775808 := by simpa using hx
      omega
    have hx : d = -9223372036854775808 := by simpa using hx
    subst hx
    intro h3 l3 m3 h4 l4 e4 m4
    rw [m3.2.2, show vl h0 l0 - -9223372036854775808 = vl h0 l0 + 9223372036854775808 by omega] at m4
    have fin : NearR s h0 l0 h4 l4 e4 := ⟨9223372036854775808, by omega, by omega, m4⟩
    refine bsplit_both (fun hy => ⟨h _ _ _ ?_, rfl⟩) (fun hy => ?_)
    · have hy : e4 ≠ 0 := by simpa using hy
      have : h4 = 0 ∧ l4 = 0 := by unfold AddR at m4; omega
      rw [this.1, this.2] at fin; exact fin
    have hy : e4 = 0 := by simpa using hy
    refine bsplit_both (fun hz => ⟨h _ _ _ fin, rfl⟩) (fun hz => ?_)
    have hz : e2 = 0 := by simpa using hz
    subst hy; subst hz
    intro r mr
    have x4 : vl h4 l4 = vl h0 l0 + 9223372036854775808 := by unfold AddR Nm at m4; omega
    have x2 : vl h2 l2 = vl h0 l0 + -9223372036854775808 := by unfold AddR Nm at m2; omega
    rw [x4, x2] at mr
    have : r = -1 := by unfold NearerR CmpR at mr; omega
    exact ⟨fun _ => ⟨h _ _ _ fin, rfl⟩, fun hr => by omega⟩
  · exact h.elim
theorem gs6 : GOk I P (Gm S6) := Gm.consP gs5 k_near
end Go.Tb.W
