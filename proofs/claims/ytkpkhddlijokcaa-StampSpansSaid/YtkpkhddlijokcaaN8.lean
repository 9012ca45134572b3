/- The document's numbers: from halves, and to halves; which is greater; does one fit. -/
import Derived.Test.YtkpkhddlijokcaaN7
set_option linter.all false
set_option maxRecDepth 100000
namespace Go.Tb.W
open Go Go.Proofs
variable {I : Interp O}
theorem k_rcmp : ∀ (args : List AV) (hp : Tr (AO O)) (nx : Nat) (K : AV → Tr (AO O) → Nat → Prop), c_rcmp args hp nx K → ACall I P 40 args hp (fun v hp' => ∃ nx', K v hp' nx') := by
  intro args hp nx K h
  unfold c_rcmp at h; split at h
  · rename_i s n l c t m k d
    split at h
    · rename_i xs r1 ys r2 hb hg1 hg2
      simp only [Bool.and_eq_true] at hb
      obtain ⟨⟨hb1, hb2⟩, hb4⟩ := hb
      obtain ⟨⟨p1, p2, L1, L2⟩, h⟩ := h
      refine hrows mix gq2 (fn := Try.f40) (by kernel_rfl) (by kernel_rfl) (by kernel_rfl) [n, m] [bo xs r1, bo ys r2] [.agg [.bool s, .sl 0 0 l c], .agg [.bool t, .sl 1 0 k d]] (nx := nx) rfl (uniq2 hb1 hb2 hb4) rfl ⟨hg1, hg2, trivial⟩ rfl rfl (fun hr ho => ?_)
      refine (t_rcmp I _ s t l c r1 k d r2 xs ys).mpr ⟨p2, fun u j hu => ⟨rfl, ⟨p1, pre_of hu ?_⟩, fun u2 zs j2 e room h2 => ?_⟩⟩
      · have := nr_len (m := k) hu (by rw [Int.natAbs_neg, ← pre_abs p2]; exact bv_take_lt ys k)
        omega
      · rw [nv_of hu] at h2
        have hz := nr_zero h2
        refine bsplit_both (fun hx => ⟨⟨rfl, rfl, trivial⟩, .inl ⟨rfl, h _ (.inl ⟨?_, rfl⟩)⟩⟩) (fun hx => ⟨⟨rfl, rfl, trivial⟩, .inl ⟨rfl, h _ ?_⟩⟩)
        · have := h2.2.2.2 hx; omega
        · have h3 := h2.2.2.1
          rw [hx] at h3
          simp only [sv] at h3
          unfold CmpR
          split <;> omega
    · exact h.elim
  · exact h.elim
theorem nr_le_iff {s : Bool} {xs : List Rw} {k m : Nat} {v : Int} (h : NR s xs k v) : k ≤ m ↔ v.natAbs < 2 ^ m := by
  constructor
  · intro hk
    rw [← nr_abs h]
    have := bv_take_lt xs k
    have h2 : 2 ^ k ≤ 2 ^ m := Nat.pow_le_pow_right (by omega) hk
    omega
  · exact nr_len h
theorem k_fits : ∀ (args : List AV) (hp : Tr (AO O)) (nx : Nat) (K : AV → Tr (AO O) → Nat → Prop), c_fits args hp nx K → ACall I P 15 args hp (fun v hp' => ∃ nx', K v hp' nx') := by
  intro args hp nx K h
  unfold c_fits at h; split at h
  · rename_i s n l c p
    split at h
    · rename_i xs room hb hg
      obtain ⟨⟨p1, L1, hp0, hp1⟩, h⟩ := h
      refine hrows mix gq2 (fn := Try.f15) (by kernel_rfl) (by kernel_rfl) (by kernel_rfl) [n] [bo xs room] [.agg [.bool s, .sl 0 0 l c], .int .i64 p] (nx := nx) rfl (uniq1 hb) rfl ⟨hg, trivial⟩ rfl rfl (fun hr ho => ?_)
      refine (t_fits I _ s l c room xs p).mpr ?_
      have hsg := pre_sign p1
      have hpp : ((2 : Int) ^ p.toNat) = ((2 ^ p.toNat : Nat) : Int) := by rw [Int.natCast_pow]; rfl
      obtain ⟨q, hq⟩ : ∃ q : Nat, p = q := ⟨p.toNat, by omega⟩
      refine bsplit_both (fun hx => ⟨⟨rfl, trivial⟩, .inl ⟨rfl, h _ ?_⟩⟩) (fun hx => ?_)
      · have hs : s = false := by simpa using hx
        subst hs
        have hv : ¬ nv false xs l < 0 := by intro h'; rw [decide_eq_true h'] at hsg; cases hsg
        have key := nr_le_iff (m := p.toNat) p1.1
        unfold FitsR
        rw [hpp, decide_eq_true_eq]
        generalize nv false xs l = v at *
        constructor
        · intro h1; have := key.1 (by omega); omega
        · intro h1; have := key.2 (by omega); omega
      · have hs : s = true := by simpa using hx
        intro u zs j e rm hu
        have hj : j ≤ 1 := nr_len hu (by decide)
        refine ⟨rfl, ⟨p1, pre_of hu (by omega)⟩, fun u2 zs2 j2 e2 rm2 h2 => ⟨⟨rfl, trivial⟩, .inl ⟨rfl, h _ ?_⟩⟩⟩
        rw [nv_of hu] at h2
        have hv : nv s xs l < 0 := by rw [hs] at hsg; rw [hs]; exact of_decide_eq_true hsg.symm
        have key := nr_le_iff (m := p.toNat) h2
        unfold FitsR
        rw [hpp, decide_eq_true_eq]
        generalize nv s xs l = v at *
        constructor
        · intro h1; have := key.1 (by omega); omega
        · intro h1; have := key.2 (by omega); omega
    · exact h.elim
  · exact h.elim
/-- The halves of a number that isn't below 0, and of what is below 0 by 1 more. -/
theorem wide_ok {v N h l : Int} (hl : 0 ≤ l ∧ l < 18446744073709551616) (hh : 0 ≤ h ∧ h < 18446744073709551616) (hN : 0 ≤ N) (hm : (N - (h * 18446744073709551616 + l)) % 340282366920938463463374607431768211456 = 0) :
    (v = N → WideR v (IntKind.i64.wrap h) l) ∧ (v = -N - 1 → WideR v (IntKind.i64.wrap (18446744073709551615 - h)) (18446744073709551615 - l)) := by
  constructor
  · intro hv; subst hv
    rw [w_i64]
    refine ⟨by omega, by omega, by omega, fun hf => ?_⟩
    unfold Nm vl; omega
  · intro hv; subst hv
    rw [w_i64]
    refine ⟨by omega, by omega, by omega, fun hf => ?_⟩
    unfold Nm vl; omega
theorem bv_mod (A : List Rw) (m : Nat) : ∃ q, bv A = bv (A.take m) + 2 ^ m * q := by
  by_cases h : m ≤ A.length
  · refine ⟨bv (A.drop m), ?_⟩
    have := bv_app (A.take m) (A.drop m)
    rw [List.take_append_drop, List.length_take, Nat.min_eq_left h] at this; exact this
  · exact ⟨0, by rw [List.take_of_length_le (by omega)]; omega⟩
theorem k_rwide : ∀ (args : List AV) (hp : Tr (AO O)) (nx : Nat) (K : AV → Tr (AO O) → Nat → Prop), c_rwide args hp nx K → ACall I P 16 args hp (fun v hp' => ∃ nx', K v hp' nx') := by
  intro args hp nx K h
  unfold c_rwide at h; split at h
  · rename_i s n l c
    split at h
    · rename_i xs r hb hg
      obtain ⟨⟨p1, L1⟩, h⟩ := h
      refine hrows mix gq2 (fn := Try.f16) (by kernel_rfl) (by kernel_rfl) (by kernel_rfl) [n] [bo xs r] [.agg [.bool s, .sl 0 0 l c]] (nx := nx) rfl (uniq1 hb) rfl ⟨hg, trivial⟩ rfl rfl (fun hr ho => ?_)
      refine (t_rwide I _ s l c r xs).mpr ?_
      have hsg := pre_sign p1
      have hxl : l ≤ xs.length := p1.1.1
      -- what the loop ends with
      have endW : ∀ (A : List Rw) (hi_ : Nat), hi_ * 18446744073709551616 + bv (A.take 64) = bv (A.take (64 + 64)) → (0 ≤ (bv (A.take 64) : Int) ∧ (bv (A.take 64) : Int) < 18446744073709551616) ∧ (0 ≤ (hi_ : Int) ∧ (hi_ : Int) < 18446744073709551616) ∧ ((bv A : Int) - ((hi_ : Int) * 18446744073709551616 + (bv (A.take 64) : Int))) % 340282366920938463463374607431768211456 = 0 := fun A hi_ h1 => by
        have l1 := bv_take_lt A 64
        have l2 := bv_take_lt A (64 + 64)
        obtain ⟨q, hq⟩ := bv_mod A (64 + 64)
        have e1 : 2 ^ 64 = 18446744073709551616 := by decide
        have e2 : 2 ^ (64 + 64) = 340282366920938463463374607431768211456 := by decide
        rw [e1] at l1; rw [e2] at l2 hq
        omega
      refine bsplit_both (fun hx => ?_) (fun hx => ?_)
      · have hv : nv s xs l < 0 := by rw [hx] at hsg; rw [hx]; exact of_decide_eq_true hsg.symm
        intro u0 zs1 j2 e3 room4 hu
        have hj : j2 ≤ 1 := nr_len hu (by decide)
        refine ⟨rfl, ⟨p1, pre_of hu (by omega)⟩, fun u5 zs6 j7 e8 room9 h5 => ?_⟩
        rw [nv_of hu] at h5
        have hj7 : j7 ≤ l := nr_len h5 (by have h1 := bv_take_lt xs l; rw [pre_abs p1] at h1; omega)
        refine ⟨pre_of h5 (by omega), fun u10 j11 h10 => ?_⟩
        rw [nv_of h5] at h10
        have hA := nr_abs h10
        have hval : nv s xs l = -(((-(nv s xs l + 1)).natAbs : Nat) : Int) - 1 := by omega
        have hzl : j11 ≤ zs6.length := h10.1
        refine ALoop.start [(1, 1), (2, 2), (4, 4)] [1, 4, 5, 6, 7] 5 (j_wide0 s l c r xs u10 zs6 j11 e8 room9 0 0 0) (by kernel_rfl) (by kernel_rfl) ?_
        refine ALoop.invj (ps := [(1, 1), (2, 2), (4, 4)]) (ts := [1, 4, 5, 6, 7]) (nx := 5) (fun x : Nat × Nat × Nat => j_wide0 s l c r xs u10 zs6 j11 e8 room9 (x.1 : Nat) (x.2.1 : Nat) (x.2.2 : Nat)) (fun x => x.2.2 ≤ 64 ∧ x.2.1 = bv ((zs6.take j11).take x.2.2) ∧ x.1 * 18446744073709551616 + bv ((zs6.take j11).take 64) = bv ((zs6.take j11).take (64 + x.2.2))) (fun x => 64 - x.2.2) (fun x hG => ?_) (0, 0, 0) ⟨by simp, by simp [bv], by simp⟩
        obtain ⟨hi_, lo_, n'⟩ := x
        obtain ⟨g1, g2, g3⟩ := hG
        simp only at g1 g2 g3
        refine (t_wide0R I _ _ s l c r xs u10 zs6 j11 e8 room9 hi_ lo_ n').mpr ?_
        have hin : ((n' : Int)).toNat = n' := by omega
        refine bsplit_both (fun w1 => ?_) (fun w1 => ?_)
        · have w1 : n' < 64 := by have : (n' : Int) < 64 := by simpa using w1
                                  omega
          have hmin : min n' IntKind.u64.bits = n' := by
            have : IntKind.u64.bits = 64 := rfl
            omega
          obtain ⟨pw, hpw⟩ : ∃ y, 2 ^ n' = y := ⟨_, rfl⟩
          have h64 : pw ≤ 9223372036854775808 := by
            have : 2 ^ n' ≤ 2 ^ 63 := Nat.pow_le_pow_right (by omega) (by omega)
            rw [hpw] at this
            exact Nat.le_trans this (by decide)
          have hp : IntKind.u64.wrap (1 * 2 ^ min n' IntKind.u64.bits) = (pw : Int) := by
            rw [hmin, Int.one_mul]
            have : ((2 : Int) ^ n') = (pw : Int) := by rw [← hpw, Int.natCast_pow]; rfl
            rw [this, s_u64 (by omega)]
          rw [s_i64 (n := (n' : Int) + 64) (by omega), s_i64 (n := (n' : Int) + 1) (by omega), hin, show ((n' : Int) + 64).toNat = 64 + n' by omega, hp]
          have b1 := bv_succ (zs6.take j11) n'
          have b2 := bv_succ (zs6.take j11) (64 + n')
          have l1 := bv_take_lt (zs6.take j11) n'
          have l2 := bv_take_lt (zs6.take j11) (64 + n')
          have e64 : 2 ^ (64 + n') = 18446744073709551616 * pw := by rw [Nat.pow_add, hpw]
          rw [hpw] at b1 l1
          rw [e64] at b2 l2
          have hh : hi_ < pw := by
            have : 18446744073709551616 * hi_ < 18446744073709551616 * pw := by omega
            exact Nat.lt_of_mul_lt_mul_left this
          have wr : ∀ v : Nat, v < pw → IntKind.u64.wrap ((v : Int) + (pw : Int)) = ((v + pw : Nat) : Int) := fun v hv => by rw [s_u64 (by omega)]; omega
          rw [wr hi_ hh, wr lo_ (by omega)]
          have go : ∀ (x y : Bool), bit (zs6.take j11) n' = x → bit (zs6.take j11) (64 + n') = y → (hi_ + pw * nb y) * 18446744073709551616 + bv ((zs6.take j11).take 64) = bv ((zs6.take j11).take (64 + (n' + 1))) ∧ lo_ + pw * nb x = bv ((zs6.take j11).take (n' + 1)) := fun x y hx hy => by
            rw [hx] at b1; rw [hy] at b2
            refine ⟨?_, by rw [g2]; exact b1.symm⟩
            rw [show 64 + (n' + 1) = 64 + n' + 1 by omega, b2, Nat.add_mul]
            have : pw * nb y * 18446744073709551616 = 18446744073709551616 * pw * nb y := by rw [Nat.mul_comm (pw * nb y), Nat.mul_assoc]
            rw [this, ← g3]
            exact Nat.add_right_comm _ _ _
          refine ⟨⟨by omega, hzl⟩, bsplit_both (fun bx => must_mk (by simp) ⟨⟨by omega, hzl⟩, bsplit_both (fun by_ => must_mk (by simp) ?_) (fun by_ => ?_)⟩) (fun bx => ⟨⟨by omega, hzl⟩, bsplit_both (fun by_ => must_mk (by simp) ?_) (fun by_ => ?_)⟩)⟩
          · obtain ⟨q1, q2⟩ := go _ _ bx by_
            exact ⟨(hi_ + pw, lo_ + pw, n' + 1), ⟨w1, by simpa [nb] using q2, by simpa [nb] using q1⟩, by simp only; omega, by kernel_rfl⟩
          · obtain ⟨q1, q2⟩ := go _ _ bx by_
            exact ⟨(hi_, lo_ + pw, n' + 1), ⟨w1, by simpa [nb] using q2, by simpa [nb] using q1⟩, by simp only; omega, by kernel_rfl⟩
          · obtain ⟨q1, q2⟩ := go _ _ bx by_
            exact ⟨(hi_ + pw, lo_, n' + 1), ⟨w1, by simpa [nb] using q2, by simpa [nb] using q1⟩, by simp only; omega, by kernel_rfl⟩
          · obtain ⟨q1, q2⟩ := go _ _ bx by_
            exact ⟨(hi_, lo_, n' + 1), ⟨w1, by simpa [nb] using q2, by simpa [nb] using q1⟩, by simp only; omega, by kernel_rfl⟩
        · have w1 : n' = 64 := by have : ¬ (n' : Int) < 64 := by simpa using w1
                                  omega
          subst w1
          refine bsT hx ⟨⟨rfl, trivial⟩, .inl ⟨rfl, h _ _ ?_⟩⟩
          obtain ⟨q1, q2, q3⟩ := endW (zs6.take j11) hi_ g3
          rw [← g2] at q1 q3
          rw [hA] at q3
          have hw : 0 ≤ (lo_ : Int) ∧ (lo_ : Int) ≤ 18446744073709551615 := ⟨q1.1, Int.le_sub_one_of_lt q1.2⟩
          have hw2 : 0 ≤ (hi_ : Int) ∧ (hi_ : Int) ≤ 18446744073709551615 := ⟨q2.1, Int.le_sub_one_of_lt q2.2⟩
          rw [not_u64 _ hw, not_u64 _ hw2]
          exact (wide_ok (v := nv s xs l) (N := (((-(nv s xs l + 1)).natAbs : Nat) : Int)) q1 q2 (Int.natCast_nonneg _) q3).2 hval
      · have hv : ¬ nv s xs l < 0 := by intro h'; rw [decide_eq_true h', hx] at hsg; cases hsg
        have hA := pre_abs p1
        have hval : nv s xs l = (((nv s xs l).natAbs : Nat) : Int) := by omega
        refine ALoop.start [(1, 1), (2, 2)] [1, 4, 5, 6, 7] 3 (j_wide1 s l c r xs 0 0 0) (by kernel_rfl) (by kernel_rfl) ?_
        refine ALoop.invj (ps := [(1, 1), (2, 2)]) (ts := [1, 4, 5, 6, 7]) (nx := 3) (fun x : Nat × Nat × Nat => j_wide1 s l c r xs (x.1 : Nat) (x.2.1 : Nat) (x.2.2 : Nat)) (fun x => x.2.2 ≤ 64 ∧ x.2.1 = bv ((xs.take l).take x.2.2) ∧ x.1 * 18446744073709551616 + bv ((xs.take l).take 64) = bv ((xs.take l).take (64 + x.2.2))) (fun x => 64 - x.2.2) (fun x hG => ?_) (0, 0, 0) ⟨by simp, by simp [bv], by simp⟩
        obtain ⟨hi_, lo_, n'⟩ := x
        obtain ⟨g1, g2, g3⟩ := hG
        simp only at g1 g2 g3
        refine (t_wide1R I _ _ s l c r xs hi_ lo_ n').mpr ?_
        have hin : ((n' : Int)).toNat = n' := by omega
        refine bsplit_both (fun w1 => ?_) (fun w1 => ?_)
        · have w1 : n' < 64 := by have : (n' : Int) < 64 := by simpa using w1
                                  omega
          have hmin : min n' IntKind.u64.bits = n' := by
            have : IntKind.u64.bits = 64 := rfl
            omega
          obtain ⟨pw, hpw⟩ : ∃ y, 2 ^ n' = y := ⟨_, rfl⟩
          have h64 : pw ≤ 9223372036854775808 := by
            have : 2 ^ n' ≤ 2 ^ 63 := Nat.pow_le_pow_right (by omega) (by omega)
            rw [hpw] at this
            exact Nat.le_trans this (by decide)
          have hp : IntKind.u64.wrap (1 * 2 ^ min n' IntKind.u64.bits) = (pw : Int) := by
            rw [hmin, Int.one_mul]
            have : ((2 : Int) ^ n') = (pw : Int) := by rw [← hpw, Int.natCast_pow]; rfl
            rw [this, s_u64 (by omega)]
          rw [s_i64 (n := (n' : Int) + 64) (by omega), s_i64 (n := (n' : Int) + 1) (by omega), hin, show ((n' : Int) + 64).toNat = 64 + n' by omega, hp]
          have b1 := bv_succ (xs.take l) n'
          have b2 := bv_succ (xs.take l) (64 + n')
          have l1 := bv_take_lt (xs.take l) n'
          have l2 := bv_take_lt (xs.take l) (64 + n')
          have e64 : 2 ^ (64 + n') = 18446744073709551616 * pw := by rw [Nat.pow_add, hpw]
          rw [hpw] at b1 l1
          rw [e64] at b2 l2
          have hh : hi_ < pw := by
            have : 18446744073709551616 * hi_ < 18446744073709551616 * pw := by omega
            exact Nat.lt_of_mul_lt_mul_left this
          have wr : ∀ v : Nat, v < pw → IntKind.u64.wrap ((v : Int) + (pw : Int)) = ((v + pw : Nat) : Int) := fun v hv => by rw [s_u64 (by omega)]; omega
          rw [wr hi_ hh, wr lo_ (by omega)]
          have go : ∀ (x y : Bool), bit (xs.take l) n' = x → bit (xs.take l) (64 + n') = y → (hi_ + pw * nb y) * 18446744073709551616 + bv ((xs.take l).take 64) = bv ((xs.take l).take (64 + (n' + 1))) ∧ lo_ + pw * nb x = bv ((xs.take l).take (n' + 1)) := fun x y hx hy => by
            rw [hx] at b1; rw [hy] at b2
            refine ⟨?_, by rw [g2]; exact b1.symm⟩
            rw [show 64 + (n' + 1) = 64 + n' + 1 by omega, b2, Nat.add_mul]
            have : pw * nb y * 18446744073709551616 = 18446744073709551616 * pw * nb y := by rw [Nat.mul_comm (pw * nb y), Nat.mul_assoc]
            rw [this, ← g3]
            exact Nat.add_right_comm _ _ _
          refine ⟨⟨by omega, hxl⟩, bsplit_both (fun bx => must_mk (by simp) ⟨⟨by omega, hxl⟩, bsplit_both (fun by_ => must_mk (by simp) ?_) (fun by_ => ?_)⟩) (fun bx => ⟨⟨by omega, hxl⟩, bsplit_both (fun by_ => must_mk (by simp) ?_) (fun by_ => ?_)⟩)⟩
          · obtain ⟨q1, q2⟩ := go _ _ bx by_
            exact ⟨(hi_ + pw, lo_ + pw, n' + 1), ⟨w1, by simpa [nb] using q2, by simpa [nb] using q1⟩, by simp only; omega, by kernel_rfl⟩
          · obtain ⟨q1, q2⟩ := go _ _ bx by_
            exact ⟨(hi_, lo_ + pw, n' + 1), ⟨w1, by simpa [nb] using q2, by simpa [nb] using q1⟩, by simp only; omega, by kernel_rfl⟩
          · obtain ⟨q1, q2⟩ := go _ _ bx by_
            exact ⟨(hi_ + pw, lo_, n' + 1), ⟨w1, by simpa [nb] using q2, by simpa [nb] using q1⟩, by simp only; omega, by kernel_rfl⟩
          · obtain ⟨q1, q2⟩ := go _ _ bx by_
            exact ⟨(hi_, lo_, n' + 1), ⟨w1, by simpa [nb] using q2, by simpa [nb] using q1⟩, by simp only; omega, by kernel_rfl⟩
        · have w1 : n' = 64 := by have : ¬ (n' : Int) < 64 := by simpa using w1
                                  omega
          subst w1
          refine bsF hx ⟨⟨rfl, trivial⟩, .inl ⟨rfl, h _ _ ?_⟩⟩
          obtain ⟨q1, q2, q3⟩ := endW (xs.take l) hi_ g3
          rw [← g2] at q1 q3
          rw [hA] at q3
          exact (wide_ok (v := nv s xs l) (N := (((nv s xs l).natAbs : Nat) : Int)) q1 q2 (Int.natCast_nonneg _) q3).1 hval
    · exact h.elim
  · exact h.elim
end Go.Tb.W
