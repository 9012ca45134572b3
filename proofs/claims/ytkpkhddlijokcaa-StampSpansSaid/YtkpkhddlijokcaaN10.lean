/- The document's numbers: products, parts. -/
import Derived.Test.YtkpkhddlijokcaaN9
import Derived.Test.YtkpkhddlijokcaaM20
set_option linter.all false
set_option maxRecDepth 100000
namespace Go.Tb.W
open Go Go.Proofs
variable {I : Interp O}
theorem bv_drop (xs : List Rw) (m : Nat) (h : m < xs.length) : bv (xs.drop m) = nb (bit xs m) + 2 * bv (xs.drop (m + 1)) := by
  have hx : xs[m]? = some xs[m] := List.getElem?_eq_getElem h
  rw [List.drop_eq_getElem_cons h, bv_cons, bit_some hx]
theorem k_rtimes : ∀ (args : List AV) (hp : Tr (AO O)) (nx : Nat) (K : AV → Tr (AO O) → Nat → Prop), c_rtimes args hp nx K → ACall I P 45 args hp (fun v hp' => ∃ nx', K v hp' nx') := by
  intro args hp nx K h
  unfold c_rtimes at h; split at h
  · rename_i s n l c t m k d
    split at h
    · rename_i xs r1 ys r2 hb hg1 hg2 hgx
      simp only [Bool.and_eq_true] at hb
      obtain ⟨⟨⟨hb1, hb2⟩, hb3⟩, hb4⟩ := hb
      obtain ⟨⟨p1, p2, hlk⟩, h⟩ := h
      refine hrows mix gq2 (fn := Try.f45) (by kernel_rfl) (by kernel_rfl) (by kernel_rfl) [n, m] [bo xs r1, bo ys r2] [.agg [.bool s, .sl 0 0 l c], .agg [.bool t, .sl 1 0 k d]] (nx := nx) rfl (uniq2 hb1 hb2 hb4) rfl ⟨hg1, hg2, trivial⟩ rfl rfl (fun hr ho => ?_)
      refine (t_rtimes I _ s t l c r1 k d r2 xs ys).mpr ?_
      have hxl := p1.1.1
      have hyl := p2.1.1
      have hB : (ys.take k).length = k := by rw [List.length_take]; omega
      rw [s_i64 (n := (k : Int) - 1) (by omega)]
      refine ALoop.weak (Weak.asRows (n := 5) (l := 0) (sh := [.b]) (xs := []) rfl rfl rfl rfl) ?_
      refine ALoop.start [(2, 2), (3, 3), (4, 4), (5, 5)] [2, 3, 4, 5, 6] 6 (j_times s t l c r1 k d r2 xs ys [] 0 0 0 ((k : Int) - 1)) (by kernel_rfl) (by kernel_rfl) ?_
      refine ALoop.invjL (pss := [[(2, 2), (3, 3), (4, 4), (7, 5)], [(2, 2), (3, 3), (4, 4), (8, 5)]]) (ts := [2, 3, 4, 5, 6]) (nx := 6) (fun x : List Rw × Nat × Nat × Nat × Nat => j_times s t l c r1 k d r2 xs ys x.1 x.2.1 x.2.2.1 x.2.2.2.1 ((x.2.2.2.2 : Int) - 1))
        (fun x => x.1.length = x.2.1 ∧ x.2.2.2.2 ≤ k ∧ x.2.1 ≤ l + 2 * (k - x.2.2.2.2) ∧ bv x.1 = bv (xs.take l) * bv ((ys.take k).drop x.2.2.2.2)) (fun x => x.2.2.2.2) (fun x hG => ?_) ([], 0, 0, 0, k) ⟨rfl, Nat.le_refl _, Nat.zero_le _, by simp only; rw [List.drop_of_length_le (by rw [hB]; exact Nat.le_refl _)]; simp [bv]⟩
      obtain ⟨zs, n', e, room, q⟩ := x
      obtain ⟨g1, g2, g3, g4⟩ := hG
      simp only at g1 g2 g3 g4
      refine (t_timesR I _ _ s t l c r1 k d r2 xs ys zs n' e room ((q : Int) - 1)).mpr ?_
      have hz : zs.take n' = zs := List.take_of_length_le (by omega)
      refine bsplit_both (fun w1 => ?_) (fun w1 => ?_)
      · have w1 : 1 ≤ q := by have : (q : Int) - 1 ≥ 0 := by simpa using w1
                              omega
        refine must_mk (by rw [Nat.ble_eq]; omega) ⟨by omega, fun c' hc1 hc2 => must_mk (by simp; omega) ?_⟩
        rw [show ((q : Int) - 1).toNat = q - 1 by omega, s_i64 (n := (q : Int) - 1 - 1) (by omega)]
        have hx' : ys[q - 1]? = some (ys[q - 1]'(by omega)) := List.getElem?_eq_getElem _
        refine xget_mk hx' ?_
        have hbit : bit (ys.take k) (q - 1) = (ys[q - 1]'(by omega)).b 0 := by rw [bit_take (by omega), bit_some hx']
        generalize ys[q - 1]'(by omega) = y at *
        have hd := bv_drop (ys.take k) (q - 1) (by omega)
        rw [show q - 1 + 1 = q by omega, hbit] at hd
        have hR : bv ([rwA [AV.bool false]] ++ List.take n' zs) = 2 * bv zs := by rw [hz, bv_app, bv_one]; simp [nb]
        have hRl : ([rwA [AV.bool false]] ++ List.take n' zs).length = 1 + n' := by rw [hz]; simp [g1, Nat.add_comm]
        have hR2 : List.take (1 + n') ([rwA [AV.bool false]] ++ List.take n' zs) = [rwA [AV.bool false]] ++ List.take n' zs := List.take_of_length_le (by omega)
        have hq1 : ((q - 1 : Nat) : Int) - 1 = (q : Int) - 1 - 1 := by omega
        refine bsplit_both (fun hy => ?_) (fun hy => ?_)
        · refine ⟨⟨⟨by omega, by omega⟩, ⟨hxl, by omega⟩⟩, fun zs2 e3 rm4 hz2 => ?_⟩
          obtain ⟨z1, z2⟩ := hz2
          rw [hR2, hR] at z1
          have hmx : Nat.max (1 + n') l ≤ l + 2 * (k - q) + 1 := Nat.max_le.2 ⟨by omega, by omega⟩
          refine ⟨(zs2, zs2.length, e3, rm4, q - 1), ⟨rfl, by simp only; omega, by simp only; omega, ?_⟩, by simp only; omega, ?_⟩
          · simp only
            rw [z1, hd, hy, g4, Nat.mul_add, show nb true = 1 from rfl, Nat.mul_one, Nat.mul_left_comm]; omega
          · exact Eq.trans (b := j_times s t l c r1 k d r2 xs ys zs2 zs2.length e3 rm4 ((q : Int) - 1 - 1)) (by kernel_rfl) (by rw [← hq1])
        · refine ⟨([rwA [AV.bool false]] ++ List.take n' zs, 1 + n', c', c' * [Sh.b].length, q - 1), ⟨hRl, by simp only; omega, by simp only; omega, ?_⟩, by simp only; omega, ?_⟩
          · simp only
            rw [hR, hd, hy, g4, show nb false = 0 from rfl, Nat.zero_add, Nat.mul_left_comm]
          · exact Eq.trans (b := j_times s t l c r1 k d r2 xs ys ([rwA [AV.bool false]] ++ List.take n' zs) (1 + n') c' (c' * [Sh.b].length) ((q : Int) - 1 - 1)) (by kernel_rfl) (by rw [← hq1])
      · have w1 : q = 0 := by have : ¬ (q : Int) - 1 ≥ 0 := by simpa using w1
                              omega
        subst w1
        rw [List.drop_zero] at g4
        refine ⟨⟨by omega, by omega⟩, fun k5 hk => ⟨⟨rfl, rfl, trivial⟩, .inr ⟨5, _, _, zs, room, hb3, hgx, by simp, rfl, rfl, ?_⟩⟩⟩
        obtain ⟨a1, a2, a3⟩ := hk
        rw [hz, g4] at a2
        refine h _ zs k5 e room ?_
        have := nr_bare (s := !(s == t)) (xs := zs) (k := k5) (by omega) a2 a3
        have ev : sv (!(s == t)) (bv (xs.take l) * bv (ys.take k)) = nv s xs l * nv t ys k := by
          have hm : ((bv (xs.take l) * bv (ys.take k) : Nat) : Int) = (bv (xs.take l) : Int) * (bv (ys.take k) : Int) := Int.natCast_mul _ _
          unfold nv
          cases s <;> cases t
          · exact hm
          · show -((bv (xs.take l) * bv (ys.take k) : Nat) : Int) = (bv (xs.take l) : Int) * -(bv (ys.take k) : Int)
            rw [hm, Int.mul_neg]
          · show -((bv (xs.take l) * bv (ys.take k) : Nat) : Int) = -(bv (xs.take l) : Int) * (bv (ys.take k) : Int)
            rw [hm, Int.neg_mul]
          · show ((bv (xs.take l) * bv (ys.take k) : Nat) : Int) = -(bv (xs.take l) : Int) * -(bv (ys.take k) : Int)
            rw [hm, Int.neg_mul_neg]
        rw [ev] at this
        exact this
    · exact h.elim
  · exact h.elim
theorem zero_bit {qs : List Rw} {m i : Nat} (h : bv (qs.take m) = 0) (hi : i < m) : bit qs i = false := by
  have h1 := bv_succ qs i
  have h2 := bv_take_le (qs.take m) (i + 1)
  rw [List.take_take, Nat.min_eq_left (by omega)] at h2
  cases hb : bit qs i with
  | false => rfl
  | true =>
    rw [hb] at h1
    have : 0 < 2 ^ i := Nat.two_pow_pos _
    simp only [nb, Nat.mul_one] at h1; omega
theorem bv_take_mono {qs : List Rw} {m i : Nat} (h : bv (qs.take m) = 0) (hi : i ≤ m) : bv (qs.take i) = 0 := by
  have h2 := bv_take_le (qs.take m) i
  rw [List.take_take, Nat.min_eq_left hi] at h2; omega
theorem div_step {D hi_ : Nat} (hD : 1 ≤ D) (b : Bool) : (D ≤ nb b + 2 * (hi_ % D) → (nb b + 2 * hi_) / D = 1 + 2 * (hi_ / D) ∧ (nb b + 2 * hi_) % D = nb b + 2 * (hi_ % D) - D) ∧ (nb b + 2 * (hi_ % D) < D → (nb b + 2 * hi_) / D = 2 * (hi_ / D) ∧ (nb b + 2 * hi_) % D = nb b + 2 * (hi_ % D)) := by
  have hb : nb b ≤ 1 := by cases b <;> simp [nb]
  have h1 := Nat.div_add_mod hi_ D
  have h2 := Nat.mod_lt hi_ (show 0 < D by omega)
  generalize hq : hi_ / D = q at *
  generalize hr : hi_ % D = r at *
  constructor
  · intro h
    have e : nb b + 2 * hi_ = (nb b + 2 * r - D) + D * (1 + 2 * q) := by
      rw [Nat.mul_add, Nat.mul_one, Nat.mul_left_comm]; omega
    rw [e, Nat.add_mul_div_left _ _ (by omega), Nat.add_mul_mod_self_left, Nat.div_eq_of_lt (by omega), Nat.mod_eq_of_lt (by omega)]
    exact ⟨by omega, rfl⟩
  · intro h
    have e : nb b + 2 * hi_ = (nb b + 2 * r) + D * (2 * q) := by
      rw [Nat.mul_left_comm]; omega
    rw [e, Nat.add_mul_div_left _ _ (by omega), Nat.add_mul_mod_self_left, Nat.div_eq_of_lt (by omega), Nat.mod_eq_of_lt (by omega)]
    exact ⟨by omega, rfl⟩
theorem k_rdiv : ∀ (args : List AV) (hp : Tr (AO O)) (nx : Nat) (K : AV → Tr (AO O) → Nat → Prop), c_rdiv args hp nx K → ACall I P 44 args hp (fun v hp' => ∃ nx', K v hp' nx') := by
  intro args hp nx K h
  unfold c_rdiv at h; split at h
  · rename_i s n l c t m k d
    split at h
    · rename_i xs r1 ys r2 hb hg1 hg2 hgx hgx2
      simp only [Bool.and_eq_true] at hb
      obtain ⟨⟨⟨hb1, hb2⟩, hb3⟩, hb4⟩ := hb
      obtain ⟨⟨p1, p2, L1, L2, hD0⟩, h⟩ := h
      refine hrows2 mix gq2 (fn := Try.f44) (by kernel_rfl) (by kernel_rfl) (by kernel_rfl) [n, m] [bo xs r1, bo ys r2] [.agg [.bool s, .sl 0 0 l c], .agg [.bool t, .sl 1 0 k d]] (nx := nx) rfl (uniq2 hb1 hb2 hb4) rfl ⟨hg1, hg2, trivial⟩ rfl rfl hgx hgx2 hb3 (fun hr ho => ?_)
      refine (t_rdiv I _ s t l c r1 k d r2 xs ys).mpr ⟨⟨by omega, by omega, by omega⟩, ?_⟩
      have hxl := p1.1.1
      have hyl := p2.1.1
      have ha1 := pre_abs p1
      have ha2 := pre_abs p2
      have hsg := pre_sign p1
      have hD : 1 ≤ bv (ys.take k) := by omega
      have hDv : nv t ys k = (bv (ys.take k) : Int) := by omega
      have hA : (xs.take l).length = l := by rw [List.length_take]; omega
      rw [s_i64 (n := (l : Int) - 1) (by omega)]
      refine ALoop.weak (Weak.asRows (n := 8) (l := 0) (sh := [.b]) (xs := []) rfl rfl rfl rfl) ?_
      refine ALoop.start [(2, 2), (3, 3), (4, 4), (5, 5), (6, 6), (7, 7), (8, 8)] [2, 3, 4, 5, 6, 7, 8] 9 (j_div s t l c r1 k d r2 xs ys (List.replicate l (rwA [.bool false])) [] 0 0 0 ((l : Int) - 1)) (by kernel_rfl) (by kernel_rfl) ?_
      refine ALoop.invjL (pss := [[(2, 2), (3, 3), (4, 4), (5, 5), (6, 6), (7, 7), (10, 8)], [(2, 2), (3, 3), (4, 4), (5, 5), (6, 6), (7, 7), (11, 8)]]) (ts := [2, 3, 4, 5, 6, 7, 8]) (nx := 9) (fun x : List Rw × List Rw × Nat × Nat × Nat × Nat => j_div s t l c r1 k d r2 xs ys x.1 x.2.1 x.2.2.1 x.2.2.2.1 x.2.2.2.2.1 ((x.2.2.2.2.2 : Int) - 1))
        (fun x => x.1.length = l ∧ x.2.1.length = x.2.2.1 ∧ x.2.2.2.2.2 ≤ l ∧ x.2.2.1 = l - x.2.2.2.2.2 ∧ bv x.2.1 = bv ((xs.take l).drop x.2.2.2.2.2) % bv (ys.take k) ∧ bv (x.1.drop x.2.2.2.2.2) = bv ((xs.take l).drop x.2.2.2.2.2) / bv (ys.take k) ∧ bv (x.1.take x.2.2.2.2.2) = 0) (fun x => x.2.2.2.2.2) (fun x hG => ?_) (List.replicate l (rwA [.bool false]), [], 0, 0, 0, l)
        ⟨by simp, rfl, Nat.le_refl _, by simp, by simp only; rw [List.drop_of_length_le (by rw [hA]; exact Nat.le_refl _)]; simp [bv], by simp only; rw [List.drop_of_length_le (by simp), List.drop_of_length_le (by rw [hA]; exact Nat.le_refl _)]; simp [bv], by simp only; rw [List.take_of_length_le (by simp)]; exact bv_rep l⟩
      obtain ⟨qs, zs, n', e, room, q⟩ := x
      obtain ⟨g1, g2, g3, g4, g5, g6, g7⟩ := hG
      simp only at g1 g2 g3 g4 g5 g6 g7
      refine (t_divR I _ _ s t l c r1 k d r2 xs ys qs zs n' e room ((q : Int) - 1)).mpr ?_
      have hz : zs.take n' = zs := List.take_of_length_le (by omega)
      refine bsplit_both (fun w1 => ?_) (fun w1 => ?_)
      · have w1 : 1 ≤ q := by have : (q : Int) - 1 ≥ 0 := by simpa using w1
                              omega
        refine must_mk (by simp; omega) ?_
        rw [show ((q : Int) - 1).toNat = q - 1 by omega, s_i64 (n := (q : Int) - 1 - 1) (by omega)]
        have hx' : xs[q - 1]? = some (xs[q - 1]'(by omega)) := List.getElem?_eq_getElem _
        refine xget_mk hx' ?_
        have hbit : bit (xs.take l) (q - 1) = (xs[q - 1]'(by omega)).b 0 := by rw [bit_take (by omega), bit_some hx']
        generalize xs[q - 1]'(by omega) = x at *
        have hd := bv_drop (xs.take l) (q - 1) (by omega)
        rw [show q - 1 + 1 = q by omega, hbit] at hd
        refine must_mk (by rw [Nat.ble_eq]; omega) ⟨by omega, fun c' hc1 hc2 => ?_⟩
        have hR : bv ([rwA [encS x 0 Sh.b]] ++ List.take n' zs) = nb (x.b 0) + 2 * bv zs := by
          rw [hz, bv_app]
          show bv [rwA [AV.bool (x.b 0)]] + _ = _
          rw [bv_one]; simp
        have hRl : ([rwA [encS x 0 Sh.b]] ++ List.take n' zs).length = 1 + n' := by rw [hz]; simp [g2, Nat.add_comm]
        have hR2 : List.take (1 + n') ([rwA [encS x 0 Sh.b]] ++ List.take n' zs) = [rwA [encS x 0 Sh.b]] ++ List.take n' zs := List.take_of_length_le (by omega)
        have hq1 : ((q - 1 : Nat) : Int) - 1 = (q : Int) - 1 - 1 := by omega
        have lb : lenB ([rwA [encS x 0 Sh.b]] ++ List.take n' zs) (1 + n') := ⟨by omega, by omega⟩
        obtain ⟨st1, st2⟩ := div_step (D := bv (ys.take k)) (hi_ := bv ((xs.take l).drop q)) hD (x.b 0)
        rw [← g5] at st1 st2
        have hqb : bit qs (q - 1) = false := zero_bit g7 (by omega)
        refine ⟨⟨lb, pre_lenB p2⟩, fun r hr => ?_⟩
        rw [hR2, hR] at hr
        have hqx : qs[q - 1]? = some (qs[q - 1]'(by omega)) := List.getElem?_eq_getElem _
        refine bsplit_both (fun hy => ?_) (fun hy => ?_)
        · have hy : r ≥ 0 := by simpa using hy
          have hge : bv (ys.take k) ≤ nb (x.b 0) + 2 * bv zs := by unfold CmpR at hr; omega
          obtain ⟨s1, s2⟩ := st1 hge
          refine ⟨⟨lb, pre_lenB p2, by rw [hR2, hR]; exact hge⟩, fun zs3 e4 rm5 hz3 => must_mk (by simp; omega) (xget_mk hqx ?_)⟩
          obtain ⟨z1, z2⟩ := hz3
          rw [hR2, hR] at z1
          generalize hy6 : qs[q - 1]'(by omega) = x6 at *
          refine ⟨(qs.set (q - 1) { i := x6.i, b := fun q => match q.beq 0 with | true => true | false => x6.b q, s := x6.s }, zs3, zs3.length, e4, rm5, q - 1), ⟨by simp [g1], rfl, by simp only; omega, by simp only; omega, ?_, ?_, ?_⟩, by simp only; omega, ?_⟩
          · simp only; rw [hd, s2]; omega
          · simp only
            rw [hd, s1, bv_drop _ _ (by simp; omega), List.drop_set_of_lt (by omega), show q - 1 + 1 = q by omega, g6]
            have : bit (qs.set (q - 1) { i := x6.i, b := fun q => match q.beq 0 with | true => true | false => x6.b q, s := x6.s }) (q - 1) = true := by
              rw [bit_some (List.getElem?_set_self (by omega))]
            rw [this]; rfl
          · simp only; rw [List.take_set_of_le (by omega)]; exact bv_take_mono g7 (by omega)
          · exact Eq.trans (b := j_div s t l c r1 k d r2 xs ys (qs.set (q - 1) { i := x6.i, b := fun q => match q.beq 0 with | true => true | false => x6.b q, s := x6.s }) zs3 zs3.length e4 rm5 ((q : Int) - 1 - 1)) (by kernel_rfl) (by rw [← hq1])
        · have hy : ¬ r ≥ 0 := by simpa using hy
          have hlt : nb (x.b 0) + 2 * bv zs < bv (ys.take k) := by unfold CmpR at hr; omega
          obtain ⟨s1, s2⟩ := st2 hlt
          refine ⟨(qs, [rwA [encS x 0 Sh.b]] ++ List.take n' zs, 1 + n', c', c' * [Sh.b].length, q - 1), ⟨g1, hRl, by simp only; omega, by simp only; omega, ?_, ?_, ?_⟩, by simp only; omega, ?_⟩
          · simp only; rw [hR, hd, s2]
          · simp only; rw [hd, s1, bv_drop _ _ (by omega), hqb, show q - 1 + 1 = q by omega, g6, show nb false = 0 from rfl, Nat.zero_add]
          · simp only; exact bv_take_mono g7 (by omega)
          · exact Eq.trans (b := j_div s t l c r1 k d r2 xs ys qs ([rwA [encS x 0 Sh.b]] ++ List.take n' zs) (1 + n') c' (c' * [Sh.b].length) ((q : Int) - 1 - 1)) (by kernel_rfl) (by rw [← hq1])
      · have w1 : q = 0 := by have : ¬ (q : Int) - 1 ≥ 0 := by simpa using w1
                              omega
        subst w1
        rw [List.drop_zero] at g5 g6
        rw [List.drop_zero] at g6
        have hql : qs.take l = qs := List.take_of_length_le (by omega)
        refine ⟨⟨by omega, by omega⟩, fun k7 hk7 => ⟨⟨by omega, by omega⟩, fun k8 hk8 => ?_⟩⟩
        obtain ⟨a1, a2, a3⟩ := hk7
        obtain ⟨b1, b2, b3⟩ := hk8
        rw [hql, g6] at a2
        rw [hz, g5] at b2
        have nq := nr_bare (s := false) (xs := qs) (k := k7) (by omega) a2 a3
        have nr := nr_bare (s := false) (xs := zs) (k := k8) (by omega) b2 b3
        simp only [sv] at nq nr
        have keyD := Nat.div_add_mod (bv (xs.take l)) (bv (ys.take k))
        have ltD := Nat.mod_lt (bv (xs.take l)) (show 0 < bv (ys.take k) by omega)
        refine bsplit_both (fun hs => ?_) (fun hs => ?_)
        · have hs : s = false := by simpa using hs
          have hv : nv s xs l = (bv (xs.take l) : Int) := by unfold nv; rw [hs]; rfl
          refine ⟨⟨rfl, rfl, trivial⟩, 6, _, _, qs, _, 8, _, _, zs, _, by simp, by simp, by decide, rfl, rfl, rfl, h _ _ qs zs k7 l _ k8 e room ?_ ?_⟩
          · rw [hv, hDv, ← Int.natCast_ediv]; exact nq
          · rw [hv, hDv, ← Int.natCast_emod]; exact nr
        · have hs : s = true := by simpa using hs
          have hv : nv s xs l = -(bv (xs.take l) : Int) := by unfold nv; rw [hs]; rfl
          have lk7 : k7 ≤ 800 := by omega
          have lk8 : k8 ≤ 800 := by omega
          have hz8 := nr_zero nr
          refine bsplit_both (fun h8 => ?_) (fun h8 => ?_)
          · have h8 : k8 = 0 := by simpa using h8
            have hR0 : bv (xs.take l) % bv (ys.take k) = 0 := by have := hz8.1 h8; omega
            refine ⟨pre_of nq (by omega), fun u9 j10 h10 => ⟨rfl, ⟨rfl, rfl, trivial⟩, 6, _, _, qs, _, 8, _, _, zs, _, by simp, by simp, by decide, rfl, rfl, rfl, h _ _ qs zs j10 l _ k8 e room ?_ ?_⟩⟩
            · rw [nv_of nq] at h10
              have : nv s xs l / nv t ys k = -((bv (xs.take l) / bv (ys.take k) : Nat) : Int) := by
                rw [hv, hDv]
                refine Int.ediv_eq_of_eq_mul_left (by omega) ?_
                rw [Int.neg_mul, Int.mul_comm, ← Int.natCast_mul]
                congr 1; congr 1; omega
              rw [this]; exact h10
            · have : nv s xs l % nv t ys k = ((bv (xs.take l) % bv (ys.take k) : Nat) : Int) := by
                rw [hv, hDv, hR0]
                refine Int.emod_eq_zero_of_dvd ?_
                refine Int.dvd_neg.2 (Int.natCast_dvd_natCast.2 (Nat.dvd_of_mod_eq_zero hR0))
              rw [this]; exact nr
          · have h8 : k8 ≠ 0 := by simpa using h8
            have hR0 : bv (xs.take l) % bv (ys.take k) ≠ 0 := by have := mt hz8.2 h8; omega
            refine ⟨pre_of nq (by omega), fun u11 j12 h12 => ⟨rfl, rfl, fun u13 zs14 j15 e16 rm17 h15 => ?_⟩⟩
            rw [nv_of nq] at h12
            have j12l : j12 ≤ 800 := Nat.le_trans (nr_len (m := l) h12 (by
              have h9 := bv_take_lt qs l
              rw [hql, g6] at h9
              omega)) (by omega)
            have j15l : j15 ≤ 1 := nr_len h15 (by decide)
            refine ⟨rfl, rfl, ⟨pre_of h12 (by omega), pre_of h15 (by omega)⟩, fun u18 zs19 j20 e21 rm22 h20 => ⟨rfl, rfl, pre_of nr (by omega), fun u23 j24 h24 => ?_⟩⟩
            rw [nv_of h12, nv_of h15] at h20
            rw [nv_of nr] at h24
            have j24l : j24 ≤ 800 := Nat.le_trans (nr_len (m := n') h24 (by
              have h9 := bv_lt zs
              rw [g2, g5] at h9
              omega)) (by omega)
            refine ⟨rfl, ⟨p2, pre_of h24 (by omega)⟩, fun u25 zs26 j27 e28 rm29 h27 => ⟨⟨rfl, rfl, trivial⟩, 11, _, _, zs19, _, 12, _, _, zs26, _, by simp, by simp, by decide, rfl, rfl, rfl, h _ _ zs19 zs26 j20 e21 _ j27 e28 rm29 ?_ ?_⟩⟩
            · have hq := (Int.ediv_emod_unique (a := -(bv (xs.take l) : Int)) (b := (bv (ys.take k) : Int)) (q := -((bv (xs.take l) / bv (ys.take k) : Nat) : Int) - 1) (r := (bv (ys.take k) : Int) - ((bv (xs.take l) % bv (ys.take k) : Nat) : Int)) (by omega)).2 ⟨by
                rw [Int.mul_sub, Int.mul_neg, Int.mul_one, ← Int.natCast_mul]; omega, by omega, by omega⟩
              rw [hv, hDv, hq.1]
              have e : -((bv (xs.take l) / bv (ys.take k) : Nat) : Int) + -1 = -((bv (xs.take l) / bv (ys.take k) : Nat) : Int) - 1 := by omega
              rw [e] at h20; exact h20
            · have hq := (Int.ediv_emod_unique (a := -(bv (xs.take l) : Int)) (b := (bv (ys.take k) : Int)) (q := -((bv (xs.take l) / bv (ys.take k) : Nat) : Int) - 1) (r := (bv (ys.take k) : Int) - ((bv (xs.take l) % bv (ys.take k) : Nat) : Int)) (by omega)).2 ⟨by
                rw [Int.mul_sub, Int.mul_neg, Int.mul_one, ← Int.natCast_mul]; omega, by omega, by omega⟩
              rw [nv_of h24, hDv] at h27
              rw [hv, hDv, hq.2]
              have e : (bv (ys.take k) : Int) + -((bv (xs.take l) % bv (ys.take k) : Nat) : Int) = (bv (ys.take k) : Int) - ((bv (xs.take l) % bv (ys.take k) : Nat) : Int) := by omega
              rw [e] at h27; exact h27
    · exact h.elim
  · exact h.elim
end Go.Tb.W
