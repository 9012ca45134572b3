/- Texts of this proof, run together. -/
import Derived.Test.YtkpkhddlijokcaaT1Z0
import Derived.Test.YtkpkhddlijokcaaM20
import Derived.Test.YtkpkhddlijokcaaM16
/- The document's numbers: from halves. -/
set_option linter.all false
set_option maxRecDepth 100000
namespace Go.Tb.W
open Go Go.Proofs
variable {I : Interp O}
theorem bv_rep (n : Nat) : bv (List.replicate n (rwA [.bool false])) = 0 := by
  induction n with
  | zero => rfl
  | succ n ih => rw [List.replicate_succ, bv_cons, ih]; simp [rwA, nb]
theorem fbit (m i : Nat) (hi : i < 64) : (((m : Int).fdiv (2 ^ min ((i : Int)).toNat IntKind.u64.bits)).tmod 2 == 1) = ((m / 2 ^ i) % 2 == 1) := by
  have h1 : min ((i : Int)).toNat IntKind.u64.bits = i := by
    have : IntKind.u64.bits = 64 := rfl
    omega
  rw [h1]
  have h2 : (m : Int).fdiv (2 ^ i) = ((m / 2 ^ i : Nat) : Int) := by
    rw [Int.fdiv_eq_ediv_of_nonneg _ (Int.pow_nonneg (by decide))]
    rw [Int.natCast_ediv, Int.natCast_pow]; rfl
  rw [h2, Int.tmod_eq_emod_of_nonneg (Int.natCast_nonneg _)]
  have h3 : ((m / 2 ^ i : Nat) : Int) % 2 = ((m / 2 ^ i % 2 : Nat) : Int) := by omega
  rw [h3]
  generalize m / 2 ^ i % 2 = y
  cases hy : (y == 1)
  · have : y ≠ 1 := by simpa using hy
    simp; omega
  · have : y = 1 := by simpa using hy
    subst this; rfl
theorem mod_step (m i : Nat) : m % 2 ^ (i + 1) = m % 2 ^ i + 2 ^ i * nb ((m / 2 ^ i) % 2 == 1) := by
  rw [Nat.pow_succ, Nat.mod_mul]
  congr 2
  have := Nat.mod_lt (m / 2 ^ i) (show 0 < 2 by omega)
  generalize m / 2 ^ i % 2 = y at *
  rcases (show y = 0 ∨ y = 1 by omega) with rfl | rfl <;> rfl
theorem k_from : ∀ (args : List AV) (hp : Tr (AO O)) (nx : Nat) (K : AV → Tr (AO O) → Nat → Prop), c_from args hp nx K → ACall I P 14 args hp (fun v hp' => ∃ nx', K v hp' nx') := by
  intro args hp nx K h
  unfold c_from at h; split at h
  · rename_i h0 l0
    split at h
    · rename_i hb hg
      refine hrows mix gq2 (fn := Try.f14) (by kernel_rfl) (by kernel_rfl) (by kernel_rfl) [] [] [.int .i64 h0, .int .u64 l0] (nx := nx) rfl rfl rfl trivial rfl rfl (fun hr ho => ?_)
      simp only [rgs, rg, Bool.and_eq_true] at hr
      have hh := r_i64 hr.1; have hl := r_u64 hr.2.1
      refine (t_from I _ h0 l0).mpr ?_
      obtain ⟨m, rfl⟩ := Int.eq_ofNat_of_zero_le hl.1
      have hm : m < 18446744073709551616 := by omega
      refine ALoop.start [(0, 0), (1, 1)] [0, 1, 4, 5, 6] 2 (j_from0 h0 m) (by kernel_rfl) (by kernel_rfl) ?_
      refine ALoop.stepg [(0, 0), (1, 1), (3, 2)] [0, 1, 4, 5, 6] 3 ?_
      refine (t_from0R I _ _ h0 m).mpr ⟨by omega, fun c' h1 h2 => ?_⟩
      refine Eq.mpr (congrArg (ALoop I 0 _ _ _) (?hst : _ = j_from h0 m [rwA [.bool (((m : Int).fdiv (2 ^ min ((0 : Nat) : Int).toNat IntKind.u64.bits)).tmod 2 == 1)]] 1 c' (c' * [Sh.b].length) ((1 : Nat) : Int))) ?_
      case hst => kernel_rfl
      refine ALoop.invj (ps := [(0, 0), (1, 1), (4, 2)]) (ts := [0, 1, 4, 5, 6]) (nx := 3)
        (fun x : List Rw × Nat × Nat × Nat => j_from h0 m x.1 x.2.1 x.2.2.1 x.2.2.2 (x.2.1 : Nat)) (fun x => x.1.length = x.2.1 ∧ x.2.2.1 ≤ x.2.2.2 ∧ x.2.1 ≤ 64 ∧ bv x.1 = m % 2 ^ x.2.1) (fun x => 64 - x.2.1) (fun x hG => ?_) ([rwA [.bool (((m : Int).fdiv (2 ^ min ((0 : Nat) : Int).toNat IntKind.u64.bits)).tmod 2 == 1)]], 1, c', c' * [Sh.b].length) ⟨rfl, by simp, by simp only; omega, ?_⟩
      · obtain ⟨zs, n', e, room⟩ := x
        obtain ⟨g1, g2, g3, g4⟩ := hG
        simp only at g1 g2 g3 g4
        refine (t_fromR I _ _ h0 m zs n' e room n').mpr ?_
        have hz : zs.take n' = zs := List.take_of_length_le (by omega)
        refine bsplit_both (fun w1 => ?_) (fun w1 => ?_)
        · have w1 : n' < 64 := by have : (n' : Int) < 64 := by simpa using w1
                                  omega
          refine must_mk (by simp) (must_mk ?_ ⟨by omega, fun c'' hc1 hc2 => ?_⟩)
          · simp only [Bool.and_eq_true, Nat.ble_eq, List.length_cons, List.length_nil]; exact ⟨⟨by omega, by omega⟩, rfl⟩
          rw [s_i64 (n := (n' : Int) + 1) (by omega)]
          refine ⟨(zs.take n' ++ [rwA [.bool (((m : Int).fdiv (2 ^ min ((n' : Int)).toNat IntKind.u64.bits)).tmod 2 == 1)]], n' + 1, c'', c'' * [Sh.b].length), ⟨by simp [hz, g1], by simp, w1, ?_⟩, by simp only; omega, by kernel_rfl⟩
          simp only
          rw [fbit m n' w1, hz, bv_app, bv_one, g1, g4, mod_step]
        · have w1 : n' = 64 := by have : ¬ (n' : Int) < 64 := by simpa using w1
                                  omega
          subst w1
          have hmv : bv zs = m := by rw [g4]; exact Nat.mod_eq_of_lt (by simpa using hm)
          intro u zs2 j e2 rm2 hu
          have hj : j ≤ 64 := nr_len hu (by omega)
          have hT : Int.toNat (64 : Int) = 64 := rfl
          have hW : List.take (Int.toNat (64 : Int)) (List.replicate (Int.toNat (64 : Int)) (rwA (acells (AV.bool false)))) = List.replicate 64 (rwA [.bool false]) := by rw [hT, List.take_of_length_le (by simp)]; rfl
          rw [hW, hT]
          refine ⟨by decide, rfl, must_mk (by rw [Nat.ble_eq]; exact hu.1) ⟨by omega, fun c2 hc1 hc2 => ⟨⟨by omega, by omega⟩, fun k7 hk7 => ⟨rfl, ⟨by have := hu.1; simp only [List.length_append, List.length_replicate, List.length_take]; omega, by omega⟩, fun k8 hk8 => ?_⟩⟩⟩⟩
          obtain ⟨a1, a2, a3⟩ := hk7
          rw [hz, hmv] at a2
          have n7 := nr_bare (s := false) (xs := zs) (k := k7) (V := m) (by omega) a2 a3
          obtain ⟨b1, b2, b3⟩ := hk8
          have hlen : (List.replicate 64 (rwA [.bool false]) ++ List.take j zs2).length = 64 + j := by simp only [List.length_append, List.length_replicate, List.length_take]; have := hu.1; omega
          have hval : bv (List.take (64 + j) (List.replicate 64 (rwA [.bool false]) ++ List.take j zs2)) = 2 ^ 64 * bv (zs2.take j) := by
            rw [List.take_of_length_le (by omega), bv_app, bv_rep, List.length_replicate]; omega
          rw [hval] at b2
          have n8 := nr_bare (s := u) (by omega) b2 b3
          have v8 : sv u (2 ^ 64 * bv (zs2.take j)) = 18446744073709551616 * h0 := by
            have := hu.2.2.1
            have e : (2 : Nat) ^ 64 = 18446744073709551616 := by decide
            rw [e, ← this]; cases u <;> simp only [sv] <;> omega
          rw [v8] at n8
          refine ⟨⟨pre_of n7 (by omega), pre_of n8 (by omega)⟩, fun u9 zs10 j11 e12 rm13 h9 => ⟨trivial, .inr ⟨7, _, _, zs10, rm13, hb, hg, Nat.zero_le _, rfl, rfl, h u9 zs10 j11 e12 rm13 ?_⟩⟩⟩
          rw [nv_of n7, nv_of n8] at h9
          have ev : sv false m + 18446744073709551616 * h0 = vl h0 m := by unfold vl; simp only [sv]; omega
          rw [ev] at h9
          exact h9
      · have := mod_step m 0
        rw [fbit m 0 (by decide), bv_one]
        simpa [Nat.mod_one] using this.symm
    · exact h.elim
  · exact h.elim
end Go.Tb.W

/- The document's numbers: products, parts. -/
set_option linter.all false
set_option maxRecDepth 100000
namespace Go.Tb.W
open Go Go.Proofs
variable {I : Interp O}
theorem bv_drop (xs : List Rw) (m : Nat) (h : m < xs.length) : bv (xs.drop m) = nb (bit xs m) + 2 * bv (xs.drop (m + 1)) := by
  have hx : xs[m]? = some xs[m] := List.getElem?_eq_getElem h
  rw [List.drop_eq_getElem_cons h, bv_cons, bit_some hx]
theorem k_rtimes : ∀ (args : List AV) (hp : Tr (AO O)) (nx : Nat) (K : AV → Tr (AO O) → Nat → Prop), c_rtimes args hp nx K → ACall I P 45 args hp (fun v hp' => ∃ nx', K v hp' nx') := by
  intro args hp nx K h
  unfold c_rtimes at h; split at h
  · rename_i s n l c t m k d
    split at h
    · rename_i xs r1 ys r2 hb hg1 hg2 hgx
      simp only [Bool.and_eq_true] at hb
      obtain ⟨⟨⟨hb1, hb2⟩, hb3⟩, hb4⟩ := hb
      obtain ⟨⟨p1, p2, hlk⟩, h⟩ := h
      refine hrows mix gq2 (fn := Try.f45) (by kernel_rfl) (by kernel_rfl) (by kernel_rfl) [n, m] [bo xs r1, bo ys r2] [.agg [.bool s, .sl 0 0 l c], .agg [.bool t, .sl 1 0 k d]] (nx := nx) rfl (uniq2 hb1 hb2 hb4) rfl ⟨hg1, hg2, trivial⟩ rfl rfl (fun hr ho => ?_)
      refine (t_rtimes I _ s t l c r1 k d r2 xs ys).mpr ?_
      have hxl := p1.1.1
      have hyl := p2.1.1
      have hB : (ys.take k).length = k := by rw [List.length_take]; omega
      rw [s_i64 (n := (k : Int) - 1) (by omega)]
      refine ALoop.weak (Weak.asRows (n := 5) (l := 0) (sh := [.b]) (xs := []) rfl rfl rfl rfl) ?_
      refine ALoop.start [(2, 2), (3, 3), (4, 4), (5, 5)] [2, 3, 4, 5, 6] 6 (j_times s t l c r1 k d r2 xs ys [] 0 0 0 ((k : Int) - 1)) (by kernel_rfl) (by kernel_rfl) ?_
      refine ALoop.invjL (pss := [[(2, 2), (3, 3), (4, 4), (7, 5)], [(2, 2), (3, 3), (4, 4), (8, 5)]]) (ts := [2, 3, 4, 5, 6]) (nx := 6) (fun x : List Rw × Nat × Nat × Nat × Nat => j_times s t l c r1 k d r2 xs ys x.1 x.2.1 x.2.2.1 x.2.2.2.1 ((x.2.2.2.2 : Int) - 1))
        (fun x => x.1.length = x.2.1 ∧ x.2.2.2.2 ≤ k ∧ x.2.1 ≤ l + 2 * (k - x.2.2.2.2) ∧ bv x.1 = bv (xs.take l) * bv ((ys.take k).drop x.2.2.2.2)) (fun x => x.2.2.2.2) (fun x hG => ?_) ([], 0, 0, 0, k) ⟨rfl, Nat.le_refl _, Nat.zero_le _, by simp only; rw [List.drop_of_length_le (by rw [hB]; exact Nat.le_refl _)]; simp [bv]⟩
      obtain ⟨zs, n', e, room, q⟩ := x
      obtain ⟨g1, g2, g3, g4⟩ := hG
      simp only at g1 g2 g3 g4
      refine (t_timesR I _ _ s t l c r1 k d r2 xs ys zs n' e room ((q : Int) - 1)).mpr ?_
      have hz : zs.take n' = zs := List.take_of_length_le (by omega)
      refine bsplit_both (fun w1 => ?_) (fun w1 => ?_)
      · have w1 : 1 ≤ q := by have : (q : Int) - 1 ≥ 0 := by simpa using w1
                              omega
        refine must_mk (by rw [Nat.ble_eq]; omega) ⟨by omega, fun c' hc1 hc2 => must_mk (by simp; omega) ?_⟩
        rw [show ((q : Int) - 1).toNat = q - 1 by omega, s_i64 (n := (q : Int) - 1 - 1) (by omega)]
        have hx' : ys[q - 1]? = some (ys[q - 1]'(by omega)) := List.getElem?_eq_getElem _
        refine xget_mk hx' ?_
        have hbit : bit (ys.take k) (q - 1) = (ys[q - 1]'(by omega)).b 0 := by rw [bit_take (by omega), bit_some hx']
        generalize ys[q - 1]'(by omega) = y at *
        have hd := bv_drop (ys.take k) (q - 1) (by omega)
        rw [show q - 1 + 1 = q by omega, hbit] at hd
        have hR : bv ([rwA [AV.bool false]] ++ List.take n' zs) = 2 * bv zs := by rw [hz, bv_app, bv_one]; simp [nb]
        have hRl : ([rwA [AV.bool false]] ++ List.take n' zs).length = 1 + n' := by rw [hz]; simp [g1, Nat.add_comm]
        have hR2 : List.take (1 + n') ([rwA [AV.bool false]] ++ List.take n' zs) = [rwA [AV.bool false]] ++ List.take n' zs := List.take_of_length_le (by omega)
        have hq1 : ((q - 1 : Nat) : Int) - 1 = (q : Int) - 1 - 1 := by omega
        refine bsplit_both (fun hy => ?_) (fun hy => ?_)
        · refine ⟨⟨⟨by omega, by omega⟩, ⟨hxl, by omega⟩⟩, fun zs2 e3 rm4 hz2 => ?_⟩
          obtain ⟨z1, z2⟩ := hz2
          rw [hR2, hR] at z1
          have hmx : Nat.max (1 + n') l ≤ l + 2 * (k - q) + 1 := Nat.max_le.2 ⟨by omega, by omega⟩
          refine ⟨(zs2, zs2.length, e3, rm4, q - 1), ⟨rfl, by simp only; omega, by simp only; omega, ?_⟩, by simp only; omega, ?_⟩
          · simp only
            rw [z1, hd, hy, g4, Nat.mul_add, show nb true = 1 from rfl, Nat.mul_one, Nat.mul_left_comm]; omega
          · exact Eq.trans (b := j_times s t l c r1 k d r2 xs ys zs2 zs2.length e3 rm4 ((q : Int) - 1 - 1)) (by kernel_rfl) (by rw [← hq1])
        · refine ⟨([rwA [AV.bool false]] ++ List.take n' zs, 1 + n', c', c' * [Sh.b].length, q - 1), ⟨hRl, by simp only; omega, by simp only; omega, ?_⟩, by simp only; omega, ?_⟩
          · simp only
            rw [hR, hd, hy, g4, show nb false = 0 from rfl, Nat.zero_add, Nat.mul_left_comm]
          · exact Eq.trans (b := j_times s t l c r1 k d r2 xs ys ([rwA [AV.bool false]] ++ List.take n' zs) (1 + n') c' (c' * [Sh.b].length) ((q : Int) - 1 - 1)) (by kernel_rfl) (by rw [← hq1])
      · have w1 : q = 0 := by have : ¬ (q : Int) - 1 ≥ 0 := by simpa using w1
                              omega
        subst w1
        rw [List.drop_zero] at g4
        refine ⟨⟨by omega, by omega⟩, fun k5 hk => ⟨⟨rfl, rfl, trivial⟩, .inr ⟨5, _, _, zs, room, hb3, hgx, by simp, rfl, rfl, ?_⟩⟩⟩
        obtain ⟨a1, a2, a3⟩ := hk
        rw [hz, g4] at a2
        refine h _ zs k5 e room ?_
        have := nr_bare (s := !(s == t)) (xs := zs) (k := k5) (by omega) a2 a3
        have ev : sv (!(s == t)) (bv (xs.take l) * bv (ys.take k)) = nv s xs l * nv t ys k := by
          have hm : ((bv (xs.take l) * bv (ys.take k) : Nat) : Int) = (bv (xs.take l) : Int) * (bv (ys.take k) : Int) := Int.natCast_mul _ _
          unfold nv
          cases s <;> cases t
          · exact hm
          · show -((bv (xs.take l) * bv (ys.take k) : Nat) : Int) = (bv (xs.take l) : Int) * -(bv (ys.take k) : Int)
            rw [hm, Int.mul_neg]
          · show -((bv (xs.take l) * bv (ys.take k) : Nat) : Int) = -(bv (xs.take l) : Int) * (bv (ys.take k) : Int)
            rw [hm, Int.neg_mul]
          · show ((bv (xs.take l) * bv (ys.take k) : Nat) : Int) = -(bv (xs.take l) : Int) * -(bv (ys.take k) : Int)
            rw [hm, Int.neg_mul_neg]
        rw [ev] at this
        exact this
    · exact h.elim
  · exact h.elim
theorem zero_bit {qs : List Rw} {m i : Nat} (h : bv (qs.take m) = 0) (hi : i < m) : bit qs i = false := by
  have h1 := bv_succ qs i
  have h2 := bv_take_le (qs.take m) (i + 1)
  rw [List.take_take, Nat.min_eq_left (by omega)] at h2
  cases hb : bit qs i with
  | false => rfl
  | true =>
    rw [hb] at h1
    have : 0 < 2 ^ i := Nat.two_pow_pos _
    simp only [nb, Nat.mul_one] at h1; omega
theorem bv_take_mono {qs : List Rw} {m i : Nat} (h : bv (qs.take m) = 0) (hi : i ≤ m) : bv (qs.take i) = 0 := by
  have h2 := bv_take_le (qs.take m) i
  rw [List.take_take, Nat.min_eq_left hi] at h2; omega
theorem div_step {D hi_ : Nat} (hD : 1 ≤ D) (b : Bool) : (D ≤ nb b + 2 * (hi_ % D) → (nb b + 2 * hi_) / D = 1 + 2 * (hi_ / D) ∧ (nb b + 2 * hi_) % D = nb b + 2 * (hi_ % D) - D) ∧ (nb b + 2 * (hi_ % D) < D → (nb b + 2 * hi_) / D = 2 * (hi_ / D) ∧ (nb b + 2 * hi_) % D = nb b + 2 * (hi_ % D)) := by
  have hb : nb b ≤ 1 := by cases b <;> simp [nb]
  have h1 := Nat.div_add_mod hi_ D
  have h2 := Nat.mod_lt hi_ (show 0 < D by omega)
  generalize hq : hi_ / D = q at *
  generalize hr : hi_ % D = r at *
  constructor
  · intro h
    have e : nb b + 2 * hi_ = (nb b + 2 * r - D) + D * (1 + 2 * q) := by
      rw [Nat.mul_add, Nat.mul_one, Nat.mul_left_comm]; omega
    rw [e, Nat.add_mul_div_left _ _ (by omega), Nat.add_mul_mod_self_left, Nat.div_eq_of_lt (by omega), Nat.mod_eq_of_lt (by omega)]
    exact ⟨by omega, rfl⟩
  · intro h
    have e : nb b + 2 * hi_ = (nb b + 2 * r) + D * (2 * q) := by
      rw [Nat.mul_left_comm]; omega
    rw [e, Nat.add_mul_div_left _ _ (by omega), Nat.add_mul_mod_self_left, Nat.div_eq_of_lt (by omega), Nat.mod_eq_of_lt (by omega)]
    exact ⟨by omega, rfl⟩
theorem k_rdiv : ∀ (args : List AV) (hp : Tr (AO O)) (nx : Nat) (K : AV → Tr (AO O) → Nat → Prop), c_rdiv args hp nx K → ACall I P 44 args hp (fun v hp' => ∃ nx', K v hp' nx') := by
  intro args hp nx K h
  unfold c_rdiv at h; split at h
  · rename_i s n l c t m k d
    split at h
    · rename_i xs r1 ys r2 hb hg1 hg2 hgx hgx2
      simp only [Bool.and_eq_true] at hb
      obtain ⟨⟨⟨hb1, hb2⟩, hb3⟩, hb4⟩ := hb
      obtain ⟨⟨p1, p2, L1, L2, hD0⟩, h⟩ := h
      refine hrows2 mix gq2 (fn := Try.f44) (by kernel_rfl) (by kernel_rfl) (by kernel_rfl) [n, m] [bo xs r1, bo ys r2] [.agg [.bool s, .sl 0 0 l c], .agg [.bool t, .sl 1 0 k d]] (nx := nx) rfl (uniq2 hb1 hb2 hb4) rfl ⟨hg1, hg2, trivial⟩ rfl rfl hgx hgx2 hb3 (fun hr ho => ?_)
      refine (t_rdiv I _ s t l c r1 k d r2 xs ys).mpr ⟨⟨by omega, by omega, by omega⟩, ?_⟩
      have hxl := p1.1.1
      have hyl := p2.1.1
      have ha1 := pre_abs p1
      have ha2 := pre_abs p2
      have hsg := pre_sign p1
      have hD : 1 ≤ bv (ys.take k) := by omega
      have hDv : nv t ys k = (bv (ys.take k) : Int) := by omega
      have hA : (xs.take l).length = l := by rw [List.length_take]; omega
      rw [s_i64 (n := (l : Int) - 1) (by omega)]
      refine ALoop.weak (Weak.asRows (n := 8) (l := 0) (sh := [.b]) (xs := []) rfl rfl rfl rfl) ?_
      refine ALoop.start [(2, 2), (3, 3), (4, 4), (5, 5), (6, 6), (7, 7), (8, 8)] [2, 3, 4, 5, 6, 7, 8] 9 (j_div s t l c r1 k d r2 xs ys (List.replicate l (rwA [.bool false])) [] 0 0 0 ((l : Int) - 1)) (by kernel_rfl) (by kernel_rfl) ?_
      refine ALoop.invjL (pss := [[(2, 2), (3, 3), (4, 4), (5, 5), (6, 6), (7, 7), (10, 8)], [(2, 2), (3, 3), (4, 4), (5, 5), (6, 6), (7, 7), (11, 8)]]) (ts := [2, 3, 4, 5, 6, 7, 8]) (nx := 9) (fun x : List Rw × List Rw × Nat × Nat × Nat × Nat => j_div s t l c r1 k d r2 xs ys x.1 x.2.1 x.2.2.1 x.2.2.2.1 x.2.2.2.2.1 ((x.2.2.2.2.2 : Int) - 1))
        (fun x => x.1.length = l ∧ x.2.1.length = x.2.2.1 ∧ x.2.2.2.2.2 ≤ l ∧ x.2.2.1 = l - x.2.2.2.2.2 ∧ bv x.2.1 = bv ((xs.take l).drop x.2.2.2.2.2) % bv (ys.take k) ∧ bv (x.1.drop x.2.2.2.2.2) = bv ((xs.take l).drop x.2.2.2.2.2) / bv (ys.take k) ∧ bv (x.1.take x.2.2.2.2.2) = 0) (fun x => x.2.2.2.2.2) (fun x hG => ?_) (List.replicate l (rwA [.bool false]), [], 0, 0, 0, l)
        ⟨by simp, rfl, Nat.le_refl _, by simp, by simp only; rw [List.drop_of_length_le (by rw [hA]; exact Nat.le_refl _)]; simp [bv], by simp only; rw [List.drop_of_length_le (by simp), List.drop_of_length_le (by rw [hA]; exact Nat.le_refl _)]; simp [bv], by simp only; rw [List.take_of_length_le (by simp)]; exact bv_rep l⟩
      obtain ⟨qs, zs, n', e, room, q⟩ := x
      obtain ⟨g1, g2, g3, g4, g5, g6, g7⟩ := hG
      simp only at g1 g2 g3 g4 g5 g6 g7
      refine (t_divR I _ _ s t l c r1 k d r2 xs ys qs zs n' e room ((q : Int) - 1)).mpr ?_
      have hz : zs.take n' = zs := List.take_of_length_le (by omega)
      refine bsplit_both (fun w1 => ?_) (fun w1 => ?_)
      · have w1 : 1 ≤ q := by have : (q : Int) - 1 ≥ 0 := by simpa using w1
                              omega
        refine must_mk (by simp; omega) ?_
        rw [show ((q : Int) - 1).toNat = q - 1 by omega, s_i64 (n := (q : Int) - 1 - 1) (by omega)]
        have hx' : xs[q - 1]? = some (xs[q - 1]'(by omega)) := List.getElem?_eq_getElem _
        refine xget_mk hx' ?_
        have hbit : bit (xs.take l) (q - 1) = (xs[q - 1]'(by omega)).b 0 := by rw [bit_take (by omega), bit_some hx']
        generalize xs[q - 1]'(by omega) = x at *
        have hd := bv_drop (xs.take l) (q - 1) (by omega)
        rw [show q - 1 + 1 = q by omega, hbit] at hd
        refine must_mk (by rw [Nat.ble_eq]; omega) ⟨by omega, fun c' hc1 hc2 => ?_⟩
        have hR : bv ([rwA [encS x 0 Sh.b]] ++ List.take n' zs) = nb (x.b 0) + 2 * bv zs := by
          rw [hz, bv_app]
          show bv [rwA [AV.bool (x.b 0)]] + _ = _
          rw [bv_one]; simp
        have hRl : ([rwA [encS x 0 Sh.b]] ++ List.take n' zs).length = 1 + n' := by rw [hz]; simp [g2, Nat.add_comm]
        have hR2 : List.take (1 + n') ([rwA [encS x 0 Sh.b]] ++ List.take n' zs) = [rwA [encS x 0 Sh.b]] ++ List.take n' zs := List.take_of_length_le (by omega)
        have hq1 : ((q - 1 : Nat) : Int) - 1 = (q : Int) - 1 - 1 := by omega
        have lb : lenB ([rwA [encS x 0 Sh.b]] ++ List.take n' zs) (1 + n') := ⟨by omega, by omega⟩
        obtain ⟨st1, st2⟩ := div_step (D := bv (ys.take k)) (hi_ := bv ((xs.take l).drop q)) hD (x.b 0)
        rw [← g5] at st1 st2
        have hqb : bit qs (q - 1) = false := zero_bit g7 (by omega)
        refine ⟨⟨lb, pre_lenB p2⟩, fun r hr => ?_⟩
        rw [hR2, hR] at hr
        have hqx : qs[q - 1]? = some (qs[q - 1]'(by omega)) := List.getElem?_eq_getElem _
        refine bsplit_both (fun hy => ?_) (fun hy => ?_)
        · have hy : r ≥ 0 := by simpa using hy
          have hge : bv (ys.take k) ≤ nb (x.b 0) + 2 * bv zs := by unfold CmpR at hr; omega
          obtain ⟨s1, s2⟩ := st1 hge
          refine ⟨⟨lb, pre_lenB p2, by rw [hR2, hR]; exact hge⟩, fun zs3 e4 rm5 hz3 => must_mk (by simp; omega) (xget_mk hqx ?_)⟩
          obtain ⟨z1, z2⟩ := hz3
          rw [hR2, hR] at z1
          generalize hy6 : qs[q - 1]'(by omega) = x6 at *
          refine ⟨(qs.set (q - 1) { i := x6.i, b := fun q => match q.beq 0 with | true => true | false => x6.b q, s := x6.s }, zs3, zs3.length, e4, rm5, q - 1), ⟨by simp [g1], rfl, by simp only; omega, by simp only; omega, ?_, ?_, ?_⟩, by simp only; omega, ?_⟩
          · simp only; rw [hd, s2]; omega
          · simp only
            rw [hd, s1, bv_drop _ _ (by simp; omega), List.drop_set_of_lt (by omega), show q - 1 + 1 = q by omega, g6]
            have : bit (qs.set (q - 1) { i := x6.i, b := fun q => match q.beq 0 with | true => true | false => x6.b q, s := x6.s }) (q - 1) = true := by
              rw [bit_some (List.getElem?_set_self (by omega))]
            rw [this]; rfl
          · simp only; rw [List.take_set_of_le (by omega)]; exact bv_take_mono g7 (by omega)
          · exact Eq.trans (b := j_div s t l c r1 k d r2 xs ys (qs.set (q - 1) { i := x6.i, b := fun q => match q.beq 0 with | true => true | false => x6.b q, s := x6.s }) zs3 zs3.length e4 rm5 ((q : Int) - 1 - 1)) (by kernel_rfl) (by rw [← hq1])
        · have hy : ¬ r ≥ 0 := by simpa using hy
          have hlt : nb (x.b 0) + 2 * bv zs < bv (ys.take k) := by unfold CmpR at hr; omega
          obtain ⟨s1, s2⟩ := st2 hlt
          refine ⟨(qs, [rwA [encS x 0 Sh.b]] ++ List.take n' zs, 1 + n', c', c' * [Sh.b].length, q - 1), ⟨g1, hRl, by simp only; omega, by simp only; omega, ?_, ?_, ?_⟩, by simp only; omega, ?_⟩
          · simp only; rw [hR, hd, s2]
          · simp only; rw [hd, s1, bv_drop _ _ (by omega), hqb, show q - 1 + 1 = q by omega, g6, show nb false = 0 from rfl, Nat.zero_add]
          · simp only; exact bv_take_mono g7 (by omega)
          · exact Eq.trans (b := j_div s t l c r1 k d r2 xs ys qs ([rwA [encS x 0 Sh.b]] ++ List.take n' zs) (1 + n') c' (c' * [Sh.b].length) ((q : Int) - 1 - 1)) (by kernel_rfl) (by rw [← hq1])
      · have w1 : q = 0 := by have : ¬ (q : Int) - 1 ≥ 0 := by simpa using w1
                              omega
        subst w1
        rw [List.drop_zero] at g5 g6
        rw [List.drop_zero] at g6
        have hql : qs.take l = qs := List.take_of_length_le (by omega)
        refine ⟨⟨by omega, by omega⟩, fun k7 hk7 => ⟨⟨by omega, by omega⟩, fun k8 hk8 => ?_⟩⟩
        obtain ⟨a1, a2, a3⟩ := hk7
        obtain ⟨b1, b2, b3⟩ := hk8
        rw [hql, g6] at a2
        rw [hz, g5] at b2
        have nq := nr_bare (s := false) (xs := qs) (k := k7) (by omega) a2 a3
        have nr := nr_bare (s := false) (xs := zs) (k := k8) (by omega) b2 b3
        simp only [sv] at nq nr
        have keyD := Nat.div_add_mod (bv (xs.take l)) (bv (ys.take k))
        have ltD := Nat.mod_lt (bv (xs.take l)) (show 0 < bv (ys.take k) by omega)
        refine bsplit_both (fun hs => ?_) (fun hs => ?_)
        · have hs : s = false := by simpa using hs
          have hv : nv s xs l = (bv (xs.take l) : Int) := by unfold nv; rw [hs]; rfl
          refine ⟨⟨rfl, rfl, trivial⟩, 6, _, _, qs, _, 8, _, _, zs, _, by simp, by simp, by decide, rfl, rfl, rfl, h _ _ qs zs k7 l _ k8 e room ?_ ?_⟩
          · rw [hv, hDv, ← Int.natCast_ediv]; exact nq
          · rw [hv, hDv, ← Int.natCast_emod]; exact nr
        · have hs : s = true := by simpa using hs
          have hv : nv s xs l = -(bv (xs.take l) : Int) := by unfold nv; rw [hs]; rfl
          have lk7 : k7 ≤ 800 := by omega
          have lk8 : k8 ≤ 800 := by omega
          have hz8 := nr_zero nr
          refine bsplit_both (fun h8 => ?_) (fun h8 => ?_)
          · have h8 : k8 = 0 := by simpa using h8
            have hR0 : bv (xs.take l) % bv (ys.take k) = 0 := by have := hz8.1 h8; omega
            refine ⟨pre_of nq (by omega), fun u9 j10 h10 => ⟨rfl, ⟨rfl, rfl, trivial⟩, 6, _, _, qs, _, 8, _, _, zs, _, by simp, by simp, by decide, rfl, rfl, rfl, h _ _ qs zs j10 l _ k8 e room ?_ ?_⟩⟩
            · rw [nv_of nq] at h10
              have : nv s xs l / nv t ys k = -((bv (xs.take l) / bv (ys.take k) : Nat) : Int) := by
                rw [hv, hDv]
                refine Int.ediv_eq_of_eq_mul_left (by omega) ?_
                rw [Int.neg_mul, Int.mul_comm, ← Int.natCast_mul]
                congr 1; congr 1; omega
              rw [this]; exact h10
            · have : nv s xs l % nv t ys k = ((bv (xs.take l) % bv (ys.take k) : Nat) : Int) := by
                rw [hv, hDv, hR0]
                refine Int.emod_eq_zero_of_dvd ?_
                refine Int.dvd_neg.2 (Int.natCast_dvd_natCast.2 (Nat.dvd_of_mod_eq_zero hR0))
              rw [this]; exact nr
          · have h8 : k8 ≠ 0 := by simpa using h8
            have hR0 : bv (xs.take l) % bv (ys.take k) ≠ 0 := by have := mt hz8.2 h8; omega
            refine ⟨pre_of nq (by omega), fun u11 j12 h12 => ⟨rfl, rfl, fun u13 zs14 j15 e16 rm17 h15 => ?_⟩⟩
            rw [nv_of nq] at h12
            have j12l : j12 ≤ 800 := Nat.le_trans (nr_len (m := l) h12 (by
              have h9 := bv_take_lt qs l
              rw [hql, g6] at h9
              omega)) (by omega)
            have j15l : j15 ≤ 1 := nr_len h15 (by decide)
            refine ⟨rfl, rfl, ⟨pre_of h12 (by omega), pre_of h15 (by omega)⟩, fun u18 zs19 j20 e21 rm22 h20 => ⟨rfl, rfl, pre_of nr (by omega), fun u23 j24 h24 => ?_⟩⟩
            rw [nv_of h12, nv_of h15] at h20
            rw [nv_of nr] at h24
            have j24l : j24 ≤ 800 := Nat.le_trans (nr_len (m := n') h24 (by
              have h9 := bv_lt zs
              rw [g2, g5] at h9
              omega)) (by omega)
            refine ⟨rfl, ⟨p2, pre_of h24 (by omega)⟩, fun u25 zs26 j27 e28 rm29 h27 => ⟨⟨rfl, rfl, trivial⟩, 11, _, _, zs19, _, 12, _, _, zs26, _, by simp, by simp, by decide, rfl, rfl, rfl, h _ _ zs19 zs26 j20 e21 _ j27 e28 rm29 ?_ ?_⟩⟩
            · have hq := (Int.ediv_emod_unique (a := -(bv (xs.take l) : Int)) (b := (bv (ys.take k) : Int)) (q := -((bv (xs.take l) / bv (ys.take k) : Nat) : Int) - 1) (r := (bv (ys.take k) : Int) - ((bv (xs.take l) % bv (ys.take k) : Nat) : Int)) (by omega)).2 ⟨by
                rw [Int.mul_sub, Int.mul_neg, Int.mul_one, ← Int.natCast_mul]; omega, by omega, by omega⟩
              rw [hv, hDv, hq.1]
              have e : -((bv (xs.take l) / bv (ys.take k) : Nat) : Int) + -1 = -((bv (xs.take l) / bv (ys.take k) : Nat) : Int) - 1 := by omega
              rw [e] at h20; exact h20
            · have hq := (Int.ediv_emod_unique (a := -(bv (xs.take l) : Int)) (b := (bv (ys.take k) : Int)) (q := -((bv (xs.take l) / bv (ys.take k) : Nat) : Int) - 1) (r := (bv (ys.take k) : Int) - ((bv (xs.take l) % bv (ys.take k) : Nat) : Int)) (by omega)).2 ⟨by
                rw [Int.mul_sub, Int.mul_neg, Int.mul_one, ← Int.natCast_mul]; omega, by omega, by omega⟩
              rw [nv_of h24, hDv] at h27
              rw [hv, hDv, hq.2]
              have e : (bv (ys.take k) : Int) + -((bv (xs.take l) % bv (ys.take k) : Nat) : Int) = (bv (ys.take k) : Int) - ((bv (xs.take l) % bv (ys.take k) : Nat) : Int) := by omega
              rw [e] at h27; exact h27
    · exact h.elim
  · exact h.elim
end Go.Tb.W

/- The document's numbers: Part; the lists of what the laws' texts call. -/
set_option linter.all false
set_option maxRecDepth 100000
namespace Go.Tb.W
open Go Go.Proofs
variable {I : Interp O}
theorem gq3 : GOk I P (Gm Q3) := by
  refine Gm.consH ?_ k_from
  refine Gm.consH ?_ k_rcmp
  refine Gm.consH ?_ k_fits
  refine Gm.consH ?_ k_rwide
  refine Gm.consH ?_ k_rtimes
  refine Gm.consH ?_ k_rdiv
  exact gq2
/-- A number of few bits. -/
theorem nrp {s : Bool} {xs : List Rw} {k : Nat} {v : Int} (m : Nat) (h : NR s xs k v) (hm : m ≤ 800) (hv : v.natAbs < 2 ^ m) : Pre s xs k ∧ k ≤ m := by
  have := nr_len h hv
  exact ⟨pre_of h (by omega), this⟩
theorem nr64 {s : Bool} {xs : List Rw} {k : Nat} {v : Int} (h : NR s xs k v) (hv : -9223372036854775808 ≤ v ∧ v ≤ 9223372036854775807) : Pre s xs k ∧ k ≤ 64 := nrp 64 h (by decide) (by omega)
theorem nr128 {s : Bool} {xs : List Rw} {k : Nat} {v : Int} (h : NR s xs k v) (hv : -170141183460469231731687303715884105728 ≤ v ∧ v ≤ 170141183460469231731687303715884105727) : Pre s xs k ∧ k ≤ 128 := nrp 128 h (by decide) (by omega)
theorem nr256 {s : Bool} {xs : List Rw} {k : Nat} {v : Int} (h : NR s xs k v) (hv : -340282366920938463463374607431768211456 ≤ v ∧ v ≤ 340282366920938463463374607431768211456) : Pre s xs k ∧ k ≤ 130 := nrp 130 h (by decide) (by omega)
theorem fits63 {v : Int} {b : Bool} (h : FitsR v 63 b) : b = true ↔ -9223372036854775808 ≤ v ∧ v ≤ 9223372036854775807 := by
  have h : b = true ↔ -(9223372036854775808 : Int) ≤ v ∧ v < 9223372036854775808 := h
  rw [h]; omega
theorem fits127 {v : Int} {b : Bool} (h : FitsR v 127 b) : b = true ↔ -170141183460469231731687303715884105728 ≤ v ∧ v ≤ 170141183460469231731687303715884105727 := by
  have h : b = true ↔ -(170141183460469231731687303715884105728 : Int) ≤ v ∧ v < 170141183460469231731687303715884105728 := h
  rw [h]; omega
/-- The low half, as a signed number. -/
theorem wide_low {v h l : Int} (w : WideR v h l) (hv : -9223372036854775808 ≤ v ∧ v ≤ 9223372036854775807) : IntKind.i64.wrap l = v := by
  obtain ⟨h1, h2, h3, _⟩ := w
  rw [w_i64]; omega
theorem k_rpart : ∀ (args : List AV) (K : AV → Prop), c_rpart args K → ∀ hp, ACall I P 26 args hp (fun v hp' => K v ∧ hp' = hp) := by
  intro args K h hp
  unfold c_rpart at h; split at h
  · rename_i a b y
    refine pcall mix gq3 (fn := Try.f26) (by kernel_rfl) (by kernel_rfl) (by kernel_rfl) rfl rfl (fun hr => ?_) hp
    simp only [rgs, rg, Bool.and_eq_true] at hr
    have ha := r_i64 hr.1; have hb := r_i64 hr.2.1; have hy := r_i64 hr.2.2.1
    refine (t_rpart I (fun v => K v ∧ cl v = true) a b y).mpr ?_
    refine bsplit_both (fun hx => ⟨h 0 1 (.inl ⟨by simpa using hx, rfl, rfl⟩), rfl⟩) (fun hx => ?_)
    have hy1 : 1 ≤ y := by simpa using hx
    have hm := mul_bd ha hb
    intro u0 zs1 j2 e3 r4 n1 u5 zs6 j7 e8 r9 n2
    obtain ⟨p1, l1⟩ := nr64 n1 ha
    obtain ⟨p2, l2⟩ := nr64 n2 hb
    refine ⟨⟨p1, p2, by omega⟩, ?_⟩
    rw [nv_of n1, nv_of n2]
    intro u10 zs11 j12 e13 r14 n3 u15 zs16 j17 e18 r19 n4
    obtain ⟨p3, l3⟩ := nr128 n3 (by omega)
    obtain ⟨p4, l4⟩ := nr64 n4 hy
    refine ⟨⟨p3, p4, by omega, by omega, by rw [nv_of n4]; exact hy1⟩, ?_⟩
    rw [nv_of n3, nv_of n4]
    have hd := div_bd (x := a * b) (by omega) hy1
    intro u20 u21 zs22 zs23 j24 e25 r26 j27 e28 r29 n5 n6
    obtain ⟨p5, l5⟩ := nr128 n5 hd
    refine ⟨⟨p5, by omega, by unfold powOk; omega⟩, ?_⟩
    rw [nv_of n5]
    intro b30 f30
    have f := fits63 f30
    refine bsplit_both (fun hx => ?_) (fun hx => ?_)
    · have : b30 = false := by simpa using hx
      rw [this] at f; simp only [Bool.false_eq_true, false_iff] at f
      exact ⟨h 0 6 (.inr ⟨hy1, .inr ⟨rfl, rfl, by generalize a * b / y = q at *; omega⟩⟩), rfl⟩
    · have : b30 = true := by simpa using hx
      have f := f.1 this
      refine ⟨⟨p5, by omega⟩, fun h' l' w => ?_⟩
      rw [wide_low w f]
      exact ⟨h _ 0 (.inr ⟨hy1, .inl ⟨rfl, rfl, f⟩⟩), rfl⟩
  · exact h.elim
end Go.Tb.W

/- The clocks' functions: what each one tells, in numbers. -/
set_option linter.all false
set_option maxRecDepth 100000
namespace Go.Tb.W
open Go Go.Proofs
def mayB (r : Int) : Bool := decide (-100000000 ≤ r) && decide (r ≤ 100000000)
def c_may (args : List AV) (K : AV → Prop) : Prop := match args with
  | [.int .i64 r] => K (.bool (mayB r))
  | _ => False
def c_plus (args : List AV) (K : AV → Prop) : Prop := match args with
  | [.int .i64 a, .int .i64 b] => ∀ n e, I64R (a + b) n e → K (.tup [.int .i64 n, .int .i64 e])
  | _ => False
def c_since (args : List AV) (K : AV → Prop) : Prop := match args with
  | [.agg [.int .i64 a, .int .u64 b], .agg [.int .i64 c, .int .u64 d]] => ∀ n e, I64R (vl a b - vl c d) n e → K (.tup [.int .i64 n, .int .i64 e])
  | _ => False
def NewR (a b r f s q e : Int) : Prop := ((-100000000 ≤ r ∧ r ≤ 100000000) ∧ f = a ∧ s = b ∧ q = r ∧ e = 0) ∨ ((r < -100000000 ∨ 100000000 < r) ∧ f = 0 ∧ s = 0 ∧ q = 0 ∧ e = 3)
def c_new (args : List AV) (K : AV → Prop) : Prop := match args with
  | [.int .i64 a, .int .i64 b, .int .i64 r] => ∀ f s q e, NewR a b r f s q e → K (.tup [.agg [.int .i64 f, .int .i64 s, .int .i64 q], .int .i64 e])
  | _ => False
/-- What a clock shows, in whole numbers; what it tells, and the number of an error. -/
def shw (f s r t : Int) : Int := (t - f) * r / 1000000000 + (t - f) + s
def ReadR (f s r t n e : Int) : Prop := (t < f ∧ n = 0 ∧ e = 1) ∨ (f ≤ t ∧ 9223372036854775807 < t - f ∧ n = 0 ∧ e = 6) ∨ (f ≤ t ∧ t - f ≤ 9223372036854775807 ∧ I64R (shw f s r t) n e)
def c_read (args : List AV) (K : AV → Prop) : Prop := match args with
  | [.agg [.int .i64 f, .int .i64 s, .int .i64 r], .int .i64 t] => ∀ n e, ReadR f s r t n e → K (.tup [.int .i64 n, .int .i64 e])
  | _ => False
def ShownR (f s r t y n e : Int) : Prop := ∃ m d, ReadR f s r t m d ∧ ((d ≠ 0 ∧ n = 0 ∧ e = d) ∨ (d = 0 ∧ I64R (m + y) n e))
def c_shown (args : List AV) (K : AV → Prop) : Prop := match args with
  | [.agg [.int .i64 f, .int .i64 s, .int .i64 r], .int .i64 t, .int .i64 y] => ∀ n e, ShownR f s r t y n e → K (.tup [.int .i64 n, .int .i64 e])
  | _ => False
def StepR (f s r t y q f' s' r' e : Int) : Prop := ∃ n, ShownR f s r t y n e ∧ ((e ≠ 0 ∧ f' = 0 ∧ s' = 0 ∧ r' = 0) ∨ (e = 0 ∧ f' = t ∧ s' = n ∧ r' = q))
def TurnR (f s r t q f' s' r' e : Int) : Prop := ((q < -100000000 ∨ 100000000 < q) ∧ f' = 0 ∧ s' = 0 ∧ r' = 0 ∧ e = 3) ∨ ((-100000000 ≤ q ∧ q ≤ 100000000) ∧ StepR f s r t 0 q f' s' r' e)
def c_turn (args : List AV) (K : AV → Prop) : Prop := match args with
  | [.agg [.int .i64 f, .int .i64 s, .int .i64 r], .int .i64 t, .int .i64 q] =>
    ∀ f' s' r' e, TurnR f s r t q f' s' r' e → K (.tup [.agg [.int .i64 f', .int .i64 s', .int .i64 r'], .int .i64 e])
  | _ => False
def c_step (args : List AV) (K : AV → Prop) : Prop := match args with
  | [.agg [.int .i64 f, .int .i64 s, .int .i64 r], .int .i64 t, .int .i64 y] =>
    ∀ f' s' r' e, StepR f s r t y r f' s' r' e → K (.tup [.agg [.int .i64 f', .int .i64 s', .int .i64 r'], .int .i64 e])
  | _ => False
/-- A part of 10^9, none less. -/
def gro (s r : Int) : Int := (s * r + 999999999) / 1000000000
def GrownR (s r n e : Int) : Prop := ((s < 0 ∨ r < 0) ∧ n = 0 ∧ e = 1) ∨ (0 ≤ s ∧ 0 ≤ r ∧ I64R (gro s r) n e)
def c_grown (args : List AV) (K : AV → Prop) : Prop := match args with
  | [.int .i64 s, .int .i64 r] => ∀ n e, GrownR s r n e → K (.tup [.int .i64 n, .int .i64 e])
  | _ => False
noncomputable abbrev F3 : List (FuncId × Sp O) :=
  (17, .p c_since) ::
  U
noncomputable abbrev F4 : List (FuncId × Sp O) :=
  F3
noncomputable abbrev F5 : List (FuncId × Sp O) :=
  F4
noncomputable abbrev F6 : List (FuncId × Sp O) :=
  F5
end Go.Tb.W

/- What the functions' bodies come to: each line is what the abstract machine makes of one function, or of one round of a loop, over the contracts of the functions that it calls (the text was printed by a program of mine; Lean proves it again). -/
set_option linter.all false
set_option maxRecDepth 100000
namespace Go.Tb
open Go Go.Proofs
namespace W
theorem t_since (I : Interp O) (K : AV → Prop) (a b c d : Int) : abody I P (Gm U) (adraw P (Gm U)) 0 Try.f17 [.agg [.int .i64 a, .int .u64 b], .agg [.int .i64 c, .int .u64 d]] .leaf 0 (fun v _ _ => K v) =
  (∀ (h0 : Int), (∀ (l1 : Int), (∀ (e2 : Int), (AddR (vl a b - vl c d) h0 l1 e2 → (bsplit (e2 != 0) fun | true => (K (.tup [(.int IntKind.i64 (0 : Int)), (.int IntKind.i64 (e2))])) | false => (∀ (n3 : Int), (∀ (e4 : Int), (I64R (vl h0 l1) n3 e4 → (K (.tup [(.int IntKind.i64 (n3)), (.int IntKind.i64 (e4))])))))))))) := by kernel_rfl
end W
end Go.Tb

/- The clocks' functions do what their contracts say. -/
set_option linter.all false
set_option maxRecDepth 100000
namespace Go.Tb.W
open Go Go.Proofs
variable {I : Interp O}
theorem k_since : ∀ (args : List AV) (K : AV → Prop), c_since args K → ∀ hp, ACall I P 17 args hp (fun v hp' => K v ∧ hp' = hp) := by
  intro args K h hp
  unfold c_since at h; split at h
  · rename_i a b c d
    refine pcall mix gu (fn := Try.f17) (by kernel_rfl) (by kernel_rfl) (by kernel_rfl) rfl rfl (fun hr => ?_) hp
    refine (t_since I (fun v => K v ∧ cl v = true) a b c d).mpr ?_
    intro h0 l0 e0 m0
    refine bsplit_both (fun hx => ⟨h _ _ ?_, rfl⟩) (fun hx => ?_)
    · have : e0 ≠ 0 := by simpa using hx
      simp only [Nm, AddR, I64R, true_and] at *
      omega
    · have : e0 = 0 := by simpa using hx
      intro n e m1
      refine ⟨h _ _ ?_, rfl⟩
      simp only [Nm, AddR, I64R, true_and] at *
      omega
  · exact h.elim
theorem gf3 : GOk I P (Gm F3) := by
  refine Gm.consP ?_ k_since
  exact gu
theorem mayB_iff {r : Int} : mayB r = true ↔ -100000000 ≤ r ∧ r ≤ 100000000 := by simp [mayB]
theorem gf4 : GOk I P (Gm F4) := by
  exact gf3
theorem gf5 : GOk I P (Gm F5) := by
  exact gf4
theorem gf6 : GOk I P (Gm F6) := by
  exact gf5
end Go.Tb.W

/- The stamps' functions: what each one tells. -/
set_option linter.all false
set_option maxRecDepth 100000
namespace Go.Tb.W
open Go Go.Proofs
/-- d is a number of 64 bits, and as great as x but for eras. -/
def DiffR (x d : Int) : Prop := (-9223372036854775808 ≤ d ∧ d ≤ 9223372036854775807) ∧ (d - x) % 18446744073709551616 = 0
def SumR (x d : Int) : Prop := (0 ≤ d ∧ d ≤ 18446744073709551615) ∧ (d - x) % 18446744073709551616 = 0
def c_diff (args : List AV) (K : AV → Prop) : Prop := match args with
  | [.int .u64 a, .int .u64 b] => ∀ d, DiffR (a - b) d → K (.int .i64 d)
  | _ => False
def c_sadd (args : List AV) (K : AV → Prop) : Prop := match args with
  | [.int .u64 a, .int .i64 b] => ∀ d, SumR (a + b) d → K (.int .u64 d)
  | _ => False
def c_fold (args : List AV) (K : AV → Prop) : Prop := match args with
  | [.agg [.int .i64 h, .int .u64 l]] => K (.int .u64 l)
  | _ => False
def FarR (x y h l e : Int) : Prop := (x < y ∧ AddR (y - x) h l e) ∨ (y ≤ x ∧ AddR (x - y) h l e)
def c_far (args : List AV) (K : AV → Prop) : Prop := match args with
  | [.agg [.int .i64 a, .int .u64 b], .agg [.int .i64 c, .int .u64 d]] => ∀ h l e, FarR (vl a b) (vl c d) h l e → K (.tup [.agg [.int .i64 h, .int .u64 l], .int .i64 e])
  | _ => False
/-- Of two numbers: which one is nearer to p (0 if one is an era away; of two as near the greater one). -/
def NearerR (p x y n : Int) : Prop := ((x - p < -170141183460469231731687303715884105727 ∨ 170141183460469231731687303715884105727 < x - p ∨ y - p < -170141183460469231731687303715884105727 ∨ 170141183460469231731687303715884105727 < y - p) ∧ n = 0) ∨
  (((x - p).natAbs : Int) = ((y - p).natAbs : Int) ∧ CmpR y x n) ∨ (((x - p).natAbs : Int) ≠ ((y - p).natAbs : Int) ∧ CmpR ((x - p).natAbs : Int) ((y - p).natAbs : Int) n)
def c_nearer (args : List AV) (K : AV → Prop) : Prop := match args with
  | [.agg [.int .i64 ph, .int .u64 pl], .agg [.int .i64 a, .int .u64 b], .agg [.int .i64 c, .int .u64 d]] => ∀ n, NearerR (vl ph pl) (vl a b) (vl c d) n → K (.int .i64 n)
  | _ => False
def ShortR (span n e : Int) : Prop := ((span < 0 ∨ 281474976645120 < span) ∧ n = 0 ∧ e = 3) ∨ (0 ≤ span ∧ span ≤ 281474976645120 ∧ n = (span + 65535) / 65536 ∧ e = 0)
def c_short (args : List AV) (K : AV → Prop) : Prop := match args with
  | [.int .i64 s] => ∀ n e, ShortR s n e → K (.tup [.int .u32 n, .int .i64 e])
  | _ => False
def c_long (args : List AV) (K : AV → Prop) : Prop := match args with
  | [.int .u32 n] => K (.int .i64 (n * 65536))
  | _ => False
def c_micros (args : List AV) (K : AV → Prop) : Prop := match args with
  | [.int .i64 s] => K (.int .i64 (s * 1000000 / 4294967296))
  | _ => False
def c_ticks (args : List AV) (K : AV → Prop) : Prop := match args with
  | [.int .i64 s] => ∀ n e, I64R (s * 4294967296 / 1000000) n e → K (.tup [.int .i64 n, .int .i64 e])
  | _ => False
def NearR (s h l h' l' e : Int) : Prop := ∃ d, (-9223372036854775808 < d ∧ d ≤ 9223372036854775808) ∧ (d - (s - l)) % 18446744073709551616 = 0 ∧ AddR (vl h l + d) h' l' e
def c_near (args : List AV) (K : AV → Prop) : Prop := match args with
  | [.int .u64 s, .agg [.int .i64 h, .int .u64 l]] => ∀ h' l' e, NearR s h l h' l' e → K (.tup [.agg [.int .i64 h', .int .u64 l'], .int .i64 e])
  | _ => False
noncomputable abbrev S0 : List (FuncId × Sp O) :=
  (19, .p c_diff) ::
  (21, .p c_sadd) ::
  (22, .p c_fold) ::
  (54, .p c_far) ::
  (24, .p c_short) ::
  (28, .p c_long) ::
  (29, .p c_micros) ::
  (27, .p c_ticks) ::
  F6
noncomputable abbrev S1 : List (FuncId × Sp O) :=
  (35, .p c_nearer) ::
  S0
def nf (p q : Int) : AV := .fn (.func 35) [.agg [.int .i64 p, .int .u64 q]] []
abbrev two (a b c d : Int) : AO O := .cells 25 [.int .i64 a, .int .u64 b, .int .i64 c, .int .u64 d] 4
noncomputable abbrev j_is (p q a b c d i : Int) : St O := ⟨Tr.setL [(0, .sl 0 0 2 2), (1, .int .i64 0), (2, .int .i64 2), (3, .fn (.func 35) [.agg [.int .i64 p, .int .u64 q]] []), (8, .int .i64 i)] .leaf, Tr.setL [(0, two a b c d)] .leaf, 1, 53⟩
def c_blen (args : List AV) (K : AV → Prop) : Prop := match args with
  | [.int .u64 2] => K (.int .i64 2)
  | _ => False
noncomputable abbrev S2 : List (FuncId × Sp O) :=
  (71, .p c_blen) ::
  S1
noncomputable abbrev j_in (p q a b c d j : Int) : St O := ⟨Tr.setL [(0, .sl 0 0 2 2), (1, .int .i64 0), (2, .int .i64 2), (3, .fn (.func 35) [.agg [.int .i64 p, .int .u64 q]] []), (8, .int .i64 1), (9, .int .i64 j)] .leaf, Tr.setL [(0, two a b c d)] .leaf, 1, 53⟩
def c_isort (args : List AV) (hp : Tr (AO O)) (nx : Nat) (K : AV → Tr (AO O) → Nat → Prop) : Prop := match args with
  | [.sl n 0 2 2, .int .i64 0, .int .i64 2, .fn (.func 35) [.agg [.int .i64 p, .int .u64 q]] []] => match Nat.blt n 16777215, hp.get n with
    | true, some (.cells 25 [.int .i64 a, .int .u64 b, .int .i64 c, .int .u64 d] 4) =>
      ∀ r, NearerR (vl p q) (vl c d) (vl a b) r → (r < 0 → K (.tup []) (hp.set n (some (two c d a b))) nx) ∧ (0 ≤ r → K (.tup []) hp nx)
    | _, _ => False
  | _ => False
def c_pdq (args : List AV) (hp : Tr (AO O)) (nx : Nat) (K : AV → Tr (AO O) → Nat → Prop) : Prop := match args with
  | [.sl n 0 2 2, .int .i64 0, .int .i64 2, .int .i64 2, .fn (.func 35) [.agg [.int .i64 p, .int .u64 q]] []] => match Nat.blt n 16777215, hp.get n with
    | true, some (.cells 25 [.int .i64 a, .int .u64 b, .int .i64 c, .int .u64 d] 4) =>
      ∀ r, NearerR (vl p q) (vl c d) (vl a b) r → (r < 0 → K (.tup []) (hp.set n (some (two c d a b))) nx) ∧ (0 ≤ r → K (.tup []) hp nx)
    | _, _ => False
  | _ => False
def c_sortf (args : List AV) (hp : Tr (AO O)) (nx : Nat) (K : AV → Tr (AO O) → Nat → Prop) : Prop := match args with
  | [.sl n 0 2 2, .fn (.func 35) [.agg [.int .i64 p, .int .u64 q]] []] => match Nat.blt n 16777215, hp.get n with
    | true, some (.cells 25 [.int .i64 a, .int .u64 b, .int .i64 c, .int .u64 d] 4) =>
      ∀ r, NearerR (vl p q) (vl c d) (vl a b) r → (r < 0 → K (.tup []) (hp.set n (some (two c d a b))) nx) ∧ (0 ≤ r → K (.tup []) hp nx)
    | _, _ => False
  | _ => False
noncomputable abbrev j_pdq (p q a b c d : Int) : St O := ⟨Tr.setL [(0, .sl 0 0 2 2), (1, .int .i64 0), (2, .int .i64 2), (3, .int .i64 2), (4, .fn (.func 35) [.agg [.int .i64 p, .int .u64 q]] []), (10, .bool true), (11, .bool true)] .leaf, Tr.setL [(0, two a b c d)] .leaf, 1, 148⟩
noncomputable abbrev S3 : List (FuncId × Sp O) :=
  (53, .p c_blen) ::
  (62, .h c_isort) ::
  S2
noncomputable abbrev S4 : List (FuncId × Sp O) :=
  (52, .h c_pdq) ::
  S3
noncomputable abbrev S5 : List (FuncId × Sp O) :=
  (34, .h c_sortf) ::
  S4
noncomputable abbrev S6 : List (FuncId × Sp O) :=
  (12, .p c_near) ::
  S5
noncomputable abbrev S7 : List (FuncId × Sp O) :=
  (11, .p c_awake) ::
  S6
end Go.Tb.W

/- What the functions' bodies come to: each line is what the abstract machine makes of one function, or of one round of a loop, over the contracts of the functions that it calls (the text was printed by a program of mine; Lean proves it again). -/
set_option linter.all false
set_option maxRecDepth 100000
namespace Go.Tb
open Go Go.Proofs
namespace W
theorem t_diff (I : Interp O) (K : AV → Prop) (a b : Int) : abody I P (Gm F6) (adraw P (Gm F6)) 0 Try.f19 [.int .u64 a, .int .u64 b] .leaf 0 (fun v _ _ => K v) =
  (K (.int IntKind.i64 (IntKind.i64.wrap (IntKind.u64.wrap (a - b))))) := by kernel_rfl
theorem t_sadd (I : Interp O) (K : AV → Prop) (a b : Int) : abody I P (Gm F6) (adraw P (Gm F6)) 0 Try.f21 [.int .u64 a, .int .i64 b] .leaf 0 (fun v _ _ => K v) =
  (K (.int IntKind.u64 (IntKind.u64.wrap (a + IntKind.u64.wrap b)))) := by kernel_rfl
theorem t_fold (I : Interp O) (K : AV → Prop) (h l : Int) : abody I P (Gm F6) (adraw P (Gm F6)) 0 Try.f22 [.agg [.int .i64 h, .int .u64 l]] .leaf 0 (fun v _ _ => K v) =
  (K (.int IntKind.u64 (l))) := by kernel_rfl
theorem t_far (I : Interp O) (K : AV → Prop) (a b c d : Int) : abody I P (Gm F6) (adraw P (Gm F6)) 0 Try.f54 [.agg [.int .i64 a, .int .u64 b], .agg [.int .i64 c, .int .u64 d]] .leaf 0 (fun v _ _ => K v) =
  (∀ (n0 : Int), (CmpR (vl a b) (vl c d) n0 → (bsplit (decide (n0 < 0)) fun | true => (∀ (h1 : Int), (∀ (l2 : Int), (∀ (e3 : Int), (AddR (vl c d - vl a b) h1 l2 e3 → (K (.tup [(.agg [(.int IntKind.i64 (h1)), (.int IntKind.u64 (l2))]), (.int IntKind.i64 (e3))])))))) | false => (∀ (h4 : Int), (∀ (l5 : Int), (∀ (e6 : Int), (AddR (vl a b - vl c d) h4 l5 e6 → (K (.tup [(.agg [(.int IntKind.i64 (h4)), (.int IntKind.u64 (l5))]), (.int IntKind.i64 (e6))]))))))))) := by kernel_rfl
theorem t_short (I : Interp O) (K : AV → Prop) (s : Int) : abody I P (Gm F6) (adraw P (Gm F6)) 0 Try.f24 [.int .i64 s] .leaf 0 (fun v _ _ => K v) =
  (bsplit (decide (s < 0)) fun | true => (K (.tup [(.int IntKind.u32 (0 : Int)), (.int IntKind.i64 (3 : Int))])) | false => (bsplit (decide (IntKind.i64.wrap (IntKind.i64.wrap (s.tdiv 65536) + if 1 < s.tmod 65536 then 1 else s.tmod 65536) ≥ 4294967296)) fun | true => (K (.tup [(.int IntKind.u32 (0 : Int)), (.int IntKind.i64 (3 : Int))])) | false => (K (.tup [(.int IntKind.u32 (IntKind.u32.wrap (IntKind.i64.wrap (IntKind.i64.wrap (s.tdiv 65536) + if 1 < s.tmod 65536 then 1 else s.tmod 65536)))), (.int IntKind.i64 (0 : Int))])))) := by kernel_rfl
theorem t_long (I : Interp O) (K : AV → Prop) (n : Int) : abody I P (Gm F6) (adraw P (Gm F6)) 0 Try.f28 [.int .u32 n] .leaf 0 (fun v _ _ => K v) =
  (K (.int IntKind.i64 (IntKind.i64.wrap (IntKind.i64.wrap n * 65536)))) := by kernel_rfl
theorem t_micros (I : Interp O) (K : AV → Prop) (s : Int) : abody I P (Gm F6) (adraw P (Gm F6)) 0 Try.f29 [.int .i64 s] .leaf 0 (fun v _ _ => K v) =
  (∀ (n0 : Int), (∀ (e1 : Int), (PartR s 1000000 4294967296 n0 e1 → (K (.int IntKind.i64 (n0)))))) := by kernel_rfl
theorem t_ticks (I : Interp O) (K : AV → Prop) (s : Int) : abody I P (Gm F6) (adraw P (Gm F6)) 0 Try.f27 [.int .i64 s] .leaf 0 (fun v _ _ => K v) =
  (∀ (n0 : Int), (∀ (e1 : Int), (PartR s 4294967296 1000000 n0 e1 → (K (.tup [(.int IntKind.i64 (n0)), (.int IntKind.i64 (e1))]))))) := by kernel_rfl
theorem t_nearer (I : Interp O) (K : AV → Prop) (p q a b c d : Int) : abody I P (Gm S0) (adraw P (Gm S0)) 0 Try.f35 [.agg [.int .i64 p, .int .u64 q], .agg [.int .i64 a, .int .u64 b], .agg [.int .i64 c, .int .u64 d]] .leaf 0 (fun v _ _ => K v) =
  (∀ (h0 : Int), (∀ (l1 : Int), (∀ (e2 : Int), (FarR (vl a b) (vl p q) h0 l1 e2 → (∀ (h3 : Int), (∀ (l4 : Int), (∀ (e5 : Int), (FarR (vl c d) (vl p q) h3 l4 e5 → (bsplit (e2 != 0) fun | true => (K (.int IntKind.i64 (0 : Int))) | false => (bsplit (e5 != 0) fun | true => (K (.int IntKind.i64 (0 : Int))) | false => (bsplit (h0 == h3 && (l1 == l4 && true)) fun | true => (∀ (n6 : Int), (CmpR (vl c d) (vl a b) n6 → (K (.int IntKind.i64 (n6))))) | false => (∀ (n7 : Int), (CmpR (vl h0 l1) (vl h3 l4) n7 → (K (.int IntKind.i64 (n7)))))))))))))))) := by kernel_rfl
theorem t_isort (I : Interp O) (K : AV → Tr (AO O) → Nat → Prop) (p q a b c d : Int) : abody I P (Gm S1) (adraw P (Gm S1)) 1 Try.f62 [.sl 0 0 2 2, .int .i64 0, .int .i64 2, .fn (.func 35) [.agg [.int .i64 p, .int .u64 q]] []] (Tr.ofList 0 [.cells 25 [.int .i64 a, .int .u64 b, .int .i64 c, .int .u64 d] 4] .leaf) 1 K =
  (ALoop I 1 (cd Try.f62 [true, false, false]) (acode I P (Gm S1) (adraw P (Gm S1)) 1 (cd Try.f62 [true, false, false])) (ablock 0 (kret P Try.f62 (K))) ⟨(.node (.node (.node .leaf (some (.fn (Fn.func 35) [(.agg [(.int IntKind.i64 (p)), (.int IntKind.u64 (q))])] [])) (.node .leaf (some (.int IntKind.i64 (1 : Int))) .leaf)) (some (.int IntKind.i64 (0 : Int))) .leaf) (some (.sl 0 0 2 2)) (.node (.node (.node .leaf (some (.int IntKind.i64 (1 : Int))) .leaf) none .leaf) (some (.int IntKind.i64 (2 : Int))) (.node (.node .leaf (some (.int IntKind.i64 (0 : Int))) .leaf) none .leaf))), (.node .leaf (some (.cells 25 [(.int IntKind.i64 (a)), (.int IntKind.u64 (b)), (.int IntKind.i64 (c)), (.int IntKind.u64 (d))] 4)) .leaf), 1, 53⟩) := by kernel_rfl
theorem t_blen64 (I : Interp O) (K : AV → Prop) (n : Int) : abody I P (Gm F6) (adraw P (Gm F6)) 0 Try.f71 [.int .u64 2] .leaf 0 (fun v _ _ => K v) =
  (K (.int IntKind.i64 (2 : Int))) := by kernel_rfl
theorem t_blen (I : Interp O) (K : AV → Prop) (n : Int) : abody I P (Gm S2) (adraw P (Gm S2)) 0 Try.f53 [.int .u64 2] .leaf 0 (fun v _ _ => K v) =
  (K (.int IntKind.i64 (2 : Int))) := by kernel_rfl
theorem t_pdq (I : Interp O) (K : AV → Tr (AO O) → Nat → Prop) (p q a b c d : Int) : abody I P (Gm S3) (adraw P (Gm S3)) 1 Try.f52 [.sl 0 0 2 2, .int .i64 0, .int .i64 2, .int .i64 2, .fn (.func 35) [.agg [.int .i64 p, .int .u64 q]] []] (Tr.ofList 0 [two a b c d] .leaf) 1 K =
  (ALoop I 1 (cd Try.f52 [true, true, false, false]) (acode I P (Gm S3) (adraw P (Gm S3)) 1 (cd Try.f52 [true, true, false, false])) (ablock 0 (kret P Try.f52 (K))) ⟨(.node (.node (.node .leaf (some (.int IntKind.i64 (2 : Int))) (.node .leaf (some (.bool true)) .leaf)) (some (.int IntKind.i64 (0 : Int))) .leaf) (some (.sl 0 0 2 2)) (.node (.node .leaf (some (.fn (Fn.func 35) [(.agg [(.int IntKind.i64 (p)), (.int IntKind.u64 (q))])] [])) .leaf) (some (.int IntKind.i64 (2 : Int))) (.node (.node .leaf (some (.bool true)) .leaf) none .leaf))), (.node .leaf (some (.cells 25 [(.int IntKind.i64 (a)), (.int IntKind.u64 (b)), (.int IntKind.i64 (c)), (.int IntKind.u64 (d))] 4)) .leaf), 1, 148⟩) := by kernel_rfl
theorem t_sortf (I : Interp O) (K : AV → Tr (AO O) → Nat → Prop) (p q a b c d : Int) : abody I P (Gm S4) (adraw P (Gm S4)) 1 Try.f34 [.sl 0 0 2 2, .fn (.func 35) [.agg [.int .i64 p, .int .u64 q]] []] (Tr.ofList 0 [two a b c d] .leaf) 1 K =
  (∀ (r0 : Int), (NearerR (vl p q) (vl c d) (vl a b) r0 → ((r0 < 0 → (K (.tup []) (.node .leaf (some (.cells 25 [(.int IntKind.i64 (c)), (.int IntKind.u64 (d)), (.int IntKind.i64 (a)), (.int IntKind.u64 (b))] 4)) .leaf) 1)) ∧ (0 ≤ r0 → (K (.tup []) (.node .leaf (some (.cells 25 [(.int IntKind.i64 (a)), (.int IntKind.u64 (b)), (.int IntKind.i64 (c)), (.int IntKind.u64 (d))] 4)) .leaf) 1))))) := by kernel_rfl
theorem t_near (I : Interp O) (K : AV → Prop) (s h l : Int) : abody I P (Gm S5) (adraw P (Gm S5)) 0 Try.f12 [.int .u64 s, .agg [.int .i64 h, .int .u64 l]] .leaf 0 (fun v _ _ => K v) =
  (∀ (d0 : Int), (DiffR (s - l) d0 → (∀ (h1 : Int), (∀ (l2 : Int), (Nm h1 l2 d0 → (∀ (h3 : Int), (∀ (l4 : Int), (∀ (e5 : Int), (AddR (vl h l + vl h1 l2) h3 l4 e5 → (bsplit (d0 != -9223372036854775808) fun | true => (K (.tup [(.agg [(.int IntKind.i64 (h3)), (.int IntKind.u64 (l4))]), (.int IntKind.i64 (e5))])) | false => (∀ (h6 : Int), (∀ (l7 : Int), (Nm h6 l7 d0 → (∀ (h8 : Int), (∀ (l9 : Int), (∀ (e10 : Int), (AddR (vl h l - vl h6 l7) h8 l9 e10 → (bsplit (e10 != 0) fun | true => (K (.tup [(.agg [(.int IntKind.i64 (0 : Int)), (.int IntKind.u64 (0 : Int))]), (.int IntKind.i64 (e10))])) | false => (bsplit (e5 != 0) fun | true => (K (.tup [(.agg [(.int IntKind.i64 (h8)), (.int IntKind.u64 (l9))]), (.int IntKind.i64 (e10))])) | false => (∀ (r11 : Int), (NearerR (vl h l) (vl h8 l9) (vl h3 l4) r11 → ((r11 < 0 → (K (.tup [(.agg [(.int IntKind.i64 (h8)), (.int IntKind.u64 (l9))]), (.int IntKind.i64 (0 : Int))]))) ∧ (0 ≤ r11 → (K (.tup [(.agg [(.int IntKind.i64 (h3)), (.int IntKind.u64 (l4))]), (.int IntKind.i64 (0 : Int))]))))))))))))))))))))))))) := by kernel_rfl
theorem t_awake (I : Interp O) (K : AV → Prop) : abody I P (Gm S6) (adraw P (Gm S6)) 0 Try.f11 [] .leaf 0 (fun v _ _ => K v) =
  (∀ (h'0 : Int), (∀ (l'1 : Int), (∀ (e2 : Int), (NearR 5 1 0 h'0 l'1 e2 → (∀ (h'3 : Int), (∀ (l'4 : Int), (∀ (e5 : Int), (NearR 9223372036854775808 0 0 h'3 l'4 e5 → (∀ (n6 : Int), (∀ (e7 : Int), (ShortR 65537 n6 e7 → (∀ (n8 : Int), (∀ (e9 : Int), (ShortR (-1) n8 e9 → (∀ (n10 : Int), (∀ (e11 : Int), (I64R (1000000 * 4294967296 / 1000000) n10 e11 → (∀ (h12 : Int), (∀ (l13 : Int), (Nm h12 l13 5 → (∀ (h14 : Int), (∀ (l15 : Int), (Nm h14 l15 9 → (∀ (n16 : Int), (∀ (e17 : Int), (I64R (vl h12 l13 - vl h14 l15) n16 e17 → (∀ (d18 : Int), (DiffR (1 - 18446744073709551615) d18 → (bsplit (d18 == 2) fun | true => (∀ (d19 : Int), (SumR (18446744073709551615 + 2) d19 → (bsplit (d19 == 1) fun | true => (bsplit (h'0 == 1 && (l'1 == 5 && true)) fun | true => (bsplit (e2 == 0) fun | true => (bsplit (h'3 == 0 && (l'4 == 9223372036854775808 && true)) fun | true => (bsplit (e5 == 0) fun | true => (bsplit (l'1 == 5) fun | true => (bsplit (n6 == 2) fun | true => (bsplit (e7 == 0) fun | true => (bsplit (e9 == 3) fun | true => (bsplit (n10 == 4294967296) fun | true => (bsplit (e11 == 0) fun | true => (bsplit (n16 == -4) fun | true => (K (.bool (e17 == 0))) | false => (K (.bool false))) | false => (K (.bool false))) | false => (K (.bool false))) | false => (K (.bool false))) | false => (K (.bool false))) | false => (K (.bool false))) | false => (K (.bool false))) | false => (K (.bool false))) | false => (K (.bool false))) | false => (K (.bool false))) | false => (K (.bool false))) | false => (K (.bool false))))) | false => (K (.bool false))))))))))))))))))))))))))))))) := by kernel_rfl
theorem t_adds (I : Interp O) (K : AV → Prop) (a b s : Int) : abody I P (Gm S7) (adraw P (Gm S7)) 0 Try.f5 [.int .u64 a, .int .u64 b, .int .i64 s] .leaf 0 (fun v _ _ => K v) =
  (∀ (d0 : Int), (SumR (a + s) d0 → (∀ (d1 : Int), (DiffR (d0 - a) d1 → (bsplit (d1 == s) fun | true => (∀ (d2 : Int), (DiffR (a - b) d2 → (∀ (d3 : Int), (SumR (b + d2) d3 → (bsplit (d3 == a) fun | true => (∀ (d4 : Int), (DiffR (a - b) d4 → (∀ (d5 : Int), (DiffR (b - a) d5 → (bsplit (d4 == IntKind.i64.wrap (0 - d5)) fun | true => (∀ (d6 : Int), (DiffR (a - a) d6 → (K (.bool (d6 == 0))))) | false => (K (.bool false))))))) | false => (K (.bool false))))))) | false => (K (.bool false))))))) := by kernel_rfl
theorem t_back (I : Interp O) (K : AV → Prop) (h l o : Int) : abody I P (Gm S7) (adraw P (Gm S7)) 0 Try.f6 [.agg [.int .i64 h, .int .u64 l], .int .i64 o] .leaf 0 (fun v _ _ => K v) =
  (bsplit (o == -9223372036854775808) fun | true => (K (.bool true)) | false => (∀ (h0 : Int), (∀ (l1 : Int), (Nm h0 l1 o → (∀ (h2 : Int), (∀ (l3 : Int), (∀ (e4 : Int), (AddR (vl h l + vl h0 l1) h2 l3 e4 → (bsplit (e4 != 0) fun | true => (K (.bool true)) | false => (∀ (h'5 : Int), (∀ (l'6 : Int), (∀ (e7 : Int), (NearR l h2 l3 h'5 l'6 e7 → (∀ (n8 : Int), (∀ (e9 : Int), (I64R (vl h2 l3 - vl h l) n8 e9 → (bsplit (e7 == 0) fun | true => (bsplit (h'5 == h && (l'6 == l && true)) fun | true => (bsplit (e9 == 0) fun | true => (K (.bool (n8 == o))) | false => (K (.bool false))) | false => (K (.bool false))) | false => (K (.bool false))))))))))))))))))) := by kernel_rfl
theorem t_shortl (I : Interp O) (K : AV → Prop) (s n : Int) : abody I P (Gm S7) (adraw P (Gm S7)) 0 Try.f7 [.int .i64 s, .int .u32 n] .leaf 0 (fun v _ _ => K v) =
  (∀ (n0 : Int), (∀ (e1 : Int), (ShortR (n * 65536) n0 e1 → (bsplit (n0 != n) fun | true => (K (.bool false)) | false => (bsplit (e1 != 0) fun | true => (K (.bool false)) | false => (∀ (n2 : Int), (∀ (e3 : Int), (ShortR s n2 e3 → (bsplit (e3 != 0) fun | true => (bsplit (n2 == 0) fun | true => (bsplit (e3 == 3) fun | true => (bsplit (decide (s < 0)) fun | true => (K (.bool true)) | false => (K (.bool (decide (s > 4294967295 * 65536))))) | false => (K (.bool false))) | false => (K (.bool false))) | false => (bsplit (decide (n2 * 65536 ≥ s)) fun | true => (K (.bool (decide (IntKind.i64.wrap (n2 * 65536 - s) < 65536)))) | false => (K (.bool false)))))))))))) := by kernel_rfl
theorem t_microsl (I : Interp O) (K : AV → Prop) (n : Int) : abody I P (Gm S7) (adraw P (Gm S7)) 0 Try.f8 [.int .i64 n] .leaf 0 (fun v _ _ => K v) =
  (∀ (n0 : Int), (∀ (e1 : Int), (I64R (n.tmod 1125899906842624 * 4294967296 / 1000000) n0 e1 → (∀ (n2 : Int), (∀ (e3 : Int), (I64R (n.tmod 1125899906842624 * 1000000 / 4294967296 * 4294967296 / 1000000) n2 e3 → (bsplit (e1 == 0) fun | true => (bsplit (e3 == 0) fun | true => (bsplit (decide (n0 * 1000000 / 4294967296 ≤ n.tmod 1125899906842624)) fun | true => (bsplit (decide (IntKind.i64.wrap (n.tmod 1125899906842624 - n0 * 1000000 / 4294967296) ≤ 1)) fun | true => (K (.bool (decide (n2 ≤ n.tmod 1125899906842624)))) | false => (K (.bool false))) | false => (K (.bool false))) | false => (K (.bool false))) | false => (K (.bool false))))))))) := by kernel_rfl
theorem t_orderl (I : Interp O) (K : AV → Prop) (h l a b : Int) : abody I P (Gm S7) (adraw P (Gm S7)) 0 Try.f9 [.agg [.int .i64 h, .int .u64 l], .int .i64 a, .int .i64 b] .leaf 0 (fun v _ _ => K v) =
  (∀ (h0 : Int), (∀ (l1 : Int), (Nm h0 l1 (IntKind.i64.wrap (a.tdiv 2)) → (∀ (h2 : Int), (∀ (l3 : Int), (∀ (e4 : Int), (AddR (vl h l + vl h0 l1) h2 l3 e4 → (∀ (h5 : Int), (∀ (l6 : Int), (Nm h5 l6 (IntKind.i64.wrap (b.tdiv 2)) → (∀ (h7 : Int), (∀ (l8 : Int), (∀ (e9 : Int), (AddR (vl h l + vl h5 l6) h7 l8 e9 → (bsplit (e4 != 0) fun | true => (K (.bool true)) | false => (bsplit (e9 != 0) fun | true => (K (.bool true)) | false => (∀ (h'10 : Int), (∀ (l'11 : Int), (∀ (e12 : Int), (NearR l3 h l h'10 l'11 e12 → (∀ (h'13 : Int), (∀ (l'14 : Int), (∀ (e15 : Int), (NearR l8 h l h'13 l'14 e15 → (bsplit (e12 == 0) fun | true => (bsplit (e15 == 0) fun | true => (∀ (n16 : Int), (CmpR (vl h'10 l'11) (vl h'13 l'14) n16 → (bsplit (decide (n16 < 0) == decide (IntKind.i64.wrap (a.tdiv 2) < IntKind.i64.wrap (b.tdiv 2))) fun | true => (∀ (d17 : Int), (DiffR (l3 - l8) d17 → (K (.bool (d17 == IntKind.i64.wrap (IntKind.i64.wrap (a.tdiv 2) - IntKind.i64.wrap (b.tdiv 2))))))) | false => (K (.bool false))))) | false => (K (.bool false))) | false => (K (.bool false))))))))))))))))))))))))))) := by kernel_rfl
theorem t_sincel (I : Interp O) (K : AV → Prop) (h l a b : Int) : abody I P (Gm S7) (adraw P (Gm S7)) 0 Try.f10 [.agg [.int .i64 h, .int .u64 l], .int .i64 a, .int .i64 b] .leaf 0 (fun v _ _ => K v) =
  (∀ (h0 : Int), (∀ (l1 : Int), (Nm h0 l1 (a.tmod 2305843009213693952) → (∀ (h2 : Int), (∀ (l3 : Int), (∀ (e4 : Int), (AddR (vl h l + vl h0 l1) h2 l3 e4 → (∀ (h5 : Int), (∀ (l6 : Int), (Nm h5 l6 (b.tmod 2305843009213693952) → (∀ (h7 : Int), (∀ (l8 : Int), (∀ (e9 : Int), (AddR (vl h2 l3 + vl h5 l6) h7 l8 e9 → (bsplit (e4 != 0) fun | true => (K (.bool true)) | false => (bsplit (e9 != 0) fun | true => (K (.bool true)) | false => (∀ (n10 : Int), (∀ (e11 : Int), (I64R (vl h2 l3 - vl h l) n10 e11 → (∀ (n12 : Int), (∀ (e13 : Int), (I64R (vl h7 l8 - vl h2 l3) n12 e13 → (∀ (n14 : Int), (∀ (e15 : Int), (I64R (vl h7 l8 - vl h l) n14 e15 → (∀ (n16 : Int), (∀ (e17 : Int), (I64R (vl h l - vl h7 l8) n16 e17 → (bsplit (e11 == 0) fun | true => (bsplit (e13 == 0) fun | true => (bsplit (e15 == 0) fun | true => (bsplit (e17 == 0) fun | true => (bsplit (n10 == a.tmod 2305843009213693952) fun | true => (bsplit (n12 == b.tmod 2305843009213693952) fun | true => (bsplit (n14 == IntKind.i64.wrap (a.tmod 2305843009213693952 + b.tmod 2305843009213693952)) fun | true => (bsplit (n16 == IntKind.i64.wrap (0 - n14)) fun | true => (∀ (d18 : Int), (DiffR (l8 - l) d18 → (K (.bool (d18 == n14))))) | false => (K (.bool false))) | false => (K (.bool false))) | false => (K (.bool false))) | false => (K (.bool false))) | false => (K (.bool false))) | false => (K (.bool false))) | false => (K (.bool false))) | false => (K (.bool false))))))))))))))))))))))))))))))) := by kernel_rfl
theorem t_isA (I : Interp O) (K : AV → Tr (AO O) → Nat → Prop) (X : St O → Prop) (p q a b c d : Int) : acode I P (Gm S1) (adraw P (Gm S1)) 1 (cd Try.f62 [true, false, false]) (j_is p q a b c d 1) (lpg 1 [] [0, 1, 2, 3, 8] 1 X (ablock 0 (kret P Try.f62 (K)))) =
  (ALoop I 1 (cd Try.f62 [true, false, false, true, false, false, true, false, false]) (acode I P (Gm S1) (adraw P (Gm S1)) 1 (cd Try.f62 [true, false, false, true, false, false, true, false, false])) (ablock 2 (ablock 1 (athen (cd Try.f62 [true, false, false, true, true]) (fun s => acode I P (Gm S1) (adraw P (Gm S1)) 1 (cd Try.f62 [true, false, false, true, true]) s (lpg 1 [] [0, 1, 2, 3, 8] 1 X (ablock 0 (kret P Try.f62 K)))) (lpg 1 [] [0, 1, 2, 3, 8] 1 X (ablock 0 (kret P Try.f62 K)))))) ⟨(.node (.node (.node .leaf (some (.fn (Fn.func 35) [(.agg [(.int IntKind.i64 (p)), (.int IntKind.u64 (q))])] [])) .leaf) (some (.int IntKind.i64 (0 : Int))) (.node (.node (.node .leaf (some (.int IntKind.i64 (1 : Int))) .leaf) (some (.int IntKind.i64 (1 : Int))) .leaf) none (.node .leaf (some (.int IntKind.i64 (2 : Int))) .leaf))) (some (.sl 0 0 2 2)) (.node (.node (.node .leaf (some (.int IntKind.i64 (1 : Int))) .leaf) none (.node .leaf (some (.int IntKind.i64 (1 : Int))) .leaf)) (some (.int IntKind.i64 (2 : Int))) (.node .leaf none (.node .leaf (some (.bool true)) .leaf)))), (.node .leaf (some (.cells 25 [(.int IntKind.i64 (a)), (.int IntKind.u64 (b)), (.int IntKind.i64 (c)), (.int IntKind.u64 (d))] 4)) .leaf), 1, 53⟩) := by kernel_rfl
theorem t_isC (I : Interp O) (K : AV → Tr (AO O) → Nat → Prop) (X : St O → Prop) (p q a b c d : Int) : acode I P (Gm S1) (adraw P (Gm S1)) 1 (cd Try.f62 [true, false, false]) (j_is p q a b c d 2) (lpg 1 [] [0, 1, 2, 3, 8] 1 X (ablock 0 (kret P Try.f62 (K)))) =
  (K (.tup []) (.node .leaf (some (.cells 25 [(.int IntKind.i64 (a)), (.int IntKind.u64 (b)), (.int IntKind.i64 (c)), (.int IntKind.u64 (d))] 4)) .leaf) 1) := by kernel_rfl
theorem t_pdqA (I : Interp O) (K : AV → Tr (AO O) → Nat → Prop) (X : St O → Prop) (p q a b c d : Int) : acode I P (Gm S3) (adraw P (Gm S3)) 1 (cd Try.f52 [true, true, false, false]) (j_pdq p q a b c d) (lpg 1 [] [0, 1, 2, 3, 4, 10, 11] 1 X (ablock 0 (kret P Try.f52 (K)))) =
  (∀ (r0 : Int), (NearerR (vl p q) (vl c d) (vl a b) r0 → ((r0 < 0 → (K (.tup []) (.node .leaf (some (.cells 25 [(.int IntKind.i64 (c)), (.int IntKind.u64 (d)), (.int IntKind.i64 (a)), (.int IntKind.u64 (b))] 4)) .leaf) 1)) ∧ (0 ≤ r0 → (K (.tup []) (.node .leaf (some (.cells 25 [(.int IntKind.i64 (a)), (.int IntKind.u64 (b)), (.int IntKind.i64 (c)), (.int IntKind.u64 (d))] 4)) .leaf) 1))))) := by kernel_rfl
theorem t_isIn1 (I : Interp O) (K : AV → Tr (AO O) → Nat → Prop) (X Y : St O → Prop) (p q a b c d : Int) : acode I P (Gm S1) (adraw P (Gm S1)) 1 (cd Try.f62 [true, false, false, true, false, false, true, false, false]) (j_in p q a b c d 1) (lpg 1 [] [0, 1, 2, 3, 8, 9] 1 Y (ablock 2 (ablock 1 (athen (cd Try.f62 [true, false, false, true, true]) (fun s => acode I P (Gm S1) (adraw P (Gm S1)) 1 (cd Try.f62 [true, false, false, true, true]) s (lpg 1 [] [0, 1, 2, 3, 8] 1 X (ablock 0 (kret P Try.f62 K)))) (lpg 1 [] [0, 1, 2, 3, 8] 1 X (ablock 0 (kret P Try.f62 K))))))) =
  (∀ (n0 : Int), (NearerR (vl p q) (vl c d) (vl a b) n0 → (bsplit (decide (n0 < 0)) fun | true => (Y ⟨(.node (.node (.node .leaf (some (.fn (Fn.func 35) [(.agg [(.int IntKind.i64 (p)), (.int IntKind.u64 (q))])] [])) .leaf) (some (.int IntKind.i64 (0 : Int))) (.node (.node .leaf (some (.int IntKind.i64 (0 : Int))) .leaf) none .leaf)) (some (.sl 0 0 2 2)) (.node (.node (.node .leaf (some (.int IntKind.i64 (1 : Int))) .leaf) none .leaf) (some (.int IntKind.i64 (2 : Int))) .leaf)), (.node .leaf (some (.cells 25 [(.int IntKind.i64 (c)), (.int IntKind.u64 (d)), (.int IntKind.i64 (a)), (.int IntKind.u64 (b))] 4)) .leaf), 1, 53⟩) | false => (X ⟨(.node (.node (.node .leaf (some (.fn (Fn.func 35) [(.agg [(.int IntKind.i64 (p)), (.int IntKind.u64 (q))])] [])) .leaf) (some (.int IntKind.i64 (0 : Int))) .leaf) (some (.sl 0 0 2 2)) (.node (.node (.node .leaf (some (.int IntKind.i64 (2 : Int))) .leaf) none .leaf) (some (.int IntKind.i64 (2 : Int))) .leaf)), (.node .leaf (some (.cells 25 [(.int IntKind.i64 (a)), (.int IntKind.u64 (b)), (.int IntKind.i64 (c)), (.int IntKind.u64 (d))] 4)) .leaf), 1, 53⟩)))) := by kernel_rfl
theorem t_isIn0 (I : Interp O) (K : AV → Tr (AO O) → Nat → Prop) (X Y : St O → Prop) (p q a b c d : Int) : acode I P (Gm S1) (adraw P (Gm S1)) 1 (cd Try.f62 [true, false, false, true, false, false, true, false, false]) (j_in p q a b c d 0) (lpg 1 [] [0, 1, 2, 3, 8, 9] 1 Y (ablock 2 (ablock 1 (athen (cd Try.f62 [true, false, false, true, true]) (fun s => acode I P (Gm S1) (adraw P (Gm S1)) 1 (cd Try.f62 [true, false, false, true, true]) s (lpg 1 [] [0, 1, 2, 3, 8] 1 X (ablock 0 (kret P Try.f62 K)))) (lpg 1 [] [0, 1, 2, 3, 8] 1 X (ablock 0 (kret P Try.f62 K))))))) =
  (X ⟨(.node (.node (.node .leaf (some (.fn (Fn.func 35) [(.agg [(.int IntKind.i64 (p)), (.int IntKind.u64 (q))])] [])) .leaf) (some (.int IntKind.i64 (0 : Int))) .leaf) (some (.sl 0 0 2 2)) (.node (.node (.node .leaf (some (.int IntKind.i64 (2 : Int))) .leaf) none .leaf) (some (.int IntKind.i64 (2 : Int))) .leaf)), (.node .leaf (some (.cells 25 [(.int IntKind.i64 (a)), (.int IntKind.u64 (b)), (.int IntKind.i64 (c)), (.int IntKind.u64 (d))] 4)) .leaf), 1, 53⟩) := by kernel_rfl
end W
end Go.Tb

/- The stamps' functions do what their contracts say. -/
set_option linter.all false
set_option maxRecDepth 100000
namespace Go.Tb.W
open Go Go.Proofs
variable {I : Interp O}
theorem k_diff : ∀ (args : List AV) (K : AV → Prop), c_diff args K → ∀ hp, ACall I P 19 args hp (fun v hp' => K v ∧ hp' = hp) := by
  intro args K h hp
  unfold c_diff at h; split at h
  · rename_i a b
    refine pcall mix gf6 (fn := Try.f19) (by kernel_rfl) (by kernel_rfl) (by kernel_rfl) rfl rfl (fun hr => ?_) hp
    simp only [rgs, rg, Bool.and_eq_true] at hr
    refine (t_diff I (fun v => K v ∧ cl v = true) a b).mpr ?_
    refine ⟨h _ ?_, rfl⟩
    unfold DiffR; rw [w_i64, w_u64]; omega
  · exact h.elim
theorem k_sadd : ∀ (args : List AV) (K : AV → Prop), c_sadd args K → ∀ hp, ACall I P 21 args hp (fun v hp' => K v ∧ hp' = hp) := by
  intro args K h hp
  unfold c_sadd at h; split at h
  · rename_i a b
    refine pcall mix gf6 (fn := Try.f21) (by kernel_rfl) (by kernel_rfl) (by kernel_rfl) rfl rfl (fun hr => ?_) hp
    simp only [rgs, rg, Bool.and_eq_true] at hr
    refine (t_sadd I (fun v => K v ∧ cl v = true) a b).mpr ?_
    refine ⟨h _ ?_, rfl⟩
    unfold SumR; rw [w_u64, w_u64]; omega
  · exact h.elim
theorem k_fold : ∀ (args : List AV) (K : AV → Prop), c_fold args K → ∀ hp, ACall I P 22 args hp (fun v hp' => K v ∧ hp' = hp) := by
  intro args K h hp
  unfold c_fold at h; split at h
  · rename_i a b
    refine pcall mix gf6 (fn := Try.f22) (by kernel_rfl) (by kernel_rfl) (by kernel_rfl) rfl rfl (fun hr => ?_) hp
    simp only [rgs, rg, Bool.and_eq_true] at hr
    refine (t_fold I (fun v => K v ∧ cl v = true) a b).mpr ?_
    exact ⟨h, rfl⟩
  · exact h.elim
theorem k_far : ∀ (args : List AV) (K : AV → Prop), c_far args K → ∀ hp, ACall I P 54 args hp (fun v hp' => K v ∧ hp' = hp) := by
  intro args K h hp
  unfold c_far at h; split at h
  · rename_i a b c d
    refine pcall mix gf6 (fn := Try.f54) (by kernel_rfl) (by kernel_rfl) (by kernel_rfl) rfl rfl (fun hr => ?_) hp
    simp only [rgs, rg, Bool.and_eq_true] at hr
    refine (t_far I (fun v => K v ∧ cl v = true) a b c d).mpr ?_
    intro n m
    refine bsplit_both (fun hx h l e m2 => ⟨?_, rfl⟩) (fun hx h l e m2 => ⟨?_, rfl⟩)
    · rename_i h'
      refine h' _ _ _ (.inl ⟨?_, m2⟩)
      have hx : n < 0 := by simpa using hx
      unfold CmpR at m; omega
    · rename_i h'
      refine h' _ _ _ (.inr ⟨?_, m2⟩)
      have hx : ¬ n < 0 := by simpa using hx
      unfold CmpR at m; omega
  · exact h.elim
theorem k_short : ∀ (args : List AV) (K : AV → Prop), c_short args K → ∀ hp, ACall I P 24 args hp (fun v hp' => K v ∧ hp' = hp) := by
  intro args K h hp
  unfold c_short at h; split at h
  · rename_i s
    refine pcall mix gf6 (fn := Try.f24) (by kernel_rfl) (by kernel_rfl) (by kernel_rfl) rfl rfl (fun hr => ?_) hp
    simp only [rgs, rg, Bool.and_eq_true] at hr
    refine (t_short I (fun v => K v ∧ cl v = true) s).mpr ?_
    have hs := r_i64 hr.1
    refine bsplit_both (fun hx => ⟨h _ _ (.inl ⟨.inl (by simpa using hx), rfl, rfl⟩), rfl⟩) (fun hx => ?_)
    have hx : 0 ≤ s := by simpa using hx
    rw [Int.tdiv_eq_ediv_of_nonneg hx, Int.tmod_eq_emod_of_nonneg hx, s_i64 (n := s / 65536) (by omega)]
    have e : s / 65536 + (if 1 < s % 65536 then 1 else s % 65536) = (s + 65535) / 65536 := by split <;> omega
    rw [e, s_i64 (n := (s + 65535) / 65536) (by omega)]
    refine bsplit_both (fun hy => ⟨h _ _ (.inl ⟨.inr ?_, rfl, rfl⟩), rfl⟩) (fun hy => ⟨h _ _ (.inr ⟨hx, ?_, ?_, rfl⟩), rfl⟩)
    · have hy : (s + 65535) / 65536 ≥ 4294967296 := by simpa using hy
      omega
    · have hy : (s + 65535) / 65536 < 4294967296 := by simpa using hy
      omega
    · have hy : (s + 65535) / 65536 < 4294967296 := by simpa using hy
      rw [w_u32]; omega
  · exact h.elim
theorem k_long : ∀ (args : List AV) (K : AV → Prop), c_long args K → ∀ hp, ACall I P 28 args hp (fun v hp' => K v ∧ hp' = hp) := by
  intro args K h hp
  unfold c_long at h; split at h
  · rename_i n
    refine pcall mix gf6 (fn := Try.f28) (by kernel_rfl) (by kernel_rfl) (by kernel_rfl) rfl rfl (fun hr => ?_) hp
    simp only [rgs, rg, Bool.and_eq_true] at hr
    refine (t_long I (fun v => K v ∧ cl v = true) n).mpr ?_
    have hn := r_u32 hr.1
    rw [s_i64 (n := n) (by omega), s_i64 (n := n * 65536) (by omega)]
    exact ⟨h, rfl⟩
  · exact h.elim
theorem k_micros : ∀ (args : List AV) (K : AV → Prop), c_micros args K → ∀ hp, ACall I P 29 args hp (fun v hp' => K v ∧ hp' = hp) := by
  intro args K h hp
  unfold c_micros at h; split at h
  · rename_i s
    refine pcall mix gf6 (fn := Try.f29) (by kernel_rfl) (by kernel_rfl) (by kernel_rfl) rfl rfl (fun hr => ?_) hp
    simp only [rgs, rg, Bool.and_eq_true] at hr
    refine (t_micros I (fun v => K v ∧ cl v = true) s).mpr ?_
    have hs := r_i64 hr.1
    intro n e m
    have : n = s * 1000000 / 4294967296 := by unfold PartR I64R at m; omega
    rw [this]; exact ⟨h, rfl⟩
  · exact h.elim
theorem k_ticks : ∀ (args : List AV) (K : AV → Prop), c_ticks args K → ∀ hp, ACall I P 27 args hp (fun v hp' => K v ∧ hp' = hp) := by
  intro args K h hp
  unfold c_ticks at h; split at h
  · rename_i s
    refine pcall mix gf6 (fn := Try.f27) (by kernel_rfl) (by kernel_rfl) (by kernel_rfl) rfl rfl (fun hr => ?_) hp
    simp only [rgs, rg, Bool.and_eq_true] at hr
    refine (t_ticks I (fun v => K v ∧ cl v = true) s).mpr ?_
    intro n e m
    refine ⟨h _ _ ?_, rfl⟩
    unfold PartR at m
    rcases m with m | m
    · omega
    · exact m.2
  · exact h.elim
theorem gs0 : GOk I P (Gm S0) := by
  refine Gm.consP ?_ k_diff
  refine Gm.consP ?_ k_sadd
  refine Gm.consP ?_ k_fold
  refine Gm.consP ?_ k_far
  refine Gm.consP ?_ k_short
  refine Gm.consP ?_ k_long
  refine Gm.consP ?_ k_micros
  refine Gm.consP ?_ k_ticks
  exact gf6
theorem far_ok {x y h l e : Int} (m : FarR x y h l e) (he : e = 0) : Nm h l ((x - y).natAbs : Int) := by
  unfold FarR AddR at m
  rcases m with ⟨h1, m⟩ | ⟨h1, m⟩
  · have : ((x - y).natAbs : Int) = y - x := by omega
    rw [this]; rcases m with m | m; exact m.2; omega
  · have : ((x - y).natAbs : Int) = x - y := by omega
    rw [this]; rcases m with m | m; exact m.2; omega
theorem far_no {x y h l e : Int} (m : FarR x y h l e) (he : e ≠ 0) : x - y < -170141183460469231731687303715884105727 ∨ 170141183460469231731687303715884105727 < x - y := by
  unfold FarR AddR at m; omega
theorem k_nearer : ∀ (args : List AV) (K : AV → Prop), c_nearer args K → ∀ hp, ACall I P 35 args hp (fun v hp' => K v ∧ hp' = hp) := by
  intro args K h hp
  unfold c_nearer at h; split at h
  · rename_i p q a b c d
    refine pcall mix gs0 (fn := Try.f35) (by kernel_rfl) (by kernel_rfl) (by kernel_rfl) rfl rfl (fun hr => ?_) hp
    simp only [rgs, rg, Bool.and_eq_true] at hr
    refine (t_nearer I (fun v => K v ∧ cl v = true) p q a b c d).mpr ?_
    intro h0 l0 e0 m0 h1 l1 e1 m1
    refine bsplit_both (fun hx => ⟨h _ (.inl ⟨?_, rfl⟩), rfl⟩) (fun hx => ?_)
    · have := far_no m0 (by simpa using hx); omega
    have x0 := far_ok m0 (by simpa using hx)
    refine bsplit_both (fun hx => ⟨h _ (.inl ⟨?_, rfl⟩), rfl⟩) (fun hx => ?_)
    · have := far_no m1 (by simpa using hx); omega
    have x1 := far_ok m1 (by simpa using hx)
    have key := nm_iff x0 x1
    refine bsplit_both (fun hx n m => ⟨h _ (.inr (.inl ⟨?_, m⟩)), rfl⟩) (fun hx n m => ⟨h _ (.inr (.inr ⟨?_, ?_⟩)), rfl⟩)
    · exact key.1 (by simpa using hx)
    · exact fun he => by have := key.2 he; simp [this] at hx
    · rw [x0.2.2, x1.2.2] at m; exact m
  · exact h.elim
theorem gs1 : GOk I P (Gm S1) := Gm.consP gs0 k_nearer
theorem k_blen64 : ∀ (args : List AV) (K : AV → Prop), c_blen args K → ∀ hp, ACall I P 71 args hp (fun v hp' => K v ∧ hp' = hp) := by
  intro args K h hp
  unfold c_blen at h; split at h
  · refine pcall mix gf6 (fn := Try.f71) (by kernel_rfl) (by kernel_rfl) (by kernel_rfl) rfl rfl (fun hr => ?_) hp
    exact (t_blen64 I (fun v => K v ∧ cl v = true) 0).mpr ⟨h, rfl⟩
  · exact h.elim
theorem gs2 : GOk I P (Gm S2) := Gm.consP gs1 k_blen64
theorem k_blen : ∀ (args : List AV) (K : AV → Prop), c_blen args K → ∀ hp, ACall I P 53 args hp (fun v hp' => K v ∧ hp' = hp) := by
  intro args K h hp
  unfold c_blen at h; split at h
  · refine pcall mix gs2 (fn := Try.f53) (by kernel_rfl) (by kernel_rfl) (by kernel_rfl) rfl rfl (fun hr => ?_) hp
    exact (t_blen I (fun v => K v ∧ cl v = true) 0).mpr ⟨h, rfl⟩
  · exact h.elim
theorem k_isort : ∀ (args : List AV) (hp : Tr (AO O)) (nx : Nat) (K : AV → Tr (AO O) → Nat → Prop), c_isort args hp nx K → ACall I P 62 args hp (fun v hp' => ∃ nx', K v hp' nx') := by
  intro args hp nx K h
  unfold c_isort at h; split at h
  · rename_i n p q
    split at h
    · rename_i a b c d hb hg
      refine hcall1g mix gs1 (fn := Try.f62) (by kernel_rfl) (by kernel_rfl) (by kernel_rfl) (fun n => .sl n 0 2 2) (fun ι => rfl) (fun d hd => by simp [nm, hd]) rfl hb hg rfl rfl (nx := nx) (fun hr hl => ?_)
      refine (t_isort I _ p q a b c d).mpr ?_
      refine ALoop.start [] [0, 1, 2, 3, 8] 1 (j_is p q a b c d 1) (by kernel_rfl) (by kernel_rfl) ?_
      refine ALoop.stepg [] [0, 1, 2, 3, 8] 1 ?_
      refine (t_isA I _ _ p q a b c d).mpr ?_
      refine ALoop.start [] [0, 1, 2, 3, 8, 9] 1 (j_in p q a b c d 1) (by kernel_rfl) (by kernel_rfl) ?_
      refine ALoop.stepg [] [0, 1, 2, 3, 8, 9] 1 ?_
      refine (t_isIn1 I _ _ _ p q a b c d).mpr ?_
      intro r m
      refine bsplit_both (fun hx => ?_) (fun hx => ?_)
      · have hx : r < 0 := by simpa using hx
        refine ALoop.stepg (s := j_in p q c d a b 0) [] [0, 1, 2, 3, 8, 9] 1 ?_
        refine (t_isIn0 I _ _ _ p q c d a b).mpr ?_
        refine ALoop.stepg (s := j_is p q c d a b 2) [] [0, 1, 2, 3, 8] 1 ?_
        exact (t_isC I _ _ p q c d a b).mpr ⟨rfl, .inr ⟨_, rfl, rfl, (h r m).1 hx⟩⟩
      · have hx : 0 ≤ r := by simpa using hx
        refine ALoop.stepg (s := j_is p q a b c d 2) [] [0, 1, 2, 3, 8] 1 ?_
        exact (t_isC I _ _ p q a b c d).mpr ⟨rfl, .inl ⟨rfl, (h r m).2 hx⟩⟩
    · exact h.elim
  · exact h.elim
theorem gs3 : GOk I P (Gm S3) := Gm.consP (Gm.consH gs2 k_isort) k_blen
theorem k_pdq : ∀ (args : List AV) (hp : Tr (AO O)) (nx : Nat) (K : AV → Tr (AO O) → Nat → Prop), c_pdq args hp nx K → ACall I P 52 args hp (fun v hp' => ∃ nx', K v hp' nx') := by
  intro args hp nx K h
  unfold c_pdq at h; split at h
  · rename_i n p q
    split at h
    · rename_i a b c d hb hg
      refine hcall1g mix gs3 (fn := Try.f52) (by kernel_rfl) (by kernel_rfl) (by kernel_rfl) (fun n => .sl n 0 2 2) (fun ι => rfl) (fun d hd => by simp [nm, hd]) rfl hb hg rfl rfl (nx := nx) (fun hr hl => ?_)
      refine (t_pdq I _ p q a b c d).mpr ?_
      refine ALoop.start [] [0, 1, 2, 3, 4, 10, 11] 1 (j_pdq p q a b c d) (by kernel_rfl) (by kernel_rfl) ?_
      refine ALoop.stepg [] [0, 1, 2, 3, 4, 10, 11] 1 ?_
      refine (t_pdqA I _ _ p q a b c d).mpr ?_
      exact fun r m => ⟨fun hx => ⟨rfl, .inr ⟨_, rfl, rfl, (h r m).1 hx⟩⟩, fun hx => ⟨rfl, .inl ⟨rfl, (h r m).2 hx⟩⟩⟩
    · exact h.elim
  · exact h.elim
theorem gs4 : GOk I P (Gm S4) := Gm.consH gs3 k_pdq
theorem k_sortf : ∀ (args : List AV) (hp : Tr (AO O)) (nx : Nat) (K : AV → Tr (AO O) → Nat → Prop), c_sortf args hp nx K → ACall I P 34 args hp (fun v hp' => ∃ nx', K v hp' nx') := by
  intro args hp nx K h
  unfold c_sortf at h; split at h
  · rename_i n p q
    split at h
    · rename_i a b c d hb hg
      refine hcall1g mix gs4 (fn := Try.f34) (by kernel_rfl) (by kernel_rfl) (by kernel_rfl) (fun n => .sl n 0 2 2) (fun ι => rfl) (fun d hd => by simp [nm, hd]) rfl hb hg rfl rfl (nx := nx) (fun hr hl => ?_)
      refine (t_sortf I _ p q a b c d).mpr ?_
      exact fun r m => ⟨fun hx => ⟨rfl, .inr ⟨_, rfl, rfl, (h r m).1 hx⟩⟩, fun hx => ⟨rfl, .inl ⟨rfl, (h r m).2 hx⟩⟩⟩
    · exact h.elim
  · exact h.elim
theorem gs5 : GOk I P (Gm S5) := Gm.consH gs4 k_sortf
theorem k_near : ∀ (args : List AV) (K : AV → Prop), c_near args K → ∀ hp, ACall I P 12 args hp (fun v hp' => K v ∧ hp' = hp) := by
  intro args K h hp
  unfold c_near at h; split at h
  · rename_i s h0 l0
    refine pcall mix gs5 (fn := Try.f12) (by kernel_rfl) (by kernel_rfl) (by kernel_rfl) rfl rfl (fun hr => ?_) hp
    simp only [rgs, rg, Bool.and_eq_true] at hr
    refine (t_near I (fun v => K v ∧ cl v = true) s h0 l0).mpr ?_
    obtain ⟨hs, ⟨hh, hl, _⟩, _⟩ := hr
    have hs := r_u64 hs; have hh := r_i64 hh; have hl := r_u64 hl
    intro d md h1 l1 m1 h2 l2 e2 m2
    rw [m1.2.2] at m2
    unfold DiffR at md
    refine bsplit_both (fun hx => ⟨h _ _ _ ⟨d, ?_, md.2, m2⟩, rfl⟩) (fun hx => ?_)
    · have hx : d ≠ -9223372036854775808 := by simpa using hx
      omega
    have hx : d = -9223372036854775808 := by simpa using hx
    subst hx
    intro h3 l3 m3 h4 l4 e4 m4
    rw [m3.2.2, show vl h0 l0 - -9223372036854775808 = vl h0 l0 + 9223372036854775808 by omega] at m4
    have fin : NearR s h0 l0 h4 l4 e4 := ⟨9223372036854775808, by omega, by omega, m4⟩
    refine bsplit_both (fun hy => ⟨h _ _ _ ?_, rfl⟩) (fun hy => ?_)
    · have hy : e4 ≠ 0 := by simpa using hy
      have : h4 = 0 ∧ l4 = 0 := by unfold AddR at m4; omega
      rw [this.1, this.2] at fin; exact fin
    have hy : e4 = 0 := by simpa using hy
    refine bsplit_both (fun hz => ⟨h _ _ _ fin, rfl⟩) (fun hz => ?_)
    have hz : e2 = 0 := by simpa using hz
    subst hy; subst hz
    intro r mr
    have x4 : vl h4 l4 = vl h0 l0 + 9223372036854775808 := by unfold AddR Nm at m4; omega
    have x2 : vl h2 l2 = vl h0 l0 + -9223372036854775808 := by unfold AddR Nm at m2; omega
    rw [x4, x2] at mr
    have : r = -1 := by unfold NearerR CmpR at mr; omega
    exact ⟨fun _ => ⟨h _ _ _ fin, rfl⟩, fun hr => by omega⟩
  · exact h.elim
theorem gs6 : GOk I P (Gm S6) := Gm.consP gs5 k_near
end Go.Tb.W

/- What is fixed of stamps is so; the laws without the document's answer. -/
set_option linter.all false
set_option maxRecDepth 100000
namespace Go.Tb.W
open Go Go.Proofs
variable {I : Interp O}
abbrev Tru : AV → Prop := fun v => v = .bool true ∧ cl v = true
theorem tru {b : Bool} (h : b = true) : Tru (.bool b) := by subst h; exact ⟨rfl, rfl⟩
theorem k_awake : ∀ (args : List AV) (K : AV → Prop), c_awake args K → ∀ hp, ACall I P 11 args hp (fun v hp' => K v ∧ hp' = hp) := by
  intro args K h hp
  unfold c_awake at h; split at h
  · refine pcall mix gs6 (fn := Try.f11) (by kernel_rfl) (by kernel_rfl) (by kernel_rfl) rfl rfl (fun hr => ?_) hp
    refine (t_awake I (fun v => K v ∧ cl v = true)).mpr ?_
    intro h0 l0 e0 m0
    obtain ⟨rfl, rfl, rfl⟩ : h0 = 1 ∧ l0 = 5 ∧ e0 = 0 := by
      obtain ⟨d, hd, hm, m0⟩ := m0
      obtain rfl : d = 5 := by omega
      unfold AddR Nm vl at m0; omega
    intro h1 l1 e1 m1
    obtain ⟨rfl, rfl, rfl⟩ : h1 = 0 ∧ l1 = 9223372036854775808 ∧ e1 = 0 := by
      obtain ⟨d, hd, hm, m1⟩ := m1
      obtain rfl : d = 9223372036854775808 := by omega
      unfold AddR Nm vl at m1; omega
    intro n2 e2 m2
    obtain ⟨rfl, rfl⟩ : n2 = 2 ∧ e2 = 0 := by unfold ShortR at m2; omega
    intro n3 e3 m3
    obtain rfl : e3 = 3 := by unfold ShortR at m3; omega
    intro n4 e4 m4
    obtain ⟨rfl, rfl⟩ : n4 = 4294967296 ∧ e4 = 0 := by unfold I64R at m4; omega
    intro h5 l5 m5 h6 l6 m6 n7 e7 m7
    obtain ⟨rfl, rfl⟩ : n7 = -4 ∧ e7 = 0 := by unfold Nm at m5 m6; unfold I64R at m7; omega
    intro d8 m8
    obtain rfl : d8 = 2 := by unfold DiffR at m8; omega
    refine bsT rfl ?_
    intro d9 m9
    obtain rfl : d9 = 1 := by unfold SumR at m9; omega
    exact ⟨h, rfl⟩
  · exact h.elim
theorem gs7 : GOk I P (Gm S7) := Gm.consP gs6 k_awake
theorem l_adds (a b s : Int) (hp : Tr (AO O)) : ACall I P 5 [.int .u64 a, .int .u64 b, .int .i64 s] hp (fun v hp' => v = .bool true ∧ hp' = hp) := by
  refine pcall mix gs7 (fn := Try.f5) (by kernel_rfl) (by kernel_rfl) (by kernel_rfl) rfl rfl (fun hr => ?_) hp
  simp only [rgs, rg, Bool.and_eq_true] at hr
  have ha := r_u64 hr.1; have hb := r_u64 hr.2.1; have hs := r_i64 hr.2.2.1
  refine (t_adds I Tru a b s).mpr ?_
  intro d0 m0 d1 m1
  unfold SumR at m0; unfold DiffR at m1
  refine bsT (by simp; omega) (fun d2 m2 d3 m3 => ?_)
  unfold DiffR at m2; unfold SumR at m3
  refine bsT (by simp; omega) (fun d4 m4 d5 m5 => ?_)
  unfold DiffR at m4 m5
  refine bsT (by rw [w_i64]; simp; omega) (fun d6 m6 => ?_)
  unfold DiffR at m6
  exact tru (by simp; omega)
theorem l_back (h l o : Int) (hp : Tr (AO O)) : ACall I P 6 [.agg [.int .i64 h, .int .u64 l], .int .i64 o] hp (fun v hp' => v = .bool true ∧ hp' = hp) := by
  refine pcall mix gs7 (fn := Try.f6) (by kernel_rfl) (by kernel_rfl) (by kernel_rfl) rfl rfl (fun hr => ?_) hp
  simp only [rgs, rg, Bool.and_eq_true] at hr
  obtain ⟨⟨hh, hl, _⟩, ho, _⟩ := hr
  have hh := r_i64 hh; have hl := r_u64 hl; have ho := r_i64 ho
  refine (t_back I Tru h l o).mpr (bsplit_both (fun _ => tru rfl) (fun hx => ?_))
  have hx : o ≠ -9223372036854775808 := by simpa using hx
  intro h0 l0 m0 h1 l1 e1 m1
  rw [m0.2.2] at m1
  refine bsplit_both (fun _ => tru rfl) (fun he => ?_)
  have he : e1 = 0 := by simpa using he
  subst he
  have m1 : Nm h1 l1 (vl h l + o) := by rcases m1 with m1 | m1; exact m1.2; omega
  intro h2 l2 e2 m2 n3 e3 m3
  have hv := m1.2.2
  obtain ⟨rfl, rfl, rfl⟩ : h2 = h ∧ l2 = l ∧ e2 = 0 := by
    obtain ⟨d, hd, hm, m2⟩ := m2
    have : d = -o := by unfold Nm at m1; unfold vl at m1 hv; omega
    subst this
    rw [hv, show vl h l + o + -o = vl h l by omega] at m2
    have hs := nm_self hh hl
    have hb := nm_bound hs
    rcases m2 with m2 | m2
    · have := nm_inj m2.2 hs; exact ⟨this.1, this.2, m2.1⟩
    · omega
  rw [hv, show vl h2 l2 + o - vl h2 l2 = o by omega] at m3
  obtain ⟨rfl, rfl⟩ : n3 = o ∧ e3 = 0 := by unfold I64R at m3; omega
  exact bsT rfl (bsT (by simp) (bsT rfl (tru (by simp))))
theorem l_short (s n : Int) (hp : Tr (AO O)) : ACall I P 7 [.int .i64 s, .int .u32 n] hp (fun v hp' => v = .bool true ∧ hp' = hp) := by
  refine pcall mix gs7 (fn := Try.f7) (by kernel_rfl) (by kernel_rfl) (by kernel_rfl) rfl rfl (fun hr => ?_) hp
  simp only [rgs, rg, Bool.and_eq_true] at hr
  have hs := r_i64 hr.1; have hn := r_u32 hr.2.1
  refine (t_shortl I Tru s n).mpr ?_
  intro n0 e0 m0
  obtain ⟨rfl, rfl⟩ : n0 = n ∧ e0 = 0 := by unfold ShortR at m0; omega
  refine bsF (by simp) (bsF rfl (fun n1 e1 m1 => ?_))
  unfold ShortR at m1
  refine bsplit_both (fun he => ?_) (fun he => ?_)
  · have he : e1 ≠ 0 := by simpa using he
    refine bsT (by simp; omega) (bsT (by simp; omega) (bsplit_both (fun _ => tru rfl) (fun hx => tru ?_)))
    have : ¬ s < 0 := by simpa using hx
    simp; omega
  · have he : e1 = 0 := by simpa using he
    refine bsT (by simp; omega) (tru ?_)
    rw [s_i64 (by omega)]; simp; omega
theorem tm_bd (a : Int) (m : Int) (hm : 0 < m) : -m < a.tmod m ∧ a.tmod m < m := by
  have h := Int.natAbs_tmod a m
  have h2 : (a.tmod m).natAbs < m.natAbs := by rw [h]; exact Nat.mod_lt _ (by omega)
  omega
theorem l_micros (n : Int) (hp : Tr (AO O)) : ACall I P 8 [.int .i64 n] hp (fun v hp' => v = .bool true ∧ hp' = hp) := by
  refine pcall mix gs7 (fn := Try.f8) (by kernel_rfl) (by kernel_rfl) (by kernel_rfl) rfl rfl (fun hr => ?_) hp
  refine (t_microsl I Tru n).mpr ?_
  have b := tm_bd n 1125899906842624 (by decide)
  generalize n.tmod 1125899906842624 = n at *
  intro n0 e0 m0 n1 e1 m1
  unfold I64R at m0 m1
  obtain ⟨rfl, h0⟩ : e0 = 0 ∧ n0 = n * 4294967296 / 1000000 := by omega
  obtain ⟨rfl, h1⟩ : e1 = 0 ∧ n1 = n * 1000000 / 4294967296 * 4294967296 / 1000000 := by omega
  refine bsT rfl (bsT rfl (bsT (by simp; omega) (bsT ?_ (tru (by simp; omega)))))
  rw [s_i64 (by omega)]; simp; omega
theorem td_bd {a : Int} (h : -9223372036854775808 ≤ a ∧ a ≤ 9223372036854775807) : -4611686018427387904 ≤ a.tdiv 2 ∧ a.tdiv 2 ≤ 4611686018427387903 := by
  rcases Int.le_total 0 a with h0 | h0
  · rw [Int.tdiv_eq_ediv_of_nonneg h0]; omega
  · have : a = -(-a) := by omega
    rw [this, Int.neg_tdiv, Int.tdiv_eq_ediv_of_nonneg (show 0 ≤ -a by omega)]; omega
/-- A stamp's moment, near a pivot. -/
theorem near_of {h l a h1 l1 h2 l2 e : Int} (hh : -9223372036854775808 ≤ h ∧ h ≤ 9223372036854775807) (hl : 0 ≤ l ∧ l ≤ 18446744073709551615) (ha : -4611686018427387904 ≤ a ∧ a ≤ 4611686018427387904) (m1 : Nm h1 l1 (vl h l + a)) (m2 : NearR l1 h l h2 l2 e) : e = 0 ∧ Nm h2 l2 (vl h l + a) := by
  obtain ⟨d, hd, hm, m2⟩ := m2
  have hb := nm_bound m1
  have : d = a := by unfold Nm vl at m1; omega
  subst this
  rcases m2 with m2 | m2
  · exact m2
  · omega
theorem l_order (h l a b : Int) (hp : Tr (AO O)) : ACall I P 9 [.agg [.int .i64 h, .int .u64 l], .int .i64 a, .int .i64 b] hp (fun v hp' => v = .bool true ∧ hp' = hp) := by
  refine pcall mix gs7 (fn := Try.f9) (by kernel_rfl) (by kernel_rfl) (by kernel_rfl) rfl rfl (fun hr => ?_) hp
  simp only [rgs, rg, Bool.and_eq_true] at hr
  obtain ⟨⟨hh, hl, _⟩, ha, hb, _⟩ := hr
  have hh := r_i64 hh; have hl := r_u64 hl; have ha := td_bd (r_i64 ha); have hb := td_bd (r_i64 hb)
  refine (t_orderl I Tru h l a b).mpr ?_
  generalize a.tdiv 2 = a at *
  generalize b.tdiv 2 = b at *
  rw [s_i64 (n := a) (by omega), s_i64 (n := b) (by omega), s_i64 (n := a - b) (by omega)]
  intro h0 l0 m0 h1 l1 e1 m1 h2 l2 m2 h3 l3 e3 m3
  rw [m0.2.2] at m1; rw [m2.2.2] at m3
  refine bsplit_both (fun _ => tru rfl) (fun he => bsplit_both (fun _ => tru rfl) (fun hf => ?_))
  have he : e1 = 0 := by simpa using he
  have hf : e3 = 0 := by simpa using hf
  have m1 : Nm h1 l1 (vl h l + a) := by rcases m1 with m1 | m1; exact m1.2; omega
  have m3 : Nm h3 l3 (vl h l + b) := by rcases m3 with m3 | m3; exact m3.2; omega
  intro h4 l4 e4 m4 h5 l5 e5 m5
  obtain ⟨rfl, x4⟩ := near_of hh hl (by omega) m1 m4
  obtain ⟨rfl, x5⟩ := near_of hh hl (by omega) m3 m5
  refine bsT rfl (bsT rfl (fun n mn => ?_))
  rw [x4.2.2, x5.2.2] at mn
  refine bsT ?_ (fun d md => tru ?_)
  · unfold CmpR at mn
    by_cases hab : a < b
    · have : n < 0 := by omega
      simp [hab, this]
    · have : ¬ n < 0 := by omega
      simp [hab, this]
  · unfold DiffR at md
    have : d = a - b := by unfold Nm vl at m1 m3; omega
    simp [this]
theorem l_since (h l a b : Int) (hp : Tr (AO O)) : ACall I P 10 [.agg [.int .i64 h, .int .u64 l], .int .i64 a, .int .i64 b] hp (fun v hp' => v = .bool true ∧ hp' = hp) := by
  refine pcall mix gs7 (fn := Try.f10) (by kernel_rfl) (by kernel_rfl) (by kernel_rfl) rfl rfl (fun hr => ?_) hp
  simp only [rgs, rg, Bool.and_eq_true] at hr
  obtain ⟨⟨hh, hl, _⟩, _⟩ := hr
  have hh := r_i64 hh; have hl := r_u64 hl
  refine (t_sincel I Tru h l a b).mpr ?_
  have ba := tm_bd a 2305843009213693952 (by decide)
  have bb := tm_bd b 2305843009213693952 (by decide)
  generalize a.tmod 2305843009213693952 = a at *
  generalize b.tmod 2305843009213693952 = b at *
  rw [s_i64 (n := a + b) (by omega)]
  intro h0 l0 m0 h1 l1 e1 m1 h2 l2 m2 h3 l3 e3 m3
  rw [m0.2.2] at m1; rw [m2.2.2] at m3
  refine bsplit_both (fun _ => tru rfl) (fun he => bsplit_both (fun _ => tru rfl) (fun hf => ?_))
  have he : e1 = 0 := by simpa using he
  have hf : e3 = 0 := by simpa using hf
  have m1 : Nm h1 l1 (vl h l + a) := by rcases m1 with m1 | m1; exact m1.2; omega
  have x1 := m1.2.2
  rw [x1] at m3
  have m3 : Nm h3 l3 (vl h l + a + b) := by rcases m3 with m3 | m3; exact m3.2; omega
  have x3 := m3.2.2
  rw [x1, x3]
  intro n4 e4 m4 n5 e5 m5 n6 e6 m6 n7 e7 m7
  obtain ⟨rfl, rfl⟩ : n4 = a ∧ e4 = 0 := by unfold I64R at m4; omega
  obtain ⟨rfl, rfl⟩ : n5 = b ∧ e5 = 0 := by unfold I64R at m5; omega
  obtain ⟨rfl, rfl⟩ : n6 = n4 + n5 ∧ e6 = 0 := by unfold I64R at m6; omega
  obtain ⟨rfl, rfl⟩ : n7 = -(n4 + n5) ∧ e7 = 0 := by unfold I64R at m7; omega
  rw [s_i64 (n := 0 - (n4 + n5)) (by omega)]
  refine bsT rfl (bsT rfl (bsT rfl (bsT rfl (bsT (by simp) (bsT (by simp) (bsT (by simp) (bsT (by simp) (fun d md => tru ?_))))))))
  unfold DiffR at md
  have : d = n4 + n5 := by unfold Nm vl at m3; omega
  simp [this]
end Go.Tb.W

/- The document's stamps: what its functions tell. -/
set_option linter.all false
set_option maxRecDepth 100000
namespace Go.Tb.W
open Go Go.Proofs
def c_era (args : List AV) (hp : Tr (AO O)) (nx : Nat) (K : AV → Tr (AO O) → Nat → Prop) : Prop := match args with
  | [] => match Nat.blt nx 16777215, hp.get nx with
    | true, none => ∀ (u : Bool) (zs : List Rw) (j e room : Nat), NR u zs j 18446744073709551616 → K (.agg [.bool u, .sl nx 0 j e]) (hp.set nx (some (.rows 4 [.b] zs room))) (nx + 1)
    | _, _ => False
  | _ => False
/-- r is v but for eras. -/
def FoldR (v r : Int) : Prop := (0 ≤ r ∧ r ≤ 18446744073709551615) ∧ (r - v) % 18446744073709551616 = 0
def c_rfold (args : List AV) (hp : Tr (AO O)) (nx : Nat) (K : AV → Tr (AO O) → Nat → Prop) : Prop := match args with
  | [.agg [.bool s, .sl n 0 l c]] => match Nat.blt n 16777215, hp.get n with
    | true, some (.rows 4 [.b] xs room) => (Pre s xs l ∧ l ≤ 800) ∧ ∀ r, FoldR (nv s xs l) r → K (.int .u64 r) hp nx
    | _, _ => False
  | _ => False
def c_rsince (args : List AV) (hp : Tr (AO O)) (nx : Nat) (K : AV → Tr (AO O) → Nat → Prop) : Prop := match args with
  | [.agg [.bool s, .sl n 0 l c], .agg [.bool t, .sl m 0 k d]] => match Nat.blt n 16777215 && Nat.blt m 16777215 && !Nat.beq n m, hp.get n, hp.get m with
    | true, some (.rows 4 [.b] xs r1), some (.rows 4 [.b] ys r2) => (Pre s xs l ∧ Pre t ys k ∧ l ≤ 400 ∧ k ≤ 400) ∧ ∀ x e, I64R (nv s xs l - nv t ys k) x e → K (.tup [.int .i64 x, .int .i64 e]) hp nx
    | _, _, _ => False
  | _ => False
/-- x is one of the moments of the stamp s, the nearest one to v. -/
def NearV (s v x : Int) : Prop := (-9223372036854775808 < x - v ∧ x - v ≤ 9223372036854775808) ∧ (x - s) % 18446744073709551616 = 0
def c_rnear (args : List AV) (hp : Tr (AO O)) (nx : Nat) (K : AV → Tr (AO O) → Nat → Prop) : Prop := match args with
  | [.int .u64 s, .agg [.bool t, .sl n 0 l c]] => match Nat.blt n 16777215 && Nat.blt nx 16777215, hp.get n, hp.get nx with
    | true, some (.rows 4 [.b] xs room), none => (Pre t xs l ∧ l ≤ 128) ∧ ∀ (x : Int) (u : Bool) (zs : List Rw) (j e room : Nat), NearV s (nv t xs l) x → NR u zs j x → K (.agg [.bool u, .sl nx 0 j e]) (hp.set nx (some (.rows 4 [.b] zs room))) (nx + 1)
    | _, _, _ => False
  | _ => False
def c_rsumS (args : List AV) (hp : Tr (AO O)) (nx : Nat) (K : AV → Tr (AO O) → Nat → Prop) : Prop := match args with
  | [.sl n 0 l c, .sl m 0 k d] => match Nat.beq n m && (Nat.blt n 16777215 && Nat.blt nx 16777215), hp.get n, hp.get nx with
    | true, some (.rows 4 [.b] xs r1), none => (l = k ∧ c = d ∧ lenB xs l) ∧ ∀ (zs : List Rw) (e room : Nat), (bv zs = bv (xs.take l) + bv (xs.take l) ∧ zs.length ≤ Nat.max l l + 1) →
      K (.sl nx 0 zs.length e) (hp.set nx (some (.rows 4 [.b] zs room))) (nx + 1)
    | _, _, _ => False
  | _ => False
def c_raddS (args : List AV) (hp : Tr (AO O)) (nx : Nat) (K : AV → Tr (AO O) → Nat → Prop) : Prop := match args with
  | [.agg [.bool s, .sl n 0 l c], .agg [.bool t, .sl m 0 k d]] => match Nat.beq n m && (Nat.blt n 16777215 && Nat.blt nx 16777215), hp.get n, hp.get nx with
    | true, some (.rows 4 [.b] xs r1), none => (s = t ∧ l = k ∧ c = d ∧ Pre s xs l) ∧ ∀ (u : Bool) (zs : List Rw) (j e room : Nat), NR u zs j (nv s xs l + nv s xs l) → K (.agg [.bool u, .sl nx 0 j e]) (hp.set nx (some (.rows 4 [.b] zs room))) (nx + 1)
    | _, _, _ => False
  | _ => False
/-- Sums, of a number and itself too. -/
def c_radd2 (args : List AV) (hp : Tr (AO O)) (nx : Nat) (K : AV → Tr (AO O) → Nat → Prop) : Prop := match args with
  | [.agg [.bool s, .sl n 0 l c], .agg [.bool t, .sl m 0 k d]] => match Nat.beq n m with
    | true => c_raddS [.agg [.bool s, .sl n 0 l c], .agg [.bool t, .sl m 0 k d]] hp nx K
    | false => c_radd [.agg [.bool s, .sl n 0 l c], .agg [.bool t, .sl m 0 k d]] hp nx K
  | _ => False
noncomputable abbrev QS : List (FuncId × Sp O) :=
  (55, .h c_rsumS) ::
  Q0
noncomputable abbrev j_rsumS (l c r : Nat) (xs zs : List Rw) (n e room : Nat) (cy i : Int) : St O := ⟨Tr.setL [(0, .sl 0 0 l c), (1, .sl 0 0 l c), (5, .sl 1 0 n e), (6, .int .i64 cy), (7, .int .i64 i)] .leaf,
  Tr.setL [(0, bo xs r), (1, bo zs room)] .leaf, 2, 46⟩
noncomputable abbrev j_fold (s : Bool) (l c r : Nat) (xs : List Rw) (v : Bool) (j : Nat) (u : Bool) (zs : List Rw) (k e room : Nat) (lo_ i : Int) : St O := ⟨Tr.setL [(1, .ptr 1 0), (3, .ptr 3 0), (4, .ptr 4 0), (5, .int .u64 lo_), (6, .int .i64 i)] .leaf,
  Tr.setL [(0, bo xs r), (1, nO s (.sl 0 0 l c)), (2, bo zs room), (3, nO u (.sl 2 0 k e)), (4, nO v (.sl 0 0 j c))] .leaf, 5, 44⟩
noncomputable abbrev H0 : List (FuncId × Sp O) :=
  (39, .h c_era) ::
  Q3
noncomputable abbrev H1 : List (FuncId × Sp O) :=
  (23, .h c_rfold) ::
  (37, .h c_radd2) ::
  H0
noncomputable abbrev H2 : List (FuncId × Sp O) :=
  (11, .p c_awake) ::
  (20, .p c_diff) ::
  (25, .p c_short) ::
  (26, .p c_rpart) ::
  S6
noncomputable abbrev H3 : List (FuncId × Sp O) :=
  (14, .h c_from) ::
  (15, .h c_fits) ::
  (16, .h c_rwide) ::
  (23, .h c_rfold) ::
  (18, .h c_rsince) ::
  (13, .h c_rnear) ::
  H2
end Go.Tb.W

/- What the functions' bodies come to: each line is what the abstract machine makes of one function, or of one round of a loop, over the contracts of the functions that it calls (the text was printed by a program of mine; Lean proves it again). -/
set_option linter.all false
set_option maxRecDepth 100000
namespace Go.Tb
open Go Go.Proofs
namespace W
theorem t_rdiff (I : Interp O) (K : AV → Prop) (a b : Int) : abody I P (Gm E0) (adraw P (Gm E0)) 0 Try.f20 [.int .u64 a, .int .u64 b] .leaf 0 (fun v _ _ => K v) =
  (bsplit (decide (IntKind.u64.wrap (a - b) ≥ 9223372036854775808)) fun | true => (K (.int IntKind.i64 (IntKind.i64.wrap (IntKind.i64.wrap (0 - IntKind.i64.wrap (bits BinOp.xor IntKind.u64 (if IntKind.u64.signed = true then -1 else IntKind.u64.max) (IntKind.u64.wrap (a - b)))) - 1)))) | false => (K (.int IntKind.i64 (IntKind.i64.wrap (IntKind.u64.wrap (a - b)))))) := by kernel_rfl
theorem t_rshort (I : Interp O) (K : AV → Prop) (s : Int) : abody I P (Gm E0) (adraw P (Gm E0)) 0 Try.f25 [.int .i64 s] .leaf 0 (fun v _ _ => K v) =
  (bsplit (decide (s < 0)) fun | true => (K (.tup [(.int IntKind.u32 (0 : Int)), (.int IntKind.i64 (3 : Int))])) | false => (bsplit (IntKind.i64.wrap (s.fdiv (2 ^ min (Int.toNat 16) IntKind.i64.bits) * 2 ^ min (Int.toNat 16) IntKind.i64.bits) != s) fun | true => (bsplit (decide (IntKind.i64.wrap (s.fdiv (2 ^ min (Int.toNat 16) IntKind.i64.bits) + 1) > 4294967295)) fun | true => (K (.tup [(.int IntKind.u32 (0 : Int)), (.int IntKind.i64 (3 : Int))])) | false => (K (.tup [(.int IntKind.u32 (IntKind.u32.wrap (IntKind.i64.wrap (s.fdiv (2 ^ min (Int.toNat 16) IntKind.i64.bits) + 1)))), (.int IntKind.i64 (0 : Int))]))) | false => (bsplit (decide (s.fdiv (2 ^ min (Int.toNat 16) IntKind.i64.bits) > 4294967295)) fun | true => (K (.tup [(.int IntKind.u32 (0 : Int)), (.int IntKind.i64 (3 : Int))])) | false => (K (.tup [(.int IntKind.u32 (IntKind.u32.wrap (s.fdiv (2 ^ min (Int.toNat 16) IntKind.i64.bits)))), (.int IntKind.i64 (0 : Int))]))))) := by kernel_rfl
theorem t_spansl (I : Interp O) (K : AV → Prop) (s n : Int) : abody I P (Gm H2) (adraw P (Gm H2)) 0 Try.f4 [.int .i64 s, .int .u32 n] .leaf 0 (fun v _ _ => K v) =
  (∀ (n0 : Int), (∀ (e1 : Int), (ShortR s n0 e1 → (∀ (n2 : Int), (∀ (e3 : Int), (ShortR s n2 e3 → (∀ (n4 : Int), (∀ (e5 : Int), (PartR s 1000000 4294967296 n4 e5 → (∀ (n6 : Int), (∀ (e7 : Int), (I64R (s * 4294967296 / 1000000) n6 e7 → (∀ (n8 : Int), (∀ (e9 : Int), (PartR s 4294967296 1000000 n8 e9 → (bsplit (n0 == n2) fun | true => (bsplit (e1 == e3) fun | true => (bsplit (n * 65536 == IntKind.i64.wrap (IntKind.i64.wrap n * 65536)) fun | true => (bsplit (s * 1000000 / 4294967296 == n4) fun | true => (bsplit (e5 == 0) fun | true => (bsplit (n6 == n8) fun | true => (K (.bool (e7 == e9))) | false => (K (.bool false))) | false => (K (.bool false))) | false => (K (.bool false))) | false => (K (.bool false))) | false => (K (.bool false))) | false => (K (.bool false)))))))))))))))))) := by kernel_rfl
end W
end Go.Tb

/- Short spans, and millionths, are as the document says. -/
set_option linter.all false
set_option maxRecDepth 100000
namespace Go.Tb.W
open Go Go.Proofs
variable {I : Interp O}
theorem k_rshort : ∀ (args : List AV) (K : AV → Prop), c_short args K → ∀ hp, ACall I P 25 args hp (fun v hp' => K v ∧ hp' = hp) := by
  intro args K h hp
  unfold c_short at h; split at h
  · rename_i s
    refine pcall mix Gm.nil (fn := Try.f25) (by kernel_rfl) (by kernel_rfl) (by kernel_rfl) rfl rfl (fun hr => ?_) hp
    simp only [rgs, rg, Bool.and_eq_true] at hr
    refine (t_rshort I (fun v => K v ∧ cl v = true) s).mpr ?_
    have hs := r_i64 hr.1
    refine bsplit_both (fun hx => ⟨h _ _ (.inl ⟨.inl (by simpa using hx), rfl, rfl⟩), rfl⟩) (fun hx => ?_)
    have hx : 0 ≤ s := by simpa using hx
    have e1 : s.fdiv (2 ^ min (Int.toNat 16) IntKind.i64.bits) = s / 65536 := shr_eq (b := 65536) s 16 .i64 (by decide) (by decide)
    have e2 : (2 : Int) ^ min (Int.toNat 16) IntKind.i64.bits = 65536 := by decide
    rw [e1, e2]
    rw [s_i64 (n := s / 65536 * 65536) (by omega), s_i64 (n := s / 65536 + 1) (by omega)]
    refine bsplit_both (fun hy => ?_) (fun hy => ?_)
    · have hy : s / 65536 * 65536 ≠ s := by simpa using hy
      refine bsplit_both (fun hz => ⟨h _ _ (.inl ⟨.inr ?_, rfl, rfl⟩), rfl⟩) (fun hz => ⟨h _ _ (.inr ⟨hx, ?_, ?_, rfl⟩), rfl⟩)
      · have hz : s / 65536 + 1 > 4294967295 := by simpa using hz
        omega
      · have hz : s / 65536 + 1 ≤ 4294967295 := by simpa using hz
        omega
      · have hz : s / 65536 + 1 ≤ 4294967295 := by simpa using hz
        rw [w_u32]; omega
    · have hy : s / 65536 * 65536 = s := by simpa using hy
      refine bsplit_both (fun hz => ⟨h _ _ (.inl ⟨.inr ?_, rfl, rfl⟩), rfl⟩) (fun hz => ⟨h _ _ (.inr ⟨hx, ?_, ?_, rfl⟩), rfl⟩)
      · have hz : s / 65536 > 4294967295 := by simpa using hz
        omega
      · have hz : s / 65536 ≤ 4294967295 := by simpa using hz
        omega
      · have hz : s / 65536 ≤ 4294967295 := by simpa using hz
        rw [w_u32]; omega
  · exact h.elim
theorem k_rdiff : ∀ (args : List AV) (K : AV → Prop), c_diff args K → ∀ hp, ACall I P 20 args hp (fun v hp' => K v ∧ hp' = hp) := by
  intro args K h hp
  unfold c_diff at h; split at h
  · rename_i a b
    refine pcall mix Gm.nil (fn := Try.f20) (by kernel_rfl) (by kernel_rfl) (by kernel_rfl) rfl rfl (fun hr => ?_) hp
    simp only [rgs, rg, Bool.and_eq_true] at hr
    refine (t_rdiff I (fun v => K v ∧ cl v = true) a b).mpr ?_
    have ha := r_u64 hr.1; have hb := r_u64 hr.2.1
    have hw : 0 ≤ IntKind.u64.wrap (a - b) ∧ IntKind.u64.wrap (a - b) ≤ 18446744073709551615 := by rw [w_u64]; omega
    rw [not_u64 _ hw]
    have hm : (IntKind.u64.wrap (a - b) - (a - b)) % 18446744073709551616 = 0 := by rw [w_u64]; omega
    generalize IntKind.u64.wrap (a - b) = w at *
    refine bsplit_both (fun hx => ?_) (fun hx => ?_)
    · have hx : w ≥ 9223372036854775808 := by simpa using hx
      rw [s_i64 (n := 18446744073709551615 - w) (by omega), s_i64 (n := 0 - (18446744073709551615 - w)) (by omega), s_i64 (n := 0 - (18446744073709551615 - w) - 1) (by omega)]
      exact ⟨h _ ⟨by omega, by omega⟩, rfl⟩
    · have hx : w < 9223372036854775808 := by simpa using hx
      rw [s_i64 (n := w) (by omega)]
      exact ⟨h _ ⟨by omega, by omega⟩, rfl⟩
  · exact h.elim
theorem gh2 : GOk I P (Gm H2) := by
  refine Gm.consP ?_ k_awake
  refine Gm.consP ?_ k_rdiff
  refine Gm.consP ?_ k_rshort
  refine Gm.consP ?_ k_rpart
  exact gs6
theorem l_spans (s n : Int) (hp : Tr (AO O)) : ACall I P 4 [.int .i64 s, .int .u32 n] hp (fun v hp' => v = .bool true ∧ hp' = hp) := by
  refine (pcall mix gh2 (fn := Try.f4) (K := Tru) (by kernel_rfl) (by kernel_rfl) (by kernel_rfl) rfl rfl (fun hr => ?_) hp).mono fun _ _ h => ⟨h.1.1, h.2⟩
  simp only [rgs, rg, Bool.and_eq_true] at hr
  have hs := r_i64 hr.1; have hn := r_u32 hr.2.1
  refine (t_spansl I (fun v => Tru v ∧ cl v = true) s n).mpr ?_
  intro n0 e1 a0 n2 e3 a1 n4 e5 b0 n6 e7 c0 n8 e9 b1
  have h1 : n0 = n2 ∧ e1 = e3 := by unfold ShortR at a0 a1; omega
  have h2 : s * 1000000 / 4294967296 = n4 ∧ e5 = 0 := by unfold PartR I64R at b0; omega
  have h3 : n6 = n8 ∧ e7 = e9 := by unfold PartR at b1; unfold I64R at b1 c0; omega
  rw [s_i64 (n := n) (by omega), s_i64 (n := n * 65536) (by omega)]
  exact bsT (by simpa using h1.1) (bsT (by simpa using h1.2) (bsT (by simp) (bsT (by simpa using h2.1) (bsT (by simpa using h2.2) (bsT (by simpa using h3.1) ⟨tru (by simpa using h3.2), rfl⟩)))))
end Go.Tb.W

/- What the functions' bodies come to: each line is what the abstract machine makes of one function, or of one round of a loop, over the contracts of the functions that it calls (the text was printed by a program of mine; Lean proves it again). -/
set_option linter.all false
set_option maxRecDepth 100000
namespace Go.Tb
open Go Go.Proofs
namespace W
theorem t_rsumS (I : Interp O) (K : AV → Tr (AO O) → Nat → Prop) (l c r : Nat) (xs : List Rw) : abody I P (Gm Q0) (adraw P (Gm Q0)) 1 Try.f55 [.sl 0 0 l c, .sl 0 0 l c] (Tr.ofList 0 [bo xs r] .leaf) 1 K =
  (ALoop I 1 (cd Try.f55 [true, true, true, false, true, false, false]) (acode I P (Gm Q0) (adraw P (Gm Q0)) 1 (cd Try.f55 [true, true, true, false, true, false, false])) (ablock 0 (athen (cd Try.f55 [true, true, true, true]) (fun s => acode I P (Gm Q0) (adraw P (Gm Q0)) 1 (cd Try.f55 [true, true, true, true]) s (kret P Try.f55 (K))) (kret P Try.f55 (K)))) ⟨(.node (.node (.node (.node .leaf (some (.int IntKind.i64 (0 : Int))) .leaf) none .leaf) (some (.sl 0 0 (l) (c))) (.node (.node .leaf (some (.sl 1 0 0 0)) .leaf) (some (.sl 1 0 0 0)) .leaf)) (some (.sl 0 0 (l) (c))) (.node (.node .leaf (some .nils) .leaf) none (.node .leaf (some (.int IntKind.i64 (0 : Int))) .leaf))), (.node (.node .leaf (some (.cells 4 [] 0)) .leaf) (some (.rows 4 [Sh.b] (xs) (r))) .leaf), 2, 46⟩) := by kernel_rfl
theorem t_raddS (I : Interp O) (K : AV → Tr (AO O) → Nat → Prop) (s : Bool) (l c r : Nat) (xs : List Rw) : abody I P (Gm QS) (adraw P (Gm QS)) 1 Try.f37 [.agg [.bool s, .sl 0 0 l c], .agg [.bool s, .sl 0 0 l c]] (Tr.ofList 0 [bo xs r] .leaf) 1 K =
  (must (s == s) (((l = l) ∧ ((c = c) ∧ (lenB xs l))) ∧ (∀ (zs0 : List Rw), (∀ (e1 : Nat), (∀ (room2 : Nat), (bv zs0 = bv (List.take l xs) + bv (List.take l xs) ∧ zs0.length ≤ l.max l + 1 → (((some (.cells 32 [(.bool (s)), (.sl 0 0 (l) (c))] 2) : Option (AO O)) = some (.cells 32 [(.bool (s)), (.sl 0 0 (l) (c))] 2)) ∧ ((lenB zs0 zs0.length) ∧ (∀ (k3 : Nat), (k3 ≤ zs0.length ∧ bv (List.take k3 zs0) = bv (List.take zs0.length zs0) ∧ (k3 = 0 ∨ bit zs0 (k3 - 1) = true) → (((some (.cells 32 [(.bool (s)), (.sl 0 0 (l) (c))] 2) : Option (AO O)) = some (.cells 32 [(.bool (s)), (.sl 0 0 (l) (c))] 2)) ∧ (K (.agg [(.bool (s && decide (0 < k3))), (.sl 4 0 (k3) (e1))]) (.node (.node (.node .leaf (some (.cells 32 [(.bool (s && decide (0 < k3))), (.sl 4 0 (k3) (e1))] 2)) .leaf) (some (.cells 32 [(.bool (s)), (.sl 0 0 (l) (c))] 2)) .leaf) (some (.rows 4 [Sh.b] (xs) (r))) (.node (.node .leaf (some (.rows 4 [Sh.b] (zs0) (room2))) .leaf) (some (.cells 32 [(.bool (s)), (.sl 0 0 (l) (c))] 2)) .leaf)) 5)))))))))))) := by kernel_rfl
theorem t_rsumSR (I : Interp O) (K : AV → Tr (AO O) → Nat → Prop) (X : St O → Prop) (l c r : Nat) (xs zs : List Rw) (n e room : Nat) (cy i : Int) : acode I P (Gm Q0) (adraw P (Gm Q0)) 1 (cd Try.f55 [true, true, true, false, true, false, false]) (j_rsumS l c r xs zs n e room cy i) (lpg 1 [(3, 1)] [0, 1, 5, 6, 7] 2 X (ablock 0 (athen (cd Try.f55 [true, true, true, true]) (fun s => acode I P (Gm Q0) (adraw P (Gm Q0)) 1 (cd Try.f55 [true, true, true, true]) s (kret P Try.f55 (K))) (kret P Try.f55 (K))))) =
  (bsplit (decide (i < (↑l : Int))) fun | true => (((0 : Int) ≤ i ∧ l ≤ xs.length) ∧ (bsplit (bit (List.take l xs) i.toNat) fun | true => (((0 : Int) ≤ i ∧ l ≤ xs.length) ∧ (bsplit (bit (List.take l xs) i.toNat) fun | true => (must (n.ble zs.length && (e * [Sh.b].length).ble room && Nat.blt 1 16777215) ((n + (1 : Nat) ≤ (137438953472 : Nat)) ∧ (∀ (c'0 : Nat), (n + 1 ≤ c'0 → (c'0 ≤ 9223372036854775807 → (X ⟨(.node (.node (.node (.node .leaf (some (.int IntKind.i64 (IntKind.i64.wrap (i + 1)))) .leaf) none .leaf) (some (.sl 0 0 (l) (c))) (.node .leaf (some (.sl 1 0 (n + 1) (c'0))) .leaf)) (some (.sl 0 0 (l) (c))) (.node .leaf none (.node .leaf (some (.int IntKind.i64 (IntKind.i64.wrap ((IntKind.i64.wrap (IntKind.i64.wrap (cy + 1) + 1)).tdiv 2)))) .leaf))), (.node (.node .leaf (some (.rows 4 [Sh.b] ((List.take n zs) ++ ((rwA [(.bool ((IntKind.i64.wrap (IntKind.i64.wrap (cy + 1) + 1)).tmod 2 == 1))]) :: [])) (c'0 * [Sh.b].length))) .leaf) (some (.rows 4 [Sh.b] (xs) (r))) .leaf), 2, 46⟩)))))) | false => (must (n.ble zs.length && (e * [Sh.b].length).ble room && Nat.blt 1 16777215) ((n + (1 : Nat) ≤ (137438953472 : Nat)) ∧ (∀ (c'1 : Nat), (n + 1 ≤ c'1 → (c'1 ≤ 9223372036854775807 → (X ⟨(.node (.node (.node (.node .leaf (some (.int IntKind.i64 (IntKind.i64.wrap (i + 1)))) .leaf) none .leaf) (some (.sl 0 0 (l) (c))) (.node .leaf (some (.sl 1 0 (n + 1) (c'1))) .leaf)) (some (.sl 0 0 (l) (c))) (.node .leaf none (.node .leaf (some (.int IntKind.i64 (IntKind.i64.wrap ((IntKind.i64.wrap (cy + 1)).tdiv 2)))) .leaf))), (.node (.node .leaf (some (.rows 4 [Sh.b] ((List.take n zs) ++ ((rwA [(.bool ((IntKind.i64.wrap (cy + 1)).tmod 2 == 1))]) :: [])) (c'1 * [Sh.b].length))) .leaf) (some (.rows 4 [Sh.b] (xs) (r))) .leaf), 2, 46⟩)))))))) | false => (((0 : Int) ≤ i ∧ l ≤ xs.length) ∧ (bsplit (bit (List.take l xs) i.toNat) fun | true => (must (n.ble zs.length && (e * [Sh.b].length).ble room && Nat.blt 1 16777215) ((n + (1 : Nat) ≤ (137438953472 : Nat)) ∧ (∀ (c'2 : Nat), (n + 1 ≤ c'2 → (c'2 ≤ 9223372036854775807 → (X ⟨(.node (.node (.node (.node .leaf (some (.int IntKind.i64 (IntKind.i64.wrap (i + 1)))) .leaf) none .leaf) (some (.sl 0 0 (l) (c))) (.node .leaf (some (.sl 1 0 (n + 1) (c'2))) .leaf)) (some (.sl 0 0 (l) (c))) (.node .leaf none (.node .leaf (some (.int IntKind.i64 (IntKind.i64.wrap ((IntKind.i64.wrap (cy + 1)).tdiv 2)))) .leaf))), (.node (.node .leaf (some (.rows 4 [Sh.b] ((List.take n zs) ++ ((rwA [(.bool ((IntKind.i64.wrap (cy + 1)).tmod 2 == 1))]) :: [])) (c'2 * [Sh.b].length))) .leaf) (some (.rows 4 [Sh.b] (xs) (r))) .leaf), 2, 46⟩)))))) | false => (must (n.ble zs.length && (e * [Sh.b].length).ble room && Nat.blt 1 16777215) ((n + (1 : Nat) ≤ (137438953472 : Nat)) ∧ (∀ (c'3 : Nat), (n + 1 ≤ c'3 → (c'3 ≤ 9223372036854775807 → (X ⟨(.node (.node (.node (.node .leaf (some (.int IntKind.i64 (IntKind.i64.wrap (i + 1)))) .leaf) none .leaf) (some (.sl 0 0 (l) (c))) (.node .leaf (some (.sl 1 0 (n + 1) (c'3))) .leaf)) (some (.sl 0 0 (l) (c))) (.node .leaf none (.node .leaf (some (.int IntKind.i64 (IntKind.i64.wrap (cy.tdiv 2)))) .leaf))), (.node (.node .leaf (some (.rows 4 [Sh.b] ((List.take n zs) ++ ((rwA [(.bool (cy.tmod 2 == 1))]) :: [])) (c'3 * [Sh.b].length))) .leaf) (some (.rows 4 [Sh.b] (xs) (r))) .leaf), 2, 46⟩)))))))))) | false => (bsplit (decide (i < (↑l : Int))) fun | true => (((0 : Int) ≤ i ∧ l ≤ xs.length) ∧ (bsplit (bit (List.take l xs) i.toNat) fun | true => (((0 : Int) ≤ i ∧ l ≤ xs.length) ∧ (bsplit (bit (List.take l xs) i.toNat) fun | true => (must (n.ble zs.length && (e * [Sh.b].length).ble room && Nat.blt 1 16777215) ((n + (1 : Nat) ≤ (137438953472 : Nat)) ∧ (∀ (c'4 : Nat), (n + 1 ≤ c'4 → (c'4 ≤ 9223372036854775807 → (X ⟨(.node (.node (.node (.node .leaf (some (.int IntKind.i64 (IntKind.i64.wrap (i + 1)))) .leaf) none .leaf) (some (.sl 0 0 (l) (c))) (.node .leaf (some (.sl 1 0 (n + 1) (c'4))) .leaf)) (some (.sl 0 0 (l) (c))) (.node .leaf none (.node .leaf (some (.int IntKind.i64 (IntKind.i64.wrap ((IntKind.i64.wrap (IntKind.i64.wrap (cy + 1) + 1)).tdiv 2)))) .leaf))), (.node (.node .leaf (some (.rows 4 [Sh.b] ((List.take n zs) ++ ((rwA [(.bool ((IntKind.i64.wrap (IntKind.i64.wrap (cy + 1) + 1)).tmod 2 == 1))]) :: [])) (c'4 * [Sh.b].length))) .leaf) (some (.rows 4 [Sh.b] (xs) (r))) .leaf), 2, 46⟩)))))) | false => (must (n.ble zs.length && (e * [Sh.b].length).ble room && Nat.blt 1 16777215) ((n + (1 : Nat) ≤ (137438953472 : Nat)) ∧ (∀ (c'5 : Nat), (n + 1 ≤ c'5 → (c'5 ≤ 9223372036854775807 → (X ⟨(.node (.node (.node (.node .leaf (some (.int IntKind.i64 (IntKind.i64.wrap (i + 1)))) .leaf) none .leaf) (some (.sl 0 0 (l) (c))) (.node .leaf (some (.sl 1 0 (n + 1) (c'5))) .leaf)) (some (.sl 0 0 (l) (c))) (.node .leaf none (.node .leaf (some (.int IntKind.i64 (IntKind.i64.wrap ((IntKind.i64.wrap (cy + 1)).tdiv 2)))) .leaf))), (.node (.node .leaf (some (.rows 4 [Sh.b] ((List.take n zs) ++ ((rwA [(.bool ((IntKind.i64.wrap (cy + 1)).tmod 2 == 1))]) :: [])) (c'5 * [Sh.b].length))) .leaf) (some (.rows 4 [Sh.b] (xs) (r))) .leaf), 2, 46⟩)))))))) | false => (((0 : Int) ≤ i ∧ l ≤ xs.length) ∧ (bsplit (bit (List.take l xs) i.toNat) fun | true => (must (n.ble zs.length && (e * [Sh.b].length).ble room && Nat.blt 1 16777215) ((n + (1 : Nat) ≤ (137438953472 : Nat)) ∧ (∀ (c'6 : Nat), (n + 1 ≤ c'6 → (c'6 ≤ 9223372036854775807 → (X ⟨(.node (.node (.node (.node .leaf (some (.int IntKind.i64 (IntKind.i64.wrap (i + 1)))) .leaf) none .leaf) (some (.sl 0 0 (l) (c))) (.node .leaf (some (.sl 1 0 (n + 1) (c'6))) .leaf)) (some (.sl 0 0 (l) (c))) (.node .leaf none (.node .leaf (some (.int IntKind.i64 (IntKind.i64.wrap ((IntKind.i64.wrap (cy + 1)).tdiv 2)))) .leaf))), (.node (.node .leaf (some (.rows 4 [Sh.b] ((List.take n zs) ++ ((rwA [(.bool ((IntKind.i64.wrap (cy + 1)).tmod 2 == 1))]) :: [])) (c'6 * [Sh.b].length))) .leaf) (some (.rows 4 [Sh.b] (xs) (r))) .leaf), 2, 46⟩)))))) | false => (must (n.ble zs.length && (e * [Sh.b].length).ble room && Nat.blt 1 16777215) ((n + (1 : Nat) ≤ (137438953472 : Nat)) ∧ (∀ (c'7 : Nat), (n + 1 ≤ c'7 → (c'7 ≤ 9223372036854775807 → (X ⟨(.node (.node (.node (.node .leaf (some (.int IntKind.i64 (IntKind.i64.wrap (i + 1)))) .leaf) none .leaf) (some (.sl 0 0 (l) (c))) (.node .leaf (some (.sl 1 0 (n + 1) (c'7))) .leaf)) (some (.sl 0 0 (l) (c))) (.node .leaf none (.node .leaf (some (.int IntKind.i64 (IntKind.i64.wrap (cy.tdiv 2)))) .leaf))), (.node (.node .leaf (some (.rows 4 [Sh.b] ((List.take n zs) ++ ((rwA [(.bool (cy.tmod 2 == 1))]) :: [])) (c'7 * [Sh.b].length))) .leaf) (some (.rows 4 [Sh.b] (xs) (r))) .leaf), 2, 46⟩)))))))))) | false => (bsplit (decide (cy > 0)) fun | true => (((0 : Int) ≤ i ∧ l ≤ xs.length) ∧ (bsplit (bit (List.take l xs) i.toNat) fun | true => (((0 : Int) ≤ i ∧ l ≤ xs.length) ∧ (bsplit (bit (List.take l xs) i.toNat) fun | true => (must (n.ble zs.length && (e * [Sh.b].length).ble room && Nat.blt 1 16777215) ((n + (1 : Nat) ≤ (137438953472 : Nat)) ∧ (∀ (c'8 : Nat), (n + 1 ≤ c'8 → (c'8 ≤ 9223372036854775807 → (X ⟨(.node (.node (.node (.node .leaf (some (.int IntKind.i64 (IntKind.i64.wrap (i + 1)))) .leaf) none .leaf) (some (.sl 0 0 (l) (c))) (.node .leaf (some (.sl 1 0 (n + 1) (c'8))) .leaf)) (some (.sl 0 0 (l) (c))) (.node .leaf none (.node .leaf (some (.int IntKind.i64 (IntKind.i64.wrap ((IntKind.i64.wrap (IntKind.i64.wrap (cy + 1) + 1)).tdiv 2)))) .leaf))), (.node (.node .leaf (some (.rows 4 [Sh.b] ((List.take n zs) ++ ((rwA [(.bool ((IntKind.i64.wrap (IntKind.i64.wrap (cy + 1) + 1)).tmod 2 == 1))]) :: [])) (c'8 * [Sh.b].length))) .leaf) (some (.rows 4 [Sh.b] (xs) (r))) .leaf), 2, 46⟩)))))) | false => (must (n.ble zs.length && (e * [Sh.b].length).ble room && Nat.blt 1 16777215) ((n + (1 : Nat) ≤ (137438953472 : Nat)) ∧ (∀ (c'9 : Nat), (n + 1 ≤ c'9 → (c'9 ≤ 9223372036854775807 → (X ⟨(.node (.node (.node (.node .leaf (some (.int IntKind.i64 (IntKind.i64.wrap (i + 1)))) .leaf) none .leaf) (some (.sl 0 0 (l) (c))) (.node .leaf (some (.sl 1 0 (n + 1) (c'9))) .leaf)) (some (.sl 0 0 (l) (c))) (.node .leaf none (.node .leaf (some (.int IntKind.i64 (IntKind.i64.wrap ((IntKind.i64.wrap (cy + 1)).tdiv 2)))) .leaf))), (.node (.node .leaf (some (.rows 4 [Sh.b] ((List.take n zs) ++ ((rwA [(.bool ((IntKind.i64.wrap (cy + 1)).tmod 2 == 1))]) :: [])) (c'9 * [Sh.b].length))) .leaf) (some (.rows 4 [Sh.b] (xs) (r))) .leaf), 2, 46⟩)))))))) | false => (((0 : Int) ≤ i ∧ l ≤ xs.length) ∧ (bsplit (bit (List.take l xs) i.toNat) fun | true => (must (n.ble zs.length && (e * [Sh.b].length).ble room && Nat.blt 1 16777215) ((n + (1 : Nat) ≤ (137438953472 : Nat)) ∧ (∀ (c'10 : Nat), (n + 1 ≤ c'10 → (c'10 ≤ 9223372036854775807 → (X ⟨(.node (.node (.node (.node .leaf (some (.int IntKind.i64 (IntKind.i64.wrap (i + 1)))) .leaf) none .leaf) (some (.sl 0 0 (l) (c))) (.node .leaf (some (.sl 1 0 (n + 1) (c'10))) .leaf)) (some (.sl 0 0 (l) (c))) (.node .leaf none (.node .leaf (some (.int IntKind.i64 (IntKind.i64.wrap ((IntKind.i64.wrap (cy + 1)).tdiv 2)))) .leaf))), (.node (.node .leaf (some (.rows 4 [Sh.b] ((List.take n zs) ++ ((rwA [(.bool ((IntKind.i64.wrap (cy + 1)).tmod 2 == 1))]) :: [])) (c'10 * [Sh.b].length))) .leaf) (some (.rows 4 [Sh.b] (xs) (r))) .leaf), 2, 46⟩)))))) | false => (must (n.ble zs.length && (e * [Sh.b].length).ble room && Nat.blt 1 16777215) ((n + (1 : Nat) ≤ (137438953472 : Nat)) ∧ (∀ (c'11 : Nat), (n + 1 ≤ c'11 → (c'11 ≤ 9223372036854775807 → (X ⟨(.node (.node (.node (.node .leaf (some (.int IntKind.i64 (IntKind.i64.wrap (i + 1)))) .leaf) none .leaf) (some (.sl 0 0 (l) (c))) (.node .leaf (some (.sl 1 0 (n + 1) (c'11))) .leaf)) (some (.sl 0 0 (l) (c))) (.node .leaf none (.node .leaf (some (.int IntKind.i64 (IntKind.i64.wrap (cy.tdiv 2)))) .leaf))), (.node (.node .leaf (some (.rows 4 [Sh.b] ((List.take n zs) ++ ((rwA [(.bool (cy.tmod 2 == 1))]) :: [])) (c'11 * [Sh.b].length))) .leaf) (some (.rows 4 [Sh.b] (xs) (r))) .leaf), 2, 46⟩)))))))))) | false => (K (.sl 1 0 (n) (e)) (.node (.node .leaf (some (.rows 4 [Sh.b] (zs) (room))) .leaf) (some (.rows 4 [Sh.b] (xs) (r))) .leaf) 2)))) := by kernel_rfl
end W
end Go.Tb

/- The document's numbers: a number and itself, added. -/
set_option linter.all false
set_option maxRecDepth 100000
namespace Go.Tb.W
open Go Go.Proofs
variable {I : Interp O}
theorem k_rsumS : ∀ (args : List AV) (hp : Tr (AO O)) (nx : Nat) (K : AV → Tr (AO O) → Nat → Prop), c_rsumS args hp nx K → ACall I P 55 args hp (fun v hp' => ∃ nx', K v hp' nx') := by
  intro args hp nx K h
  unfold c_rsumS at h; split at h
  · rename_i n l c m k d
    split at h
    · rename_i xs r1 hb hg1 hgx
      simp only [Bool.and_eq_true] at hb
      obtain ⟨e1, hb1, hb3⟩ := hb
      have e1 := Nat.eq_of_beq_eq_true e1
      obtain ⟨⟨e2, e3, hl, hl2⟩, h⟩ := h
      subst e1 e2 e3
      refine hrows mix gq0 (fn := Try.f55) (by kernel_rfl) (by kernel_rfl) (by kernel_rfl) [n] [bo xs r1] [.sl 0 0 l c, .sl 0 0 l c] (nx := nx) rfl (uniq1 hb1) rfl ⟨hg1, trivial⟩ rfl rfl (fun hr ho => ?_)
      refine (t_rsumS I _ l c r1 xs).mpr ?_
      have hA : (xs.take l).length = l := by rw [List.length_take]; omega
      have hB : (xs.take l).length = l := by rw [List.length_take]; omega
      refine ALoop.weak (Weak.asRows (n := 1) (l := 0) (sh := [.b]) (xs := []) rfl rfl rfl rfl) ?_
      refine ALoop.start [(1, 1)] [0, 1, 5, 6, 7] 2 (j_rsumS l c r1 xs [] 0 0 0 0 0) (by kernel_rfl) (by kernel_rfl) ?_
      refine ALoop.invj (ps := [(3, 1)]) (ts := [0, 1, 5, 6, 7]) (nx := 2) (fun x : List Rw × Nat × Nat × Nat × Int => j_rsumS l c r1 xs x.1 x.2.1 x.2.2.1 x.2.2.2.1 x.2.2.2.2 (x.2.1 : Nat))
        (fun x => x.1.length = x.2.1 ∧ x.2.2.1 ≤ x.2.2.2.1 ∧ (x.2.2.2.2 = 0 ∨ x.2.2.2.2 = 1) ∧ (x.2.1 ≤ Nat.max l l ∨ (x.2.1 = Nat.max l l + 1 ∧ x.2.2.2.2 = 0)) ∧ (bv x.1 : Int) + x.2.2.2.2 * 2 ^ x.2.1 = bv ((xs.take l).take x.2.1) + bv ((xs.take l).take x.2.1))
        (fun x => Nat.max l l + 2 - x.2.1) (fun x hG => ?_) ([], 0, 0, 0, 0) ⟨rfl, Nat.le_refl _, .inl rfl, .inl (Nat.zero_le _), by simp [bv]⟩
      obtain ⟨zs, n', e, room, cy⟩ := x
      obtain ⟨g1, g2, g3, g4, g5⟩ := hG
      simp only at g1 g2 g3 g4 g5
      refine (t_rsumSR I _ _ l c r1 xs zs n' e room cy n').mpr ?_
      have hmx : l ≤ Nat.max l l ∧ l ≤ Nat.max l l ∧ Nat.max l l ≤ 2000 := ⟨Nat.le_max_left _ _, Nat.le_max_right _ _, Nat.max_le.2 ⟨hl2, hl2⟩⟩
      have hin : ((n' : Int)).toNat = n' := by omega
      rw [hin, s_i64 (n := (n' : Int) + 1) (by omega)]
      have hz : zs.take n' = zs := List.take_of_length_le (by omega)
      have hms : (Nat.ble n' zs.length && Nat.ble (e * [Sh.b].length) room && Nat.blt 1 16777215) = true := by
        simp only [Bool.and_eq_true, Nat.ble_eq, List.length_cons, List.length_nil]; exact ⟨⟨by omega, by omega⟩, rfl⟩
      have fin : ∀ (bb : Bool) (cc : Int) (c' : Nat), (cc = 0 ∨ cc = 1) → c1 bb + 2 * cc = cy + c1 (bit (xs.take l) n') + c1 (bit (xs.take l) n') → (n' < l ∨ n' < l ∨ cy = 1) →
          ∃ y : List Rw × Nat × Nat × Nat × Int, (y.1.length = y.2.1 ∧ y.2.2.1 ≤ y.2.2.2.1 ∧ (y.2.2.2.2 = 0 ∨ y.2.2.2.2 = 1) ∧ (y.2.1 ≤ Nat.max l l ∨ (y.2.1 = Nat.max l l + 1 ∧ y.2.2.2.2 = 0)) ∧ (bv y.1 : Int) + y.2.2.2.2 * 2 ^ y.2.1 = bv ((xs.take l).take y.2.1) + bv ((xs.take l).take y.2.1)) ∧
            Nat.max l l + 2 - y.2.1 < Nat.max l l + 2 - n' ∧ j_rsumS l c r1 xs (zs.take n' ++ [rwA [.bool bb]]) (n' + 1) c' (c' * [Sh.b].length) cc ((n' : Int) + 1) = j_rsumS l c r1 xs y.1 y.2.1 y.2.2.1 y.2.2.2.1 y.2.2.2.2 (y.2.1 : Nat) := fun bb cc c' h1 h2 h3 => by
        refine ⟨(zs.take n' ++ [rwA [.bool bb]], n' + 1, c', c' * [Sh.b].length, cc), ⟨by simp [hz, g1], by simp, h1, ?_, ?_⟩, ?_, rfl⟩
        · simp only
          by_cases hm : n' < Nat.max l l
          · exact .inl (by omega)
          · right
            have b1 := bit_none (xs := xs.take l) (i := n') (by omega)
            have b2 := bit_none (xs := xs.take l) (i := n') (by omega)
            rw [b1] at h2
            simp only [c1] at h2
            rcases g4 with g4 | g4
            · refine ⟨by omega, ?_⟩
              cases bb <;> simp only [c1] at h2 <;> omega
            · omega
        · simp only; rw [hz]; exact sum_step g1 g5 h2
        · simp only; omega
      have done : ¬ ((n' : Int) < l) → ¬ ((n' : Int) < l) → ¬ (cy > 0) → bv zs = bv (xs.take l) + bv (xs.take l) ∧ zs.length ≤ Nat.max l l + 1 := fun h1 h2 h3 => by
        have hc : cy = 0 := by omega
        subst hc
        rw [List.take_of_length_le (l := xs.take l) (by omega), Int.zero_mul] at g5
        exact ⟨by omega, by omega⟩
      have mk : ∀ {b b' : Bool}, bit (xs.take l) n' = b → bit (xs.take l) n' = b' → ∀ (bb : Bool) (cc : Int), (cc = 0 ∨ cc = 1) → c1 bb + 2 * cc = cy + c1 b + c1 b' → (n' < l ∨ n' < l ∨ cy = 1) → ∀ c' : Nat, ∃ y : List Rw × Nat × Nat × Nat × Int, (y.1.length = y.2.1 ∧ y.2.2.1 ≤ y.2.2.2.1 ∧ (y.2.2.2.2 = 0 ∨ y.2.2.2.2 = 1) ∧ (y.2.1 ≤ Nat.max l l ∨ (y.2.1 = Nat.max l l + 1 ∧ y.2.2.2.2 = 0)) ∧ (bv y.1 : Int) + y.2.2.2.2 * 2 ^ y.2.1 = bv ((xs.take l).take y.2.1) + bv ((xs.take l).take y.2.1)) ∧
            Nat.max l l + 2 - y.2.1 < Nat.max l l + 2 - n' ∧ j_rsumS l c r1 xs (zs.take n' ++ [rwA [.bool bb]]) (n' + 1) c' (c' * [Sh.b].length) cc ((n' : Int) + 1) = j_rsumS l c r1 xs y.1 y.2.1 y.2.2.1 y.2.2.2.1 y.2.2.2.2 (y.2.1 : Nat) := fun h1 h2 bb cc hc h3 h4 c' => fin bb cc c' hc (by have e := h1.symm.trans h2; subst e; rw [h1]; exact h3) h4
      refine bsplit_both (fun w1 => ?_) (fun w1 => bsplit_both (fun w2 => ?_) (fun w2 => bsplit_both (fun w3 => ?_) (fun w3 => ?_)))
      rotate_right
      · obtain ⟨d1, d2⟩ := done (by simpa using w1) (by simpa using w2) (by simpa using w3)
        refine ⟨⟨rfl, trivial⟩, .inr ⟨1, _, _, zs, room, hb3, hgx, Nat.le_refl _, rfl, rfl, ?_⟩⟩
        have := h zs e room ⟨d1, d2⟩
        rw [g1] at this
        exact this
      all_goals
        have hcond : n' < l ∨ n' < l ∨ cy = 1 := by simp at *; omega
        refine ⟨⟨by omega, by omega⟩, bsplit_both (fun ba => ?_) (fun ba => ?_)⟩
        all_goals
          refine ⟨⟨by omega, by omega⟩, bsplit_both (fun bb => ?_) (fun bb => ?_)⟩
          all_goals
            refine must_mk hms ⟨by omega, fun c' hc1 hc2 => ?_⟩
            rcases g3 with rfl | rfl
            all_goals
              first
              | (obtain ⟨y, y1, y2, y3⟩ := mk ba bb false 0 (.inl rfl) rfl hcond c'; exact ⟨y, y1, y2, y3 ▸ (by kernel_rfl)⟩)
              | (obtain ⟨y, y1, y2, y3⟩ := mk ba bb true 0 (.inl rfl) rfl hcond c'; exact ⟨y, y1, y2, y3 ▸ (by kernel_rfl)⟩)
              | (obtain ⟨y, y1, y2, y3⟩ := mk ba bb false 1 (.inr rfl) rfl hcond c'; exact ⟨y, y1, y2, y3 ▸ (by kernel_rfl)⟩)
              | (obtain ⟨y, y1, y2, y3⟩ := mk ba bb true 1 (.inr rfl) rfl hcond c'; exact ⟨y, y1, y2, y3 ▸ (by kernel_rfl)⟩)
    · exact h.elim
  · exact h.elim
theorem gqs : GOk I P (Gm QS) := Gm.consH gq0 k_rsumS
theorem k_raddS : ∀ (args : List AV) (hp : Tr (AO O)) (nx : Nat) (K : AV → Tr (AO O) → Nat → Prop), c_raddS args hp nx K → ACall I P 37 args hp (fun v hp' => ∃ nx', K v hp' nx') := by
  intro args hp nx K h
  unfold c_raddS at h; split at h
  · rename_i s n l c t m k d
    split at h
    · rename_i xs r1 hb hg1 hgx
      simp only [Bool.and_eq_true] at hb
      obtain ⟨e1, hb1, hb3⟩ := hb
      have e1 := Nat.eq_of_beq_eq_true e1
      obtain ⟨⟨e0, e2, e3, p1⟩, h⟩ := h
      subst e0 e1 e2 e3
      refine hrows mix gqs (fn := Try.f37) (by kernel_rfl) (by kernel_rfl) (by kernel_rfl) [n] [bo xs r1] [.agg [.bool s, .sl 0 0 l c], .agg [.bool s, .sl 0 0 l c]] (nx := nx) rfl (uniq1 hb1) rfl ⟨hg1, trivial⟩ rfl rfl (fun hr ho => ?_)
      refine (t_raddS I _ s l c r1 xs).mpr ?_
      have a1 := pre_abs p1
      have L1 := p1.2
      refine must_mk (by simp) ?_
      refine ⟨⟨rfl, rfl, pre_lenB p1⟩, fun zs e room hz => ?_⟩
      have hmx : Nat.max l l ≤ 900 := Nat.max_le.2 ⟨L1, L1⟩
      refine ⟨rfl, ⟨Nat.le_refl _, by omega⟩, fun k' hk => ⟨rfl, ⟨rfl, trivial⟩, .inr ⟨4, _, _, zs, room, hb3, hgx, by simp, rfl, rfl, h _ zs k' e room ?_⟩⟩⟩
      have hv : sv s (bv zs) = nv s xs l + nv s xs l := by rw [hz.1]; unfold nv; cases s <;> simp only [sv] <;> omega
      rw [← hv]
      rw [take_self] at hk
      exact nr_bare hk.1 hk.2.1 hk.2.2
    · exact h.elim
  · exact h.elim
theorem k_radd2 : ∀ (args : List AV) (hp : Tr (AO O)) (nx : Nat) (K : AV → Tr (AO O) → Nat → Prop), c_radd2 args hp nx K → ACall I P 37 args hp (fun v hp' => ∃ nx', K v hp' nx') := by
  intro args hp nx K h
  unfold c_radd2 at h; split at h
  · split at h
    · exact k_raddS _ _ _ _ h
    · exact k_radd _ _ _ _ h
  · exact h.elim
end Go.Tb.W

/- What the functions' bodies come to: each line is what the abstract machine makes of one function, or of one round of a loop, over the contracts of the functions that it calls (the text was printed by a program of mine; Lean proves it again). -/
set_option linter.all false
set_option maxRecDepth 100000
namespace Go.Tb
open Go Go.Proofs
namespace W
theorem t_era (I : Interp O) (K : AV → Tr (AO O) → Nat → Prop) : abody I P (Gm Q3) (adraw P (Gm Q3)) 0 Try.f39 [] (Tr.ofList 0 [] .leaf) 0 K =
  (∀ (u0 : Bool), (∀ (zs1 : List Rw), (∀ (j2 : Nat), (∀ (e3 : Nat), (∀ (room4 : Nat), (NR u0 zs1 j2 4294967296 → (∀ (u5 : Bool), (∀ (zs6 : List Rw), (∀ (j7 : Nat), (∀ (e8 : Nat), (∀ (room9 : Nat), (NR u5 zs6 j7 4294967296 → ((Pre u0 zs1 j2 ∧ Pre u5 zs6 j7 ∧ j2 + j7 ≤ (800 : Nat)) ∧ (∀ (u10 : Bool), (∀ (zs11 : List Rw), (∀ (j12 : Nat), (∀ (e13 : Nat), (∀ (room14 : Nat), (NR u10 zs11 j12 (nv u0 zs1 j2 * nv u5 zs6 j7) → (K (.agg [(.bool (u10)), (.sl 3 0 (j12) (e13))]) (.node (.node (.node .leaf (some (.rows 4 [Sh.b] (zs11) (room14))) .leaf) (some (.rows 4 [Sh.b] (zs1) (room4))) .leaf) (some (.cells 32 [(.bool (u10)), (.sl 3 0 (j12) (e13))] 2)) (.node .leaf (some (.rows 4 [Sh.b] (zs6) (room9))) .leaf)) 4)))))))))))))))))))) := by kernel_rfl
theorem t_rfold (I : Interp O) (K : AV → Tr (AO O) → Nat → Prop) (s : Bool) (l c r : Nat) (xs : List Rw) : abody I P (Gm H0) (adraw P (Gm H0)) 1 Try.f23 [.agg [.bool s, .sl 0 0 l c]] (Tr.ofList 0 [bo xs r] .leaf) 1 K =
  (∀ (u0 : Bool), (∀ (zs1 : List Rw), (∀ (j2 : Nat), (∀ (e3 : Nat), (∀ (room4 : Nat), (NR u0 zs1 j2 18446744073709551616 → (bsplit (s) fun | true => ((Pre s xs l) ∧ (∀ (u5 : Bool), (∀ (j6 : Nat), (NR u5 xs j6 (-nv s xs l) → (ALoop I 1 (cd Try.f23 [true, true, true, true, true, false, true, false, false]) (acode I P (Gm H0) (adraw P (Gm H0)) 1 (cd Try.f23 [true, true, true, true, true, false, true, false, false])) (ablock 0 (athen (cd Try.f23 [true, true, true, true, true, true]) (fun s => acode I P (Gm H0) (adraw P (Gm H0)) 1 (cd Try.f23 [true, true, true, true, true, true]) s (kret P Try.f23 (K))) (kret P Try.f23 (K)))) ⟨(.node (.node (.node (.node .leaf (some (.agg [(.bool (u0)), (.sl 2 0 (j2) (e3))])) .leaf) (some (.ptr 3 0)) (.node .leaf (some (.agg [(.bool (s)), (.sl 0 0 (l) (c))])) .leaf)) (some (.ptr 1 0)) (.node (.node .leaf (some (.ptr 1 0)) .leaf) (some (.int IntKind.u64 (0 : Int))) .leaf)) (some (.agg [(.bool (s)), (.sl 0 0 (l) (c))])) (.node (.node (.node .leaf (some (.agg [(.bool (s)), (.sl 0 0 (l) (c))])) .leaf) (some (.ptr 4 0)) (.node .leaf (some (.agg [(.bool (u5)), (.sl 0 0 (j6) (c))])) .leaf)) (some (.int IntKind.u64 (0 : Int))) (.node (.node .leaf (some (.bool true)) .leaf) (some (.int IntKind.i64 (0 : Int))) .leaf))), (.node (.node (.node .leaf (some (.cells 32 [(.bool (u0)), (.sl 2 0 (j2) (e3))] 2)) .leaf) (some (.cells 32 [(.bool (s)), (.sl 0 0 (l) (c))] 2)) .leaf) (some (.rows 4 [Sh.b] (xs) (r))) (.node (.node .leaf (some (.cells 32 [(.bool (u5)), (.sl 0 0 (j6) (c))] 2)) .leaf) (some (.rows 4 [Sh.b] (zs1) (room4))) .leaf)), 5, 44⟩))))) | false => (ALoop I 1 (cd Try.f23 [true, true, true, true, true, false, true, false, false]) (acode I P (Gm H0) (adraw P (Gm H0)) 1 (cd Try.f23 [true, true, true, true, true, false, true, false, false])) (ablock 0 (athen (cd Try.f23 [true, true, true, true, true, true]) (fun s => acode I P (Gm H0) (adraw P (Gm H0)) 1 (cd Try.f23 [true, true, true, true, true, true]) s (kret P Try.f23 (K))) (kret P Try.f23 (K)))) ⟨(.node (.node (.node (.node .leaf (some (.agg [(.bool (u0)), (.sl 2 0 (j2) (e3))])) .leaf) (some (.ptr 3 0)) .leaf) (some (.ptr 1 0)) (.node (.node .leaf (some (.ptr 1 0)) .leaf) (some (.int IntKind.u64 (0 : Int))) .leaf)) (some (.agg [(.bool (s)), (.sl 0 0 (l) (c))])) (.node (.node (.node .leaf (some (.agg [(.bool (s)), (.sl 0 0 (l) (c))])) .leaf) (some (.ptr 4 0)) .leaf) (some (.int IntKind.u64 (0 : Int))) (.node (.node .leaf (some (.bool false)) .leaf) (some (.int IntKind.i64 (0 : Int))) .leaf))), (.node (.node (.node .leaf (some (.cells 32 [(.bool (u0)), (.sl 2 0 (j2) (e3))] 2)) .leaf) (some (.cells 32 [(.bool (s)), (.sl 0 0 (l) (c))] 2)) .leaf) (some (.rows 4 [Sh.b] (xs) (r))) (.node (.node .leaf (some (.cells 32 [(.bool (s)), (.sl 0 0 (l) (c))] 2)) .leaf) (some (.rows 4 [Sh.b] (zs1) (room4))) .leaf)), 5, 44⟩)))))))) := by kernel_rfl
theorem t_rsince (I : Interp O) (K : AV → Tr (AO O) → Nat → Prop) (s t : Bool) (l c r k d q : Nat) (xs ys : List Rw) : abody I P (Gm Q3) (adraw P (Gm Q3)) 2 Try.f18 [.agg [.bool s, .sl 0 0 l c], .agg [.bool t, .sl 1 0 k d]] (Tr.ofList 0 [bo xs r, bo ys q] .leaf) 2 K =
  ((Pre t ys k) ∧ (∀ (u0 : Bool), (∀ (j1 : Nat), (NR u0 ys j1 (-nv t ys k) → (((some (.cells 32 [(.bool (s)), (.sl 0 0 (l) (c))] 2) : Option (AO O)) = some (.cells 32 [(.bool (s)), (.sl 0 0 (l) (c))] 2)) ∧ ((Pre s xs l ∧ Pre u0 ys j1) ∧ (∀ (u2 : Bool), (∀ (zs3 : List Rw), (∀ (j4 : Nat), (∀ (e5 : Nat), (∀ (room6 : Nat), (NR u2 zs3 j4 (nv s xs l + nv u0 ys j1) → ((Pre u2 zs3 j4 ∧ j4 ≤ (800 : Nat) ∧ powOk (63 : Int)) ∧ (∀ (b7 : Bool), (FitsR (nv u2 zs3 j4) 63 b7 → (bsplit (!b7) fun | true => (K (.tup [(.int IntKind.i64 (0 : Int)), (.int IntKind.i64 (6 : Int))]) (.node (.node (.node .leaf (some (.cells 32 [(.bool (t)), (.sl 1 0 (k) (d))] 2)) .leaf) (some (.rows 4 [Sh.b] (ys) (q))) (.node .leaf (some (.cells 32 [(.bool (u2)), (.sl 4 0 (j4) (e5))] 2)) .leaf)) (some (.rows 4 [Sh.b] (xs) (r))) (.node (.node .leaf (some (.rows 4 [Sh.b] (zs3) (room6))) .leaf) (some (.cells 32 [(.bool (s)), (.sl 0 0 (l) (c))] 2)) .leaf)) 6) | false => ((Pre u2 zs3 j4 ∧ j4 ≤ (800 : Nat)) ∧ (∀ (h'8 : Int), (∀ (l'9 : Int), (WideR (nv u2 zs3 j4) h'8 l'9 → (K (.tup [(.int IntKind.i64 (IntKind.i64.wrap l'9)), (.int IntKind.i64 (0 : Int))]) (.node (.node (.node .leaf (some (.cells 32 [(.bool (t)), (.sl 1 0 (k) (d))] 2)) .leaf) (some (.rows 4 [Sh.b] (ys) (q))) (.node .leaf (some (.cells 32 [(.bool (u2)), (.sl 4 0 (j4) (e5))] 2)) .leaf)) (some (.rows 4 [Sh.b] (xs) (r))) (.node (.node .leaf (some (.rows 4 [Sh.b] (zs3) (room6))) .leaf) (some (.cells 32 [(.bool (s)), (.sl 0 0 (l) (c))] 2)) .leaf)) 6))))))))))))))))))))) := by kernel_rfl
theorem t_rnear (I : Interp O) (K : AV → Tr (AO O) → Nat → Prop) (s : Int) (t : Bool) (l c r : Nat) (xs : List Rw) : abody I P (Gm H1) (adraw P (Gm H1)) 1 Try.f13 [.int .u64 s, .agg [.bool t, .sl 0 0 l c]] (Tr.ofList 0 [bo xs r] .leaf) 1 K =
  ((Pre t xs l ∧ l ≤ (800 : Nat)) ∧ (∀ (r0 : Int), (FoldR (nv t xs l) r0 → (∀ (u1 : Bool), (∀ (zs2 : List Rw), (∀ (j3 : Nat), (∀ (e4 : Nat), (∀ (room5 : Nat), (NR u1 zs2 j3 (IntKind.i64.wrap ((IntKind.u64.wrap (s - r0)).fdiv (2 ^ min (Int.toNat 1) IntKind.u64.bits))) → (((u1 = u1) ∧ ((j3 = j3) ∧ ((e4 = e4) ∧ (Pre u1 zs2 j3)))) ∧ (∀ (u6 : Bool), (∀ (zs7 : List Rw), (∀ (j8 : Nat), (∀ (e9 : Nat), (∀ (room10 : Nat), (NR u6 zs7 j8 (nv u1 zs2 j3 + nv u1 zs2 j3) → (((some (.cells 32 [(.bool (t)), (.sl 0 0 (l) (c))] 2) : Option (AO O)) = some (.cells 32 [(.bool (t)), (.sl 0 0 (l) (c))] 2)) ∧ (∀ (u11 : Bool), (∀ (zs12 : List Rw), (∀ (j13 : Nat), (∀ (e14 : Nat), (∀ (room15 : Nat), (NR u11 zs12 j13 (IntKind.i64.wrap ((IntKind.u64.wrap (s - r0)).tmod 2)) → (((some (.cells 32 [(.bool (t)), (.sl 0 0 (l) (c))] 2) : Option (AO O)) = some (.cells 32 [(.bool (t)), (.sl 0 0 (l) (c))] 2)) ∧ ((Pre u6 zs7 j8 ∧ Pre u11 zs12 j13) ∧ (∀ (u16 : Bool), (∀ (zs17 : List Rw), (∀ (j18 : Nat), (∀ (e19 : Nat), (∀ (room20 : Nat), (NR u16 zs17 j18 (nv u6 zs7 j8 + nv u11 zs12 j13) → (((some (.cells 32 [(.bool (t)), (.sl 0 0 (l) (c))] 2) : Option (AO O)) = some (.cells 32 [(.bool (t)), (.sl 0 0 (l) (c))] 2)) ∧ ((Pre t xs l ∧ Pre u16 zs17 j18) ∧ (∀ (u21 : Bool), (∀ (zs22 : List Rw), (∀ (j23 : Nat), (∀ (e24 : Nat), (∀ (room25 : Nat), (NR u21 zs22 j23 (nv t xs l + nv u16 zs17 j18) → (∀ (u26 : Bool), (∀ (zs27 : List Rw), (∀ (j28 : Nat), (∀ (e29 : Nat), (∀ (room30 : Nat), (NR u26 zs27 j28 18446744073709551616 → (((some (.cells 32 [(.bool (u21)), (.sl 8 0 (j23) (e24))] 2) : Option (AO O)) = some (.cells 32 [(.bool (u21)), (.sl 8 0 (j23) (e24))] 2)) ∧ ((Pre u26 zs27 j28) ∧ (∀ (u31 : Bool), (∀ (j32 : Nat), (NR u31 zs27 j32 (-nv u26 zs27 j28) → (((some (.cells 32 [(.bool (u21)), (.sl 8 0 (j23) (e24))] 2) : Option (AO O)) = some (.cells 32 [(.bool (u21)), (.sl 8 0 (j23) (e24))] 2)) ∧ ((Pre u21 zs22 j23 ∧ Pre u31 zs27 j32) ∧ (∀ (u33 : Bool), (∀ (zs34 : List Rw), (∀ (j35 : Nat), (∀ (e36 : Nat), (∀ (room37 : Nat), (NR u33 zs34 j35 (nv u21 zs22 j23 + nv u31 zs27 j32) → ((Pre t xs l) ∧ (∀ (u38 : Bool), (∀ (j39 : Nat), (NR u38 xs j39 (-nv t xs l) → (((some (.cells 32 [(.bool (u21)), (.sl 8 0 (j23) (e24))] 2) : Option (AO O)) = some (.cells 32 [(.bool (u21)), (.sl 8 0 (j23) (e24))] 2)) ∧ ((Pre u21 zs22 j23 ∧ Pre u38 xs j39) ∧ (∀ (u40 : Bool), (∀ (zs41 : List Rw), (∀ (j42 : Nat), (∀ (e43 : Nat), (∀ (room44 : Nat), (NR u40 zs41 j42 (nv u21 zs22 j23 + nv u38 xs j39) → ((Pre u33 zs34 j35) ∧ (∀ (u45 : Bool), (∀ (j46 : Nat), (NR u45 zs34 j46 (-nv u33 zs34 j35) → (((some (.cells 32 [(.bool (t)), (.sl 0 0 (l) (c))] 2) : Option (AO O)) = some (.cells 32 [(.bool (t)), (.sl 0 0 (l) (c))] 2)) ∧ ((Pre t xs l ∧ Pre u45 zs34 j46) ∧ (∀ (u47 : Bool), (∀ (zs48 : List Rw), (∀ (j49 : Nat), (∀ (e50 : Nat), (∀ (room51 : Nat), (NR u47 zs48 j49 (nv t xs l + nv u45 zs34 j46) → ((Pre u40 zs41 j42 ∧ Pre u47 zs48 j49 ∧ j42 ≤ (800 : Nat) ∧ j49 ≤ (800 : Nat)) ∧ (∀ (r52 : Int), (CmpR (nv u40 zs41 j42) (nv u47 zs48 j49) r52 → (bsplit (decide (r52 ≤ 0)) fun | true => (K (.agg [(.bool (u21)), (.sl 8 0 (j23) (e24))]) (.node (.node (.node (.node (.node .leaf (some (.rows 4 [Sh.b] (zs48) (room51))) .leaf) (some (.rows 4 [Sh.b] (zs17) (room20))) .leaf) (some (.rows 4 [Sh.b] (zs2) (room5))) (.node .leaf (some (.rows 4 [Sh.b] (zs34) (room37))) .leaf)) (some (.cells 32 [(.bool (t)), (.sl 0 0 (l) (c))] 2)) (.node (.node .leaf (some (.cells 32 [(.bool (u21)), (.sl 8 0 (j23) (e24))] 2)) .leaf) (some (.rows 4 [Sh.b] (zs7) (room10))) (.node .leaf (some (.rows 4 [Sh.b] (zs41) (room44))) .leaf))) (some (.rows 4 [Sh.b] (xs) (r))) (.node (.node (.node (.node .leaf (some (.cells 32 [(.bool (u47)), (.sl 15 0 (j49) (e50))] 2)) .leaf) (some (.rows 4 [Sh.b] (zs22) (room25))) .leaf) (some (.cells 32 [(.bool (u1)), (.sl 3 0 (j3) (e4))] 2)) (.node .leaf (some (.cells 32 [(.bool (u33)), (.sl 11 0 (j35) (e36))] 2)) .leaf)) (some (.cells 32 [(.bool (u21)), (.sl 8 0 (j23) (e24))] 2)) (.node (.node .leaf (some (.rows 4 [Sh.b] (zs27) (room30))) .leaf) (some (.rows 4 [Sh.b] (zs12) (room15))) (.node .leaf (some (.cells 32 [(.bool (u40)), (.sl 13 0 (j42) (e43))] 2)) .leaf)))) 17) | false => (K (.agg [(.bool (u33)), (.sl 11 0 (j35) (e36))]) (.node (.node (.node (.node (.node .leaf (some (.rows 4 [Sh.b] (zs48) (room51))) .leaf) (some (.rows 4 [Sh.b] (zs17) (room20))) .leaf) (some (.rows 4 [Sh.b] (zs2) (room5))) (.node .leaf (some (.rows 4 [Sh.b] (zs34) (room37))) .leaf)) (some (.cells 32 [(.bool (t)), (.sl 0 0 (l) (c))] 2)) (.node (.node .leaf (some (.cells 32 [(.bool (u21)), (.sl 8 0 (j23) (e24))] 2)) .leaf) (some (.rows 4 [Sh.b] (zs7) (room10))) (.node .leaf (some (.rows 4 [Sh.b] (zs41) (room44))) .leaf))) (some (.rows 4 [Sh.b] (xs) (r))) (.node (.node (.node (.node .leaf (some (.cells 32 [(.bool (u47)), (.sl 15 0 (j49) (e50))] 2)) .leaf) (some (.rows 4 [Sh.b] (zs22) (room25))) .leaf) (some (.cells 32 [(.bool (u1)), (.sl 3 0 (j3) (e4))] 2)) (.node .leaf (some (.cells 32 [(.bool (u33)), (.sl 11 0 (j35) (e36))] 2)) .leaf)) (some (.cells 32 [(.bool (u33)), (.sl 11 0 (j35) (e36))] 2)) (.node (.node .leaf (some (.rows 4 [Sh.b] (zs27) (room30))) .leaf) (some (.rows 4 [Sh.b] (zs12) (room15))) (.node .leaf (some (.cells 32 [(.bool (u40)), (.sl 13 0 (j42) (e43))] 2)) .leaf)))) 17))))))))))))))))))))))))))))))))))))))))))))))))))))))))))))))))))))))))))))))))))))))) := by kernel_rfl
theorem t_rfoldR (I : Interp O) (K : AV → Tr (AO O) → Nat → Prop) (X : St O → Prop) (s : Bool) (l c r : Nat) (xs : List Rw) (v : Bool) (j : Nat) (u : Bool) (zs : List Rw) (k e room : Nat) (lo_ i : Int) : acode I P (Gm H0) (adraw P (Gm H0)) 1 (cd Try.f23 [true, true, true, true, true, false, true, false, false]) (j_fold s l c r xs v j u zs k e room lo_ i) (lpg 1 [(1, 1), (2, 2), (3, 3), (4, 4)] [1, 3, 4, 5, 6] 5 X (ablock 0 (athen (cd Try.f23 [true, true, true, true, true, true]) (fun s => acode I P (Gm H0) (adraw P (Gm H0)) 1 (cd Try.f23 [true, true, true, true, true, true]) s (kret P Try.f23 (K))) (kret P Try.f23 (K))))) =
  (bsplit (decide (i < 64)) fun | true => (bsplit (decide (i < (↑j : Int))) fun | true => (must (decide (0 ≤ i ∧ i < (↑j : Int))) (xget (xs) (i.toNat) fun x0 => (bsplit (x0.b 0) fun | true => (must (decide (0 ≤ i)) (X ⟨(.node (.node (.node .leaf (some (.ptr 3 0)) .leaf) (some (.ptr 1 0)) (.node .leaf (some (.int IntKind.u64 (IntKind.u64.wrap (lo_ + IntKind.u64.wrap (1 * 2 ^ min i.toNat IntKind.u64.bits))))) .leaf)) none (.node (.node .leaf (some (.ptr 4 0)) .leaf) none (.node .leaf (some (.int IntKind.i64 (IntKind.i64.wrap (i + 1)))) .leaf))), (.node (.node (.node .leaf (some (.cells 32 [(.bool (u)), (.sl 2 0 (k) (e))] 2)) .leaf) (some (.cells 32 [(.bool (s)), (.sl 0 0 (l) (c))] 2)) .leaf) (some (.rows 4 [Sh.b] (xs) (r))) (.node (.node .leaf (some (.cells 32 [(.bool (v)), (.sl 0 0 (j) (c))] 2)) .leaf) (some (.rows 4 [Sh.b] (zs) (room))) .leaf)), 5, 44⟩)) | false => (X ⟨(.node (.node (.node .leaf (some (.ptr 3 0)) .leaf) (some (.ptr 1 0)) (.node .leaf (some (.int IntKind.u64 (lo_))) .leaf)) none (.node (.node .leaf (some (.ptr 4 0)) .leaf) none (.node .leaf (some (.int IntKind.i64 (IntKind.i64.wrap (i + 1)))) .leaf))), (.node (.node (.node .leaf (some (.cells 32 [(.bool (u)), (.sl 2 0 (k) (e))] 2)) .leaf) (some (.cells 32 [(.bool (s)), (.sl 0 0 (l) (c))] 2)) .leaf) (some (.rows 4 [Sh.b] (xs) (r))) (.node (.node .leaf (some (.cells 32 [(.bool (v)), (.sl 0 0 (j) (c))] 2)) .leaf) (some (.rows 4 [Sh.b] (zs) (room))) .leaf)), 5, 44⟩)))) | false => (bsplit (s) fun | true => (bsplit (decide ((↑k : Int) > 0)) fun | true => (K (.int IntKind.u64 (IntKind.u64.wrap (0 - lo_))) (.node (.node (.node .leaf (some (.cells 32 [(.bool (u)), (.sl 2 0 (k) (e))] 2)) .leaf) (some (.cells 32 [(.bool (s)), (.sl 0 0 (l) (c))] 2)) .leaf) (some (.rows 4 [Sh.b] (xs) (r))) (.node (.node .leaf (some (.cells 32 [(.bool (v)), (.sl 0 0 (j) (c))] 2)) .leaf) (some (.rows 4 [Sh.b] (zs) (room))) .leaf)) 5) | false => (K (.int IntKind.u64 (lo_)) (.node (.node (.node .leaf (some (.cells 32 [(.bool (u)), (.sl 2 0 (k) (e))] 2)) .leaf) (some (.cells 32 [(.bool (s)), (.sl 0 0 (l) (c))] 2)) .leaf) (some (.rows 4 [Sh.b] (xs) (r))) (.node (.node .leaf (some (.cells 32 [(.bool (v)), (.sl 0 0 (j) (c))] 2)) .leaf) (some (.rows 4 [Sh.b] (zs) (room))) .leaf)) 5)) | false => (K (.int IntKind.u64 (lo_)) (.node (.node (.node .leaf (some (.cells 32 [(.bool (u)), (.sl 2 0 (k) (e))] 2)) .leaf) (some (.cells 32 [(.bool (s)), (.sl 0 0 (l) (c))] 2)) .leaf) (some (.rows 4 [Sh.b] (xs) (r))) (.node (.node .leaf (some (.cells 32 [(.bool (v)), (.sl 0 0 (j) (c))] 2)) .leaf) (some (.rows 4 [Sh.b] (zs) (room))) .leaf)) 5))) | false => (bsplit (s) fun | true => (bsplit (decide ((↑k : Int) > 0)) fun | true => (K (.int IntKind.u64 (IntKind.u64.wrap (0 - lo_))) (.node (.node (.node .leaf (some (.cells 32 [(.bool (u)), (.sl 2 0 (k) (e))] 2)) .leaf) (some (.cells 32 [(.bool (s)), (.sl 0 0 (l) (c))] 2)) .leaf) (some (.rows 4 [Sh.b] (xs) (r))) (.node (.node .leaf (some (.cells 32 [(.bool (v)), (.sl 0 0 (j) (c))] 2)) .leaf) (some (.rows 4 [Sh.b] (zs) (room))) .leaf)) 5) | false => (K (.int IntKind.u64 (lo_)) (.node (.node (.node .leaf (some (.cells 32 [(.bool (u)), (.sl 2 0 (k) (e))] 2)) .leaf) (some (.cells 32 [(.bool (s)), (.sl 0 0 (l) (c))] 2)) .leaf) (some (.rows 4 [Sh.b] (xs) (r))) (.node (.node .leaf (some (.cells 32 [(.bool (v)), (.sl 0 0 (j) (c))] 2)) .leaf) (some (.rows 4 [Sh.b] (zs) (room))) .leaf)) 5)) | false => (K (.int IntKind.u64 (lo_)) (.node (.node (.node .leaf (some (.cells 32 [(.bool (u)), (.sl 2 0 (k) (e))] 2)) .leaf) (some (.cells 32 [(.bool (s)), (.sl 0 0 (l) (c))] 2)) .leaf) (some (.rows 4 [Sh.b] (xs) (r))) (.node (.node .leaf (some (.cells 32 [(.bool (v)), (.sl 0 0 (j) (c))] 2)) .leaf) (some (.rows 4 [Sh.b] (zs) (room))) .leaf)) 5))) := by kernel_rfl
end W
end Go.Tb

/- The document's stamps do what their contracts say; and the statement StampTells. -/
set_option linter.all false
set_option maxRecDepth 100000
namespace Go.Tb.W
open Go Go.Proofs
variable {I : Interp O}
theorem nr33 {u : Bool} {zs : List Rw} {j : Nat} (h : NR u zs j 4294967296) : Pre u zs j ∧ j ≤ 33 := by
  have := nr_len (m := 33) h (by decide)
  exact ⟨pre_of h (by omega), this⟩
theorem k_era : ∀ (args : List AV) (hp : Tr (AO O)) (nx : Nat) (K : AV → Tr (AO O) → Nat → Prop), c_era args hp nx K → ACall I P 39 args hp (fun v hp' => ∃ nx', K v hp' nx') := by
  intro args hp nx K h
  unfold c_era at h; split at h
  · split at h
    · rename_i hb hg
      refine hrows mix gq3 (fn := Try.f39) (by kernel_rfl) (by kernel_rfl) (by kernel_rfl) [] [] [] (nx := nx) rfl rfl rfl trivial rfl rfl (fun hr ho => ?_)
      refine (t_era I _).mpr ?_
      intro u0 zs1 j2 e3 room4 h4 u5 zs6 j7 e8 room9 h9
      obtain ⟨p4, l4⟩ := nr33 h4
      obtain ⟨p9, l9⟩ := nr33 h9
      refine ⟨⟨p4, p9, by omega⟩, fun u10 zs11 j12 e13 room14 h14 => ?_⟩
      rw [nv_of h4, nv_of h9] at h14
      exact ⟨trivial, .inr ⟨3, _, _, zs11, room14, hb, hg, by simp, rfl, rfl, h _ zs11 j12 e13 room14 h14⟩⟩
    · exact h.elim
  · exact h.elim
theorem gh0 : GOk I P (Gm H0) := Gm.consH gq3 k_era
theorem natAbs_bnd {x : Int} {b : Nat} (h1 : -(b : Int) < x) (h2 : x < b) : x.natAbs < b := by omega
set_option exponentiation.threshold 500 in
theorem k_rsince : ∀ (args : List AV) (hp : Tr (AO O)) (nx : Nat) (K : AV → Tr (AO O) → Nat → Prop), c_rsince args hp nx K → ACall I P 18 args hp (fun v hp' => ∃ nx', K v hp' nx') := by
  intro args hp nx K h
  unfold c_rsince at h; split at h
  · rename_i s n l c t m k d
    split at h
    · rename_i xs r1 ys r2 hb hg1 hg2
      simp only [Bool.and_eq_true] at hb
      obtain ⟨⟨hb1, hb2⟩, hb4⟩ := hb
      obtain ⟨⟨p1, p2, L1, L2⟩, h⟩ := h
      refine hrows mix gq3 (fn := Try.f18) (by kernel_rfl) (by kernel_rfl) (by kernel_rfl) [n, m] [bo xs r1, bo ys r2] [.agg [.bool s, .sl 0 0 l c], .agg [.bool t, .sl 1 0 k d]] (nx := nx) rfl (uniq2 hb1 hb2 hb4) rfl ⟨hg1, hg2, trivial⟩ rfl rfl (fun hr ho => ?_)
      have a1 : (nv s xs l).natAbs < 2 ^ 400 := by rw [← pre_abs p1]; exact Nat.lt_of_lt_of_le (bv_take_lt xs l) (Nat.pow_le_pow_right (by omega) L1)
      have a2 : (nv t ys k).natAbs < 2 ^ 400 := by rw [← pre_abs p2]; exact Nat.lt_of_lt_of_le (bv_take_lt ys k) (Nat.pow_le_pow_right (by omega) L2)
      generalize hA : nv s xs l = A at *
      generalize hB : nv t ys k = B at *
      refine (t_rsince I _ s t l c r1 k d r2 xs ys).mpr ⟨p2, fun u j hu => ⟨rfl, ⟨p1, pre_of hu ?_⟩, fun u2 zs j2 e room h2 => ?_⟩⟩
      · have := nr_len (m := 400) hu (by rw [Int.natAbs_neg, hB]; exact a2)
        omega
      · rw [nv_of hu, hA, hB] at h2
        have e2 : A + -B = A - B := by omega
        rw [e2] at h2
        have hj2 := nr_len (m := 401) h2 (by rw [Nat.pow_succ]; omega)
        refine ⟨⟨pre_of h2 (by omega), by omega, (by omega : (0 : Int) ≤ 63), (by omega : (63 : Int) ≤ 800)⟩, fun b hf => ?_⟩
        rw [nv_of h2] at hf
        have hf : b = true ↔ -(9223372036854775808 : Int) ≤ A - B ∧ A - B < 9223372036854775808 := hf
        refine bsplit_both (fun hx => ⟨⟨rfl, rfl, trivial⟩, .inl ⟨rfl, h _ _ (.inr ⟨rfl, rfl, ?_⟩)⟩⟩) (fun hx => ⟨⟨pre_of h2 (by omega), by omega⟩, fun h' l' hw => ⟨⟨rfl, rfl, trivial⟩, .inl ⟨rfl, h _ _ (.inl ⟨rfl, ?_, ?_⟩)⟩⟩⟩)
        · have : ¬ (-(9223372036854775808 : Int) ≤ A - B ∧ A - B < 9223372036854775808) := fun q => by rw [hf.2 q] at hx; simp at hx
          omega
        · have hb := hf.1 (by cases b <;> simp at hx ⊢)
          obtain ⟨_, w2, w3, _⟩ := hw
          rw [nv_of h2] at w3
          rw [w_i64]; omega
        · have hb := hf.1 (by cases b <;> simp at hx ⊢)
          omega
    · exact h.elim
  · exact h.elim
theorem bv_low (A : List Rw) (m : Nat) : ∃ q, bv A = bv (A.take m) + 2 ^ m * q := bv_mod A m
theorem fold_inv {xs : List Rw} {i : Nat} {lo : Int} (h : lo = bv (xs.take i)) (hi : i < 64) (hb : bit xs i = true) : IntKind.u64.wrap (lo + IntKind.u64.wrap (1 * 2 ^ min i IntKind.u64.bits)) = bv (xs.take (i + 1)) := by
  have h1 := bv_take_lt xs i
  have h2 : (2 : Nat) ^ i ≤ 2 ^ 63 := Nat.pow_le_pow_right (by omega) (by omega)
  have hm : min i IntKind.u64.bits = i := Nat.min_eq_left (by have : IntKind.u64.bits = 64 := rfl; omega)
  rw [hm, bv_succ, hb]
  have e : ((2 : Int) ^ i) = ((2 ^ i : Nat) : Int) := by simp
  rw [e]
  have e63 : (2 : Nat) ^ 63 = 9223372036854775808 := by decide
  rw [e63] at h2
  generalize (2 : Nat) ^ i = p at *
  simp only [nb, Nat.mul_one]
  rw [Int.one_mul, w_u64 (p : Int), w_u64]
  omega
theorem fold_stay {xs : List Rw} {i : Nat} {lo : Int} (h : lo = bv (xs.take i)) (hb : bit xs i = false) : lo = bv (xs.take (i + 1)) := by
  rw [bv_succ, hb]; simp [nb]; exact h
theorem k_rfold : ∀ (args : List AV) (hp : Tr (AO O)) (nx : Nat) (K : AV → Tr (AO O) → Nat → Prop), c_rfold args hp nx K → ACall I P 23 args hp (fun v hp' => ∃ nx', K v hp' nx') := by
  intro args hp nx K h
  unfold c_rfold at h; split at h
  · rename_i s n l c
    split at h
    · rename_i xs r1 hb1 hg1
      obtain ⟨⟨p1, L1⟩, h⟩ := h
      refine hrows mix gh0 (fn := Try.f23) (by kernel_rfl) (by kernel_rfl) (by kernel_rfl) [n] [bo xs r1] [.agg [.bool s, .sl 0 0 l c]] (nx := nx) rfl (uniq1 hb1) rfl ⟨hg1, trivial⟩ rfl rfl (fun hr ho => ?_)
      refine (t_rfold I _ s l c r1 xs).mpr ?_
      intro u0 zs1 j2 e3 room4 hera
      have hj2 : j2 ≠ 0 := fun e => by have := (nr_zero hera).1 e; omega
      have loop : ∀ (s0 : St O) (v : Bool) (j : Nat), gcOk 1 [(1, 1), (2, 2), (3, 3), (4, 4)] [1, 3, 4, 5, 6] s0 = true → gc 1 [(1, 1), (2, 2), (3, 3), (4, 4)] [1, 3, 4, 5, 6] 5 s0 = j_fold s l c r1 xs v j u0 zs1 j2 e3 room4 0 0 → j ≤ xs.length → nv s xs l = (if s then -(bv (xs.take j) : Int) else bv (xs.take j)) →
          ALoop I 1 (cd Try.f23 [true, true, true, true, true, false, true, false, false]) (acode I P (Gm H0) (adraw P (Gm H0)) 1 (cd Try.f23 [true, true, true, true, true, false, true, false, false])) (ablock 0 (athen (cd Try.f23 [true, true, true, true, true, true]) (fun s => acode I P (Gm H0) (adraw P (Gm H0)) 1 (cd Try.f23 [true, true, true, true, true, true]) s (kret P Try.f23 (fun v lh _ => keeps lh 0 [bo xs r1] ∧ ((nm (pd (pairs 0 [n])) v = true ∧ K (rn (pι (pairs 0 [n])) v) hp nx) ∨
            ∃ j t sh zs room, Nat.blt nx 16777215 = true ∧ hp.get nx = none ∧ [n].length ≤ j ∧ lh.get j = some (.rows t sh zs room) ∧ nm (pd (pairs 0 [n] ++ [(j, nx)])) v = true ∧ K (rn (pι (pairs 0 [n] ++ [(j, nx)])) v) (hp.set nx (some (.rows t sh zs room))) (nx + 1))))) (kret P Try.f23 (fun v lh _ => keeps lh 0 [bo xs r1] ∧ ((nm (pd (pairs 0 [n])) v = true ∧ K (rn (pι (pairs 0 [n])) v) hp nx) ∨
            ∃ j t sh zs room, Nat.blt nx 16777215 = true ∧ hp.get nx = none ∧ [n].length ≤ j ∧ lh.get j = some (.rows t sh zs room) ∧ nm (pd (pairs 0 [n] ++ [(j, nx)])) v = true ∧ K (rn (pι (pairs 0 [n] ++ [(j, nx)])) v) (hp.set nx (some (.rows t sh zs room))) (nx + 1)))))) s0 := by
        intro s0 v j hg0 he0 hjl hval
        refine ALoop.invg (ps := [(1, 1), (2, 2), (3, 3), (4, 4)]) (ts := [1, 3, 4, 5, 6]) (nx := 5) (fun x : Int × Nat => j_fold s l c r1 xs v j u0 zs1 j2 e3 room4 x.1 (x.2 : Nat)) (fun x => x.1 = bv (xs.take x.2) ∧ x.2 ≤ j ∧ x.2 ≤ 64) (fun x => 64 - x.2) (fun x hG => ?_) hg0 (0, 0) he0 ⟨by rw [List.take_zero]; rfl, by omega, by omega⟩
        obtain ⟨lo, i⟩ := x
        obtain ⟨g1, g2, g3⟩ := hG
        simp only at g1 g2 g3
        refine (t_rfoldR I _ _ s l c r1 xs v j u0 zs1 j2 e3 room4 lo i).mpr ?_
        have fin : (i : Nat) = min 64 j → ∀ r, FoldR (nv s xs l) r → keeps (Tr.ofList 0 [bo xs r1] .leaf) 0 [bo xs r1] ∧ K (.int .u64 r) hp nx := fun _ r hr => ⟨⟨rfl, trivial⟩, h r hr⟩
        have low : i = min 64 j → ∃ q : Nat, (bv (xs.take j) : Int) = lo + 18446744073709551616 * q := fun hi => by
          obtain ⟨q, hq⟩ := bv_low (xs.take j) 64
          refine ⟨q, ?_⟩
          have e64 : (2 : Nat) ^ 64 = 18446744073709551616 := by decide
          rw [e64, List.take_take, ← hi] at hq
          rw [g1, hq, Int.natCast_add, Int.natCast_mul]; rfl
        have hlo : 0 ≤ lo ∧ lo ≤ 18446744073709551615 := by
          have h1 := bv_take_lt xs i
          have h2 : (2 : Nat) ^ i ≤ 2 ^ 64 := Nat.pow_le_pow_right (by omega) g3
          have e64 : (2 : Nat) ^ 64 = 18446744073709551616 := by decide
          rw [e64] at h2
          rw [g1]; omega
        have done : i = min 64 j → (bsplit s fun
            | true => (bsplit (decide ((j2 : Int) > 0)) fun
              | true => FoldR (nv s xs l) (IntKind.u64.wrap (0 - lo))
              | false => FoldR (nv s xs l) lo)
            | false => FoldR (nv s xs l) lo) := fun hi => by
          obtain ⟨q, hq⟩ := low hi
          clear hi low
          refine bsplit_both (fun hs => bsplit_both (fun _ => ?_) (fun hz => ?_)) (fun hs => ?_)
          · subst hs
            simp only [if_true] at hval
            unfold FoldR
            rw [hval, w_u64]; omega
          · simp at hz; omega
          · subst hs
            simp only [Bool.false_eq_true, if_false] at hval
            unfold FoldR
            rw [hval]; omega
        have out : ∀ {A B C : Prop}, (FoldR (nv s xs l) (IntKind.u64.wrap (0 - lo)) → A) → (FoldR (nv s xs l) lo → B) → (FoldR (nv s xs l) lo → C) → i = min 64 j → (bsplit s fun | true => (bsplit (decide ((j2 : Int) > 0)) fun | true => A | false => B) | false => C) := fun ha hb hc hi => by
          have hd := done hi
          cases s with
          | true =>
            simp only [bsplit] at hd ⊢
            by_cases hj : (j2 : Int) > 0
            · rw [decide_eq_true hj] at hd ⊢
              exact ha hd
            · rw [decide_eq_false hj] at hd ⊢
              exact hb hd
          | false => exact hc hd
        rw [s_i64 (n := (i : Int) + 1) (by omega)]
        have hin : ((i : Int)).toNat = i := by omega
        refine bsplit_both (fun c1 => bsplit_both (fun c2 => ?_) (fun c2 => ?_)) (fun c1 => ?_)
        · have c1 : i < 64 := by have := of_decide_eq_true c1; omega
          have c2 : i < j := by have := of_decide_eq_true c2; omega
          refine must_mk (by simp; omega) ?_
          have hx : xs[i]? = some (xs[i]'(by omega)) := List.getElem?_eq_getElem _
          rw [hin]
          refine xget_mk hx ?_
          have hbit : bit xs i = (xs[i]'(by omega)).b 0 := by unfold bit; rw [hx]
          refine bsplit_both (fun hb => must_mk (by simp) ?_) (fun hb => ?_)
          · refine ⟨(_, i + 1), ⟨fold_inv g1 c1 (by rw [hbit, hb]), by simp only; omega, by simp only; omega⟩, by simp only; omega, by kernel_rfl⟩
          · refine ⟨(_, i + 1), ⟨fold_stay g1 (by rw [hbit, hb]), by simp only; omega, by simp only; omega⟩, by simp only; omega, by kernel_rfl⟩
        · have c1 : i < 64 := by have := of_decide_eq_true c1; omega
          have c2 : j ≤ i := by have := of_decide_eq_false c2; omega
          exact out (fun hr => ⟨⟨rfl, trivial⟩, .inl ⟨rfl, h _ hr⟩⟩) (fun hr => ⟨⟨rfl, trivial⟩, .inl ⟨rfl, h _ hr⟩⟩) (fun hr => ⟨⟨rfl, trivial⟩, .inl ⟨rfl, h _ hr⟩⟩) (by omega)
        · have c1 : 64 ≤ i := by have := of_decide_eq_false c1; omega
          exact out (fun hr => ⟨⟨rfl, trivial⟩, .inl ⟨rfl, h _ hr⟩⟩) (fun hr => ⟨⟨rfl, trivial⟩, .inl ⟨rfl, h _ hr⟩⟩) (fun hr => ⟨⟨rfl, trivial⟩, .inl ⟨rfl, h _ hr⟩⟩) (by omega)
      refine bsplit_both (fun hs => ⟨p1, fun u5 j6 h6 => ?_⟩) (fun hs => ?_)
      · subst hs
        have ha := nr_abs h6
        have hneg : nv true xs l ≤ 0 := by unfold nv sv; simp
        exact loop _ u5 j6 (by kernel_rfl) (by kernel_rfl) h6.1 (by rw [if_pos rfl, ha]; omega)
      · subst hs
        exact loop _ false l (by kernel_rfl) (by kernel_rfl) p1.1.1 (by simp [nv, sv])
    · exact h.elim
  · exact h.elim
theorem gh1 : GOk I P (Gm H1) := Gm.consH (Gm.consH gh0 k_radd2) k_rfold
theorem near_math {s V r up later E a b r2 : Int} (hf : FoldR V r) (hup : up = IntKind.u64.wrap (s - r)) (hl : later = V + up) (he : E = later - 18446744073709551616) (hc : CmpR (later - V) (V - E) r2) (hs : 0 ≤ s ∧ s ≤ 18446744073709551615) :
    (r2 ≤ 0 → NearV s V later) ∧ (0 < r2 → NearV s V E) := by
  obtain ⟨h1, h2⟩ := hf
  rw [w_u64] at hup
  unfold CmpR at hc
  unfold NearV
  refine ⟨fun h => ⟨by omega, by omega⟩, fun h => ⟨by omega, by omega⟩⟩
theorem up_half {n : Int} (h : 0 ≤ n ∧ n ≤ 18446744073709551615) : IntKind.i64.wrap (n.fdiv (2 ^ min (Int.toNat 1) IntKind.u64.bits)) = n / 2 ∧ IntKind.i64.wrap (n.tmod 2) = n % 2 := by
  have e1 : n.fdiv (2 ^ min (Int.toNat 1) IntKind.u64.bits) = n / 2 := shr_eq (b := 2) n 1 .u64 (by decide) (by decide)
  rw [e1, s_i64 (n := n / 2) (by omega), Int.tmod_eq_emod_of_nonneg h.1, s_i64 (n := n % 2) (by omega)]
  exact ⟨rfl, rfl⟩
theorem nrq {u : Bool} {zs : List Rw} {j m : Nat} {v : Int} (h : NR u zs j v) (hv : v.natAbs < 2 ^ m) (hm : m ≤ 800) : Pre u zs j ∧ j ≤ m := by
  have := nr_len h hv
  exact ⟨pre_of h (by omega), this⟩
theorem k_rnear : ∀ (args : List AV) (hp : Tr (AO O)) (nx : Nat) (K : AV → Tr (AO O) → Nat → Prop), c_rnear args hp nx K → ACall I P 13 args hp (fun v hp' => ∃ nx', K v hp' nx') := by
  intro args hp nx K h
  unfold c_rnear at h; split at h
  · rename_i s t n l c
    split at h
    · rename_i xs r1 hb hg1 hgx
      simp only [Bool.and_eq_true] at hb
      obtain ⟨hb1, hb3⟩ := hb
      obtain ⟨⟨p1, L1⟩, h⟩ := h
      refine hrows mix gh1 (fn := Try.f13) (by kernel_rfl) (by kernel_rfl) (by kernel_rfl) [n] [bo xs r1] [.int .u64 s, .agg [.bool t, .sl 0 0 l c]] (nx := nx) rfl (uniq1 hb1) rfl ⟨hg1, trivial⟩ rfl rfl (fun hr ho => ?_)
      simp only [rgs, rg, Bool.and_eq_true] at hr
      have hs := r_u64 hr.1
      have aV : (nv t xs l).natAbs < 2 ^ 128 := by rw [← pre_abs p1]; exact Nat.lt_of_lt_of_le (bv_take_lt xs l) (Nat.pow_le_pow_right (by omega) L1)
      generalize hV : nv t xs l = V at *
      have e128 : (2 : Nat) ^ 128 = 340282366920938463463374607431768211456 := by decide
      have e129 : (2 : Nat) ^ 129 = 680564733841876926926749214863536422912 := by decide
      have e130 : (2 : Nat) ^ 130 = 1361129467683753853853498429727072845824 := by decide
      have e64 : (2 : Nat) ^ 64 = 18446744073709551616 := by decide
      have e65 : (2 : Nat) ^ 65 = 36893488147419103232 := by decide
      rw [e128] at aV
      refine (t_rnear I _ s t l c r1 xs).mpr ⟨⟨p1, by omega⟩, fun r0 hf => ?_⟩
      rw [hV] at hf ⊢
      have hu : 0 ≤ IntKind.u64.wrap (s - r0) ∧ IntKind.u64.wrap (s - r0) ≤ 18446744073709551615 := by rw [w_u64]; omega
      generalize hup : IntKind.u64.wrap (s - r0) = up at *
      obtain ⟨w1, w2⟩ := up_half hu
      rw [w1, w2]
      intro u1 zs2 j3 e4 room5 n5
      obtain ⟨q5, l5⟩ := nrq (m := 64) n5 (by rw [e64]; omega) (by omega)
      refine ⟨⟨rfl, rfl, rfl, q5⟩, fun u6 zs7 j8 e9 room10 n10 => ⟨rfl, fun u11 zs12 j13 e14 room15 n15 => ?_⟩⟩
      rw [nv_of n5] at n10
      obtain ⟨q10, l10⟩ := nrq (m := 64) n10 (by rw [e64]; omega) (by omega)
      obtain ⟨q15, l15⟩ := nrq (m := 64) n15 (by rw [e64]; omega) (by omega)
      refine ⟨rfl, ⟨q10, q15⟩, fun u16 zs17 j18 e19 room20 n20 => ?_⟩
      rw [nv_of n10, nv_of n15, show up / 2 + up / 2 + up % 2 = up by omega] at n20
      obtain ⟨q20, l20⟩ := nrq (m := 64) n20 (by rw [e64]; omega) (by omega)
      refine ⟨rfl, ⟨p1, q20⟩, fun u21 zs22 j23 e24 room25 n25 u26 zs27 j28 e29 room30 n30 => ?_⟩
      rw [nv_of n20] at n25
      obtain ⟨q25, l25⟩ := nrq (m := 129) n25 (by rw [e129]; omega) (by omega)
      obtain ⟨q30, l30⟩ := nrq (m := 65) n30 (by rw [e65]; decide) (by omega)
      refine ⟨rfl, q30, fun u31 j32 n32 => ?_⟩
      rw [nv_of n30] at n32
      obtain ⟨q32, l32⟩ := nrq (m := 65) n32 (by rw [e65]; decide) (by omega)
      refine ⟨rfl, ⟨q25, q32⟩, fun u33 zs34 j35 e36 room37 n37 => ⟨p1, fun u38 j39 n39 => ?_⟩⟩
      rw [nv_of n25, nv_of n32] at n37
      obtain ⟨q37, l37⟩ := nrq (m := 129) n37 (by rw [e129]; omega) (by omega)
      obtain ⟨q39, l39⟩ := nrq (m := 128) n39 (by rw [e128]; omega) (by omega)
      refine ⟨rfl, ⟨q25, q39⟩, fun u40 zs41 j42 e43 room44 n44 => ⟨q37, fun u45 j46 n46 => ?_⟩⟩
      rw [nv_of n25, nv_of n39] at n44
      rw [nv_of n37] at n46
      obtain ⟨q44, l44⟩ := nrq (m := 65) n44 (by rw [e65]; omega) (by omega)
      obtain ⟨q46, l46⟩ := nrq (m := 129) n46 (by rw [e129]; omega) (by omega)
      refine ⟨rfl, ⟨p1, q46⟩, fun u47 zs48 j49 e50 room51 n51 => ?_⟩
      rw [nv_of n46] at n51
      obtain ⟨q51, l51⟩ := nrq (m := 130) n51 (by rw [e130]; omega) (by omega)
      refine ⟨⟨q44, q51, by omega, by omega⟩, fun r52 hc => ?_⟩
      rw [nv_of n44, nv_of n51] at hc
      obtain ⟨m1, m2⟩ := near_math (s := s) (V := V) (r := r0) (up := up) (later := V + up) (E := V + up + -18446744073709551616) (a := 0) (b := 0) (r2 := r52) hf hup.symm rfl (by omega) (by rwa [show V + up - V = V + up + -V by omega, show V - (V + up + -18446744073709551616) = V + -(V + up + -18446744073709551616) by omega]) hs
      refine bsplit_both (fun hx => ⟨⟨rfl, trivial⟩, .inr ⟨8, _, _, zs22, room25, hb3, hgx, by simp, rfl, rfl, h _ u21 zs22 j23 e24 room25 (m1 (by simpa using hx)) n25⟩⟩) (fun hx => ⟨⟨rfl, trivial⟩, .inr ⟨11, _, _, zs34, room37, hb3, hgx, by simp, rfl, rfl, h _ u33 zs34 j35 e36 room37 (m2 (by simpa using hx)) n37⟩⟩)
    · exact h.elim
  · exact h.elim
end Go.Tb.W

/- What the functions' bodies come to: each line is what the abstract machine makes of one function, or of one round of a loop, over the contracts of the functions that it calls (the text was printed by a program of mine; Lean proves it again). -/
set_option linter.all false
set_option maxRecDepth 100000
namespace Go.Tb
open Go Go.Proofs
namespace W
theorem t_tellsl (I : Interp O) (K : AV → Prop) (a b s mh ml oh ol : Int) : abody I P (Gm H3) (adraw P (Gm H3)) 0 Try.f3 [.int .u64 a, .int .u64 b, .int .i64 s, .agg [.int .i64 mh, .int .u64 ml], .agg [.int .i64 oh, .int .u64 ol]] .leaf 0 (fun v _ _ => K v) =
  (∀ (h'0 : Int), (∀ (l'1 : Int), (∀ (e2 : Int), (NearR a mh ml h'0 l'1 e2 → (∀ (u3 : Bool), (∀ (zs4 : List Rw), (∀ (j5 : Nat), (∀ (e6 : Nat), (∀ (room7 : Nat), (NR u3 zs4 j5 (vl mh ml) → ((Pre u3 zs4 j5 ∧ j5 ≤ (128 : Nat)) ∧ (∀ (x8 : Int), (∀ (u9 : Bool), (∀ (zs10 : List Rw), (∀ (j11 : Nat), (∀ (e12 : Nat), (∀ (room13 : Nat), (NearV a (nv u3 zs4 j5) x8 → (NR u9 zs10 j11 x8 → ((Pre u9 zs10 j11 ∧ j11 ≤ (800 : Nat) ∧ powOk (127 : Int)) ∧ (∀ (b14 : Bool), (FitsR (nv u9 zs10 j11) 127 b14 → (bsplit (!b14) fun | true => (bsplit (e2 != 6) fun | true => (K (.bool false)) | false => (bsplit (!(h'0 == 0 && (l'1 == 0 && true))) fun | true => (K (.bool false)) | false => (∀ (n15 : Int), (∀ (e16 : Int), (I64R (vl mh ml - vl oh ol) n15 e16 → (∀ (u17 : Bool), (∀ (zs18 : List Rw), (∀ (j19 : Nat), (∀ (e20 : Nat), (∀ (room21 : Nat), (NR u17 zs18 j19 (vl mh ml) → (((some (.cells 25 [(.int IntKind.i64 (oh)), (.int IntKind.u64 (ol))] 2) : Option (AO O)) = some (.cells 25 [(.int IntKind.i64 (oh)), (.int IntKind.u64 (ol))] 2)) ∧ (((some (.cells 25 [(.int IntKind.i64 (oh)), (.int IntKind.u64 (ol))] 2) : Option (AO O)) = some (.cells 25 [(.int IntKind.i64 (oh)), (.int IntKind.u64 (ol))] 2)) ∧ (∀ (u22 : Bool), (∀ (zs23 : List Rw), (∀ (j24 : Nat), (∀ (e25 : Nat), (∀ (room26 : Nat), (NR u22 zs23 j24 (vl oh ol) → ((Pre u17 zs18 j19 ∧ Pre u22 zs23 j24 ∧ j19 ≤ (400 : Nat) ∧ j24 ≤ (400 : Nat)) ∧ (∀ (x27 : Int), (∀ (e28 : Int), (I64R (nv u17 zs18 j19 - nv u22 zs23 j24) x27 e28 → (∀ (d29 : Int), (DiffR (a - b) d29 → (∀ (d30 : Int), (DiffR (a - b) d30 → (bsplit (d29 == d30) fun | true => (∀ (d31 : Int), (SumR (a + s) d31 → (bsplit (d31 == IntKind.u64.wrap (a + IntKind.u64.wrap s)) fun | true => (∀ (u32 : Bool), (∀ (zs33 : List Rw), (∀ (j34 : Nat), (∀ (e35 : Nat), (∀ (room36 : Nat), (NR u32 zs33 j34 (vl mh ml) → ((Pre u32 zs33 j34 ∧ j34 ≤ (800 : Nat)) ∧ (∀ (r37 : Int), (FoldR (nv u32 zs33 j34) r37 → (bsplit (ml == r37) fun | true => (bsplit (n15 == x27) fun | true => (K (.bool (e16 == e28))) | false => (K (.bool false))) | false => (K (.bool false)))))))))))) | false => (K (.bool false))))) | false => (K (.bool false)))))))))))))))))))))))))))))) | false => ((Pre u9 zs10 j11 ∧ j11 ≤ (800 : Nat)) ∧ (∀ (h'38 : Int), (∀ (l'39 : Int), (WideR (nv u9 zs10 j11) h'38 l'39 → (bsplit (e2 != 0) fun | true => (K (.bool false)) | false => (bsplit (!(h'0 == h'38 && (l'1 == l'39 && true))) fun | true => (K (.bool false)) | false => (∀ (n40 : Int), (∀ (e41 : Int), (I64R (vl mh ml - vl oh ol) n40 e41 → (∀ (u42 : Bool), (∀ (zs43 : List Rw), (∀ (j44 : Nat), (∀ (e45 : Nat), (∀ (room46 : Nat), (NR u42 zs43 j44 (vl mh ml) → (((some (.cells 25 [(.int IntKind.i64 (oh)), (.int IntKind.u64 (ol))] 2) : Option (AO O)) = some (.cells 25 [(.int IntKind.i64 (oh)), (.int IntKind.u64 (ol))] 2)) ∧ (((some (.cells 25 [(.int IntKind.i64 (oh)), (.int IntKind.u64 (ol))] 2) : Option (AO O)) = some (.cells 25 [(.int IntKind.i64 (oh)), (.int IntKind.u64 (ol))] 2)) ∧ (∀ (u47 : Bool), (∀ (zs48 : List Rw), (∀ (j49 : Nat), (∀ (e50 : Nat), (∀ (room51 : Nat), (NR u47 zs48 j49 (vl oh ol) → ((Pre u42 zs43 j44 ∧ Pre u47 zs48 j49 ∧ j44 ≤ (400 : Nat) ∧ j49 ≤ (400 : Nat)) ∧ (∀ (x52 : Int), (∀ (e53 : Int), (I64R (nv u42 zs43 j44 - nv u47 zs48 j49) x52 e53 → (∀ (d54 : Int), (DiffR (a - b) d54 → (∀ (d55 : Int), (DiffR (a - b) d55 → (bsplit (d54 == d55) fun | true => (∀ (d56 : Int), (SumR (a + s) d56 → (bsplit (d56 == IntKind.u64.wrap (a + IntKind.u64.wrap s)) fun | true => (∀ (u57 : Bool), (∀ (zs58 : List Rw), (∀ (j59 : Nat), (∀ (e60 : Nat), (∀ (room61 : Nat), (NR u57 zs58 j59 (vl mh ml) → ((Pre u57 zs58 j59 ∧ j59 ≤ (800 : Nat)) ∧ (∀ (r62 : Int), (FoldR (nv u57 zs58 j59) r62 → (bsplit (ml == r62) fun | true => (bsplit (n40 == x52) fun | true => (K (.bool (e41 == e53))) | false => (K (.bool false))) | false => (K (.bool false)))))))))))) | false => (K (.bool false))))) | false => (K (.bool false))))))))))))))))))))))))))))))))))))))))))))))))))))))))) := by kernel_rfl
end W
end Go.Tb

/- How far stamps are apart, sums, folds, and a stamp's moment near a pivot are as the document says. -/
set_option linter.all false
set_option maxRecDepth 100000
namespace Go.Tb.W
open Go Go.Proofs
variable {I : Interp O}
theorem gh3 : GOk I P (Gm H3) := by
  refine Gm.consH ?_ k_from
  refine Gm.consH ?_ k_fits
  refine Gm.consH ?_ k_rwide
  refine Gm.consH ?_ k_rfold
  refine Gm.consH ?_ k_rsince
  refine Gm.consH ?_ k_rnear
  exact gh2
theorem i64_det {x n e n' e' : Int} (h : I64R x n e) (g : I64R x n' e') : n = n' ∧ e = e' := by unfold I64R at h g; omega
theorem diff_det {x d d' : Int} (h : DiffR x d) (g : DiffR x d') : d = d' := by unfold DiffR at h g; omega
theorem l_tells (a b s mh ml oh ol : Int) (hp : Tr (AO O)) : ACall I P 3 [.int .u64 a, .int .u64 b, .int .i64 s, .agg [.int .i64 mh, .int .u64 ml], .agg [.int .i64 oh, .int .u64 ol]] hp (fun v hp' => v = .bool true ∧ hp' = hp) := by
  refine (pcall mix gh3 (fn := Try.f3) (K := Tru) (by kernel_rfl) (by kernel_rfl) (by kernel_rfl) rfl rfl (fun hr => ?_) hp).mono fun _ _ h => ⟨h.1.1, h.2⟩
  simp only [rgs, rg, Bool.and_eq_true] at hr
  obtain ⟨ha, hb, hs, ⟨hmh, hml, _⟩, ⟨hoh, hol, _⟩, _⟩ := hr
  have ha := r_u64 ha; have hb := r_u64 hb; have hs := r_i64 hs; have hmh := r_i64 hmh; have hml := r_u64 hml; have hoh := r_i64 hoh; have hol := r_u64 hol
  have e128 : (2 : Nat) ^ 128 = 340282366920938463463374607431768211456 := by decide
  have e127 : (2 : Nat) ^ 127 = 170141183460469231731687303715884105728 := by decide
  refine (t_tellsl I (fun v => Tru v ∧ cl v = true) a b s mh ml oh ol).mpr ?_
  have bV : -170141183460469231731687303715884105728 ≤ vl mh ml ∧ vl mh ml ≤ 170141183460469231731687303715884105727 := by unfold vl; omega
  have bW : -170141183460469231731687303715884105728 ≤ vl oh ol ∧ vl oh ol ≤ 170141183460469231731687303715884105727 := by unfold vl; omega
  have hlow : (vl mh ml - ml) % 18446744073709551616 = 0 := by unfold vl; omega
  generalize hV : vl mh ml = V at *
  generalize hW : vl oh ol = W at *
  intro h0 l1 e2 hnear u3 zs4 j5 e6 room7 n7
  obtain ⟨q7, l7⟩ := nrq (m := 128) n7 (by rw [e128]; omega) (by omega)
  refine ⟨⟨q7, l7⟩, fun x8 u9 zs10 j11 e12 room13 hv n13 => ?_⟩
  rw [nv_of n7] at hv
  obtain ⟨d, hd1, hd2, hadd⟩ := hnear
  rw [hV] at hadd
  have hx : x8 = V + d := by unfold NearV at hv; omega
  subst hx
  obtain ⟨q13, l13⟩ := nrq (m := 128) n13 (by rw [e128]; omega) (by omega)
  refine ⟨⟨q13, by omega, (by omega : (0 : Int) ≤ 127), (by omega : (127 : Int) ≤ 800)⟩, fun b14 hf => ?_⟩
  rw [nv_of n13] at hf
  have hf : b14 = true ↔ -(170141183460469231731687303715884105728 : Int) ≤ V + d ∧ V + d < 170141183460469231731687303715884105728 := hf
  have rest : ∀ (n15 e16 : Int), I64R (V - W) n15 e16 → ∀ (u17 : Bool) (zs18 : List Rw) (j19 : Nat), NR u17 zs18 j19 V → ∀ (u22 : Bool) (zs23 : List Rw) (j24 : Nat), NR u22 zs23 j24 W → (Pre u17 zs18 j19 ∧ Pre u22 zs23 j24 ∧ j19 ≤ 400 ∧ j24 ≤ 400) ∧ nv u17 zs18 j19 = V ∧ nv u22 zs23 j24 = W := by
    intro n15 e16 hi u17 zs18 j19 n19 u22 zs23 j24 n24
    obtain ⟨q19, l19⟩ := nrq (m := 128) n19 (by rw [e128]; omega) (by omega)
    obtain ⟨q24, l24⟩ := nrq (m := 128) n24 (by rw [e128]; omega) (by omega)
    exact ⟨⟨q19, q24, by omega, by omega⟩, nv_of n19, nv_of n24⟩
  have fold : ∀ (u32 : Bool) (zs33 : List Rw) (j34 : Nat), NR u32 zs33 j34 V → (Pre u32 zs33 j34 ∧ j34 ≤ 800) ∧ ∀ r, FoldR (nv u32 zs33 j34) r → ml = r := by
    intro u zs j n
    obtain ⟨q, l⟩ := nrq (m := 128) n (by rw [e128]; omega) (by omega)
    refine ⟨⟨q, by omega⟩, fun r hr => ?_⟩
    rw [nv_of n] at hr
    unfold FoldR at hr; omega
  refine bsplit_both (fun hx => ?_) (fun hx => ?_)
  · have hno : ¬ (-(170141183460469231731687303715884105728 : Int) ≤ V + d ∧ V + d < 170141183460469231731687303715884105728) := fun q => by rw [hf.2 q] at hx; simp at hx
    obtain ⟨rfl, rfl, rfl⟩ : e2 = 6 ∧ h0 = 0 ∧ l1 = 0 := by
      rcases hadd with ⟨_, hnm⟩ | ⟨h1, h2, h3, _⟩
      · have := nm_bound hnm; omega
      · exact ⟨h1, h2, h3⟩
    refine bsF (by simp) (bsF (by simp) ?_)
    intro n15 e16 hi u17 zs18 j19 e20 room21 n19
    refine ⟨rfl, rfl, fun u22 zs23 j24 e25 room26 n24 => ?_⟩
    obtain ⟨r1, r2, r3⟩ := rest n15 e16 hi u17 zs18 j19 n19 u22 zs23 j24 n24
    refine ⟨r1, fun x27 e28 hi2 d29 hd29 d30 hd30 => ?_⟩
    rw [r2, r3] at hi2
    obtain ⟨rfl, rfl⟩ := i64_det hi hi2
    obtain rfl := diff_det hd29 hd30
    refine bsT (by simp) (fun d31 h31 => bsT ?_ (fun u32 zs33 j34 e35 room36 n34 => ?_))
    · have := w_u64 s; have := w_u64 (a + IntKind.u64.wrap s); unfold SumR at h31; simp; omega
    · obtain ⟨f1, f2⟩ := fold u32 zs33 j34 n34
      exact ⟨f1, fun r hr => bsT (by simpa using f2 r hr) (bsT (by simp) ⟨tru (by simp), rfl⟩)⟩
  · have hyes := hf.1 (by cases b14 <;> simp at hx ⊢)
    refine ⟨⟨q13, by omega⟩, fun h38 l39 hw => ?_⟩
    rw [nv_of n13] at hw
    obtain ⟨rfl, rfl, rfl⟩ : e2 = 0 ∧ h0 = h38 ∧ l1 = l39 := by
      obtain ⟨_, _, _, w4⟩ := hw
      have hn := w4 ⟨hyes.1, by omega⟩
      rcases hadd with ⟨h1, hnm⟩ | ⟨h1, h2, h3, h4⟩
      · obtain ⟨i1, i2⟩ := nm_inj hnm hn
        exact ⟨h1, i1, i2⟩
      · omega
    refine bsF (by simp) (bsF (by simp) ?_)
    intro n15 e16 hi u17 zs18 j19 e20 room21 n19
    refine ⟨rfl, rfl, fun u22 zs23 j24 e25 room26 n24 => ?_⟩
    obtain ⟨r1, r2, r3⟩ := rest n15 e16 hi u17 zs18 j19 n19 u22 zs23 j24 n24
    refine ⟨r1, fun x27 e28 hi2 d29 hd29 d30 hd30 => ?_⟩
    rw [r2, r3] at hi2
    obtain ⟨rfl, rfl⟩ := i64_det hi hi2
    obtain rfl := diff_det hd29 hd30
    refine bsT (by simp) (fun d31 h31 => bsT ?_ (fun u32 zs33 j34 e35 room36 n34 => ?_))
    · have := w_u64 s; have := w_u64 (a + IntKind.u64.wrap s); unfold SumR at h31; simp; omega
    · obtain ⟨f1, f2⟩ := fold u32 zs33 j34 n34
      exact ⟨f1, fun r hr => bsT (by simpa using f2 r hr) (bsT (by simp) ⟨tru (by simp), rfl⟩)⟩
end Go.Tb.W

