/- Laws of disciplines: sides; bounds grow. -/
import Derived.Test.YtfdociljddgnhaaT9
set_option linter.all false
namespace Go.Tb.W
open Go Go.Proofs
variable {I : Interp O}
theorem slew_zero {off n y : Int} (h : SlewR off n 0 y) : y = 0 := by
  unfold SlewR at h; rw [Int.mul_zero] at h; omega
theorem ref_side {st l off bd now e e2 : Int} (h : RefQ st l off bd now e) (g : RefQ st l (-off) bd now e2) : e2 = e := by
  unfold RefQ at h g
  rcases h with h | h | h | h | h <;> omega
/-- Turned to the other side. -/
theorem take_side {s p st q q2 l b off bd now k y v e st' q' l' b' k2 y2 v2 e2 st2 q2' l2 b2 : Int} (h : TakeQ s p 0 st q l b off bd now k y v e st' q' l' b') (g : TakeQ s p 0 st q2 l b (-off) bd now k2 y2 v2 e2 st2 q2' l2 b2) :
    k2 = k ∧ y = -y2 ∧ e2 = e ∧ st2 = st' ∧ l2 = l' ∧ b2 = b' ∧ -2305843009213693952 ≤ y2 ∧ y2 ≤ 2305843009213693952 := by
  rcases h with ⟨hr, h⟩ | ⟨h0, h1, h2, h3, h4, h⟩ <;> rcases g with ⟨gr, g⟩ | ⟨g0, g1, g2, g3, g4, g⟩
  · have := ref_side hr gr; omega
  · exact (ref_no hr g1 g2 (by omega) g4).elim
  · exact (ref_no gr h1 h2 (by omega) h4).elim
  · rw [Int.natAbs_neg] at g
    generalize hA : (off.natAbs : Int) = A at *
    rcases h with h | ⟨a1, a2, a3, a4, h⟩ <;> rcases g with g | ⟨c1, c2, c3, c4, g⟩
    · omega
    · omega
    · omega
    · rcases h with ⟨x1, x2, x3, x4, hb⟩ | ⟨x1, x2, x3, x4, x5, x6, hb⟩ | ⟨x1, x2, x3, x4, x5, x6, hb⟩ <;> rcases g with ⟨z1, z2, z3, z4, gb⟩ | ⟨z1, z2, z3, z4, z5, z6, gb⟩ | ⟨z1, z2, z3, z4, z5, z6, gb⟩
      · have := bnd_det hb gb; omega
      · omega
      · omega
      · omega
      · have := bnd_det hb gb; omega
      · omega
      · omega
      · omega
      · have hy := slew_zero x5
        have hy2 := slew_zero z5
        subst hy; subst hy2
        have := bnd_det hb gb; omega
theorem l_sides (s p w r : Int) (l c : Nat) (ob : Obj) (xs : List Rw) (hxs : xs.length = l) : ACall I P 7 [.agg [.int .i64 s, .int .i64 p, .int .i64 w, .int .i64 r], .sl 0 0 l c] (Tr.ofList 0 [.out ob aS xs] .leaf) (fun v hp' => v = .bool true ∧ hp'.get 0 = some (.out ob aS xs)) := by
  refine ocall mix gg3 (fn := Try.f7) (by kernel_rfl) (by kernel_rfl) (by kernel_rfl) [.out ob aS xs] _ rfl rfl (fun hr ho => ?_)
  simp only [rgs, rg, Bool.and_eq_true, Nat.ble_eq] at hr
  obtain ⟨_, ⟨hlc, hc⟩, _⟩ := hr
  refine (t_sides I (fun v lh _ => v = .bool true ∧ lh.get 0 = some (.out ob aS xs)) s p w r l c ob xs).mpr ⟨fun hn => ⟨fun _ => ?_, fun h => (h hn).elim⟩, fun hn => ⟨fun h => (hn h).elim, fun _ => ⟨rfl, rfl⟩⟩⟩
  refine ALoop.invg (ps := [(2, 2), (3, 3)]) (ts := [1, 5, 7, 9]) (nx := 4) (fun x : (Int × Int × Int × Int) × Int × Int => j_sides s p 0 r l c ob xs x.1.1 x.1.2.1 x.1.2.2.1 x.1.2.2.2 x.1.1 x.2.1 x.1.2.2.1 x.1.2.2.2 x.2.2)
    (fun x => 0 ≤ x.2.2 ∧ x.2.2 ≤ l ∧ dInv s p 0 r x.1.1 x.1.2.1 x.1.2.2.1 x.1.2.2.2 = true ∧ dInv s p 0 r x.1.1 x.2.1 x.1.2.2.1 x.1.2.2.2 = true) (fun x => (l - x.2.2).toNat) (fun x hG => ?_) (by kernel_rfl) ((0, 0, 0, 0), 0, 0) (by kernel_rfl) ⟨by simp, by simp, dInv_new hn, dInv_new hn⟩
  obtain ⟨⟨st, q, lt, b⟩, q2, i⟩ := x
  obtain ⟨hi0, hil, hi, hi2⟩ := hG
  simp only at hi0 hil hi hi2
  refine (t_sidesR I _ _ s p 0 r l c ob xs st q lt b st q2 lt b i).mpr ?_
  refine bsplit_both (fun h1 => bsplit_both (fun h2 => ?_) (fun _ => ⟨rfl, rfl⟩)) (fun _ => ⟨rfl, rfl⟩)
  have h1 : i < l := by simpa using h1
  refine must_mk (by simp; omega) ?_
  have hx : xs[i.toNat]? = some (xs[i.toNat]'(by omega)) := List.getElem?_eq_getElem _
  refine xget_mk hx ?_
  have hrx := act_rg (ho.1 _ (List.mem_of_getElem? hx))
  generalize xs[i.toNat]'(by omega) = x at *
  rw [s_i64 (n := i + 1) (by omega)]
  refine bsplit_both (fun _ => ⟨rfl, rfl⟩) (fun hm => ?_)
  have hm : x.i (0 + 1) ≠ -9223372036854775808 := by simpa using hm
  rw [s_i64 (n := 0 - x.i (0 + 1)) (by omega), Int.zero_sub]
  refine must_mk hi ?_
  intro k y v e st' q' lt' b' m
  have m := take_flat hi m
  have hi' := take_inv hi m
  refine must_mk hi2 ?_
  intro k2 y2 v2 e2 st2 q2' lt2 b2 m2
  have m2 := take_flat hi2 m2
  have hi2' := take_inv hi2 m2
  obtain ⟨rfl, rfl, rfl, rfl, rfl, rfl, hy⟩ := take_side m m2
  refine must_mk hi' ?_
  intro n4 e4 m4
  refine must_mk hi2' ?_
  intro n5 e5 m5
  obtain ⟨rfl, rfl⟩ := bound_det m4 m5
  rw [s_i64 (n := 0 - y2) (by omega), Int.zero_sub]
  refine bsF (by simp) (bsF (by simp) (bsF (by simp) (bsF (by simp) (bsF (by simp) (bsF (by simp) ⟨((st2, q', lt2, b2), q2', i + 1), ⟨by simp only; omega, by simp only; omega, hi', hi2'⟩, by simp only; omega, by kernel_rfl⟩)))))
theorem l_sides0 (s p w r : Int) (hp : Tr (AO O)) : ACall I P 7 [.agg [.int .i64 s, .int .i64 p, .int .i64 w, .int .i64 r], .nils] hp (fun v hp' => v = .bool true ∧ hp' = hp) := by
  refine pcall mix gg3 (fn := Try.f7) (by kernel_rfl) (by kernel_rfl) (by kernel_rfl) rfl rfl (fun hr => ?_) hp
  refine (t_sides0 I Tru s p w r).mpr ⟨fun hn => ⟨fun _ => ?_, fun h => (h hn).elim⟩, fun hn => ⟨fun h => (hn h).elim, fun _ => tru rfl⟩⟩
  refine ALoop.start [(1, 1), (2, 2)] [1, 5, 7, 9] 3 (j_sides0 s p 0 r) (by kernel_rfl) (by kernel_rfl) ?_
  refine ALoop.stepg [(1, 1), (2, 2)] [1, 5, 7, 9] 3 ?_
  exact (t_sides0R I _ _ s p 0 r).mpr (tru rfl)
theorem tm_bd (a : Int) (m : Int) (hm : 0 < m) : -m < a.tmod m ∧ a.tmod m < m := by
  have h := Int.natAbs_tmod a m
  have h2 : (a.tmod m).natAbs < m.natAbs := by rw [h]; exact Nat.mod_lt _ (by omega)
  omega
theorem bound_now {r l b n e : Int} (h : BoundR r 1 l b l n e) : n = b ∧ e = 0 := by
  unfold BoundR gro at h; rw [Int.sub_self, Int.zero_mul] at h; omega
theorem l_grows (s p w r o1 o2 b1 b2 s1 s2 s3 : Int) (hp : Tr (AO O)) : ACall I P 4 [.agg [.int .i64 s, .int .i64 p, .int .i64 w, .int .i64 r], .agg [.int .i64 o1, .int .i64 o2], .agg [.int .u32 b1, .int .u32 b2], .agg [.int .u32 s1, .int .u32 s2, .int .u32 s3]] hp (fun v hp' => v = .bool true ∧ hp' = hp) := by
  refine pcall mix gg3 (fn := Try.f4) (by kernel_rfl) (by kernel_rfl) (by kernel_rfl) rfl rfl (fun hr => ?_) hp
  simp only [rgs, rg, Bool.and_eq_true] at hr
  obtain ⟨_, _, ⟨hb1, hb2, _⟩, ⟨hs1, hs2, hs3, _⟩, _⟩ := hr
  have hb1 := r_u32 hb1; have hb2 := r_u32 hb2; have hs1 := r_u32 hs1; have hs2 := r_u32 hs2; have hs3 := r_u32 hs3
  have t1 := tm_bd o1 1125899906842624 (by decide)
  have t2 := tm_bd o2 1125899906842624 (by decide)
  refine (t_grows I Tru s p w r o1 o2 b1 b2 s1 s2 s3).mpr ⟨fun hn => ?_, fun _ => tru rfl⟩
  have hi := dInv_new hn
  refine ALoop.start [(1, 1), (2, 2), (3, 3), (4, 4)] [5, 6, 7, 9, 11, 45] 5 (j_grows s p w r o1 o2 b1 b2 s1 s2 s3 0 0 0 0 0 0) (by kernel_rfl) (by kernel_rfl) ?_
  refine ALoop.stepg [(1, 1), (2, 2), (3, 3), (4, 4)] [5, 6, 7, 9, 11, 45] 5 ?_
  refine (t_growsA I _ _ s p w r o1 o2 b1 b2 s1 s2 s3 0 0 0 0 0).mpr (must_mk hi ?_)
  intro k y v e st q lt b m
  rw [s_i64 (n := b1) (by omega), s_i64 (n := s1) (by omega), s_i64 (n := s1 + 1) (by omega), Int.zero_add, s_i64 (n := s1 + 1) (by omega)] at m
  have m := take_flat hi m
  have hi1 := take_inv hi m
  obtain ⟨rfl, rfl, rfl, rfl, rfl, rfl, rfl, rfl⟩ := take_det (k := 2) (y := o1.tmod 1125899906842624) (v := 0) (e := 0) (st' := 1) (q' := 0) (l' := s1 + 1) (b' := b1) (.inr ⟨rfl, .inl rfl, by omega, by omega, by omega, .inr ⟨by omega, rfl, rfl, rfl, .inl ⟨.inl rfl, rfl, rfl, rfl, by unfold BndQ; omega⟩⟩⟩) m (by unfold mayN at hn; omega)
  refine bsF rfl (bsF rfl (must_mk hi1 ?_))
  intro n e m
  rw [s_i64 (n := b) (by omega), s_i64 (n := s1) (by omega), s_i64 (n := s1 + 1) (by omega), Int.zero_add, s_i64 (n := s1 + 1) (by omega)] at *
  obtain ⟨rfl, rfl⟩ := bound_now m
  refine bsF rfl (bsF (by simp) (bsF rfl ?_))
  refine ALoop.stepg (s := j_grows s p w r o1 o2 n b2 s1 s2 s3 1 0 (s1 + 1) n (s1 + 1) 1) [(1, 1), (2, 2), (3, 3), (4, 4)] [5, 6, 7, 9, 11, 45] 5 ?_
  refine (t_growsB I _ _ s p w r o1 o2 n b2 s1 s2 s3 1 0 (s1 + 1) n (s1 + 1)).mpr (must_mk hi1 ?_)
  rw [s_i64 (n := b2) (by omega), s_i64 (n := s2) (by omega), s_i64 (n := s2 + 1) (by omega), s_i64 (n := s1 + 1 + (s2 + 1)) (by omega)]
  intro k y v e st q lt b m
  have m := take_flat hi1 m
  have hi2 := take_inv hi1 m
  have he : e = 0 := by
    rcases m with ⟨m, _⟩ | m
    · exact (ref_no m (.inr rfl) (by omega) (by omega) (by omega)).elim
    · exact m.1
  subst he
  refine bsF rfl ?_
  obtain ⟨_, _, hk⟩ := take_ok hi1 m
  rcases hk with ⟨rfl, rfl, rfl, rfl, hst, hp⟩ | ⟨rfl, rfl, rfl, hnp, hk⟩
  · refine bsT rfl (must_mk hi2 (fun n e m => ?_))
    obtain rfl : e = 17 := by unfold BoundR at m; omega
    exact tru rfl
  have hk3 : k ≠ 3 := by omega
  refine bsF (by simpa using hk3) (must_mk hi2 (fun n4 e4 m4 => ?_))
  obtain ⟨rfl, rfl⟩ := bound_now m4
  have last : ALoop I 0 (cd Try.f4 [true, true, true, true, true, false, true, false, false]) (acode I P (Gm G3) (adraw P (Gm G3)) 0 (cd Try.f4 [true, true, true, true, true, false, true, false, false])) (ablock 0 (athen (cd Try.f4 [true, true, true, true, true, true]) (fun s => acode I P (Gm G3) (adraw P (Gm G3)) 0 (cd Try.f4 [true, true, true, true, true, true]) s (kret P Try.f4 (fun v x x_1 => Tru v))) (kret P Try.f4 (fun v x x_1 => Tru v)))) (j_grows s p w r o1 o2 n b2 s1 s2 s3 1 q (s1 + 1 + (s2 + 1)) n4 (s1 + 1 + (s2 + 1)) 2) := by
    refine ALoop.stepg [(1, 1), (2, 2), (3, 3), (4, 4)] [5, 6, 7, 9, 11, 45] 5 ?_
    refine (t_growsC I _ _ s p w r o1 o2 n b2 s1 s2 s3 1 q (s1 + 1 + (s2 + 1)) n4 (s1 + 1 + (s2 + 1))).mpr (must_mk hi2 ?_)
    have hlt : 2 ≤ s1 + 1 + (s2 + 1) ∧ s1 + 1 + (s2 + 1) ≤ 8589934594 := by omega
    generalize s1 + 1 + (s2 + 1) = lt at *
    rw [s_i64 (n := s3) (by omega), s_i64 (n := lt + s3) (by omega), s_i64 (n := lt + s3 + 1) (by omega), s_i64 (n := lt - 1) (by omega)]
    intro n1 e1 m1
    obtain ⟨rfl, rfl⟩ := bound_now m1
    refine must_mk hi2 (fun n2 e2 m2 => must_mk hi2 (fun n3 e3 m3 => must_mk hi2 (fun n4 e4 m4 => ?_)))
    obtain rfl : e4 = 14 := by unfold BoundR at m4; omega
    have hr0 : 0 ≤ r := by unfold mayN at hn; omega
    have a1 : lt + s3 - lt = s3 := by omega
    have a2 : lt + s3 + 1 - lt = s3 + 1 := by omega
    unfold BoundR gro at m2 m3
    rw [a1] at m2; rw [a2, Int.add_mul, Int.one_mul] at m3
    have hz := Int.mul_nonneg hs3.1 hr0
    generalize s3 * r = z at *
    obtain ⟨rfl, _⟩ : e2 = 0 ∧ n1 ≤ n2 := by omega
    obtain ⟨rfl, _⟩ : e3 = 0 ∧ n2 ≤ n3 := by omega
    exact bsT rfl (bsT rfl (bsT rfl (bsT (by simp; omega) (bsT (by simp; omega) (tru rfl)))))
  refine bsF rfl (bsF ?_ (bsplit_both (fun hk2 => bsF ?_ last) (fun _ => last)))
  · rcases hk with ⟨_, _, _, hb⟩ | ⟨_, _, _, _, hb⟩ | ⟨_, _, _, _, _, _, _, _, _, hb⟩ <;> unfold BndQ at hb <;> simp <;> omega
  · have hk2 : k ≠ 2 := by simpa using hk2
    have hb : n4 = b2 + ((o2.tmod 1125899906842624).natAbs : Int) - (y.natAbs : Int) ∧ (y.natAbs : Int) ≤ ((o2.tmod 1125899906842624).natAbs : Int) ∧ (0 < y → 0 < o2.tmod 1125899906842624) ∧ (y < 0 → o2.tmod 1125899906842624 < 0) := by
      rcases hk with ⟨_, _, _, hb⟩ | ⟨_, _, _, _, hb⟩ | ⟨_, _, _, _, _, _, _, _, _, hb⟩ <;> unfold BndQ at hb <;> omega
    generalize o2.tmod 1125899906842624 = o at *
    rw [s_i64 (n := y - o) (by omega), s_i64 (n := o - y) (by omega)]
    have : (if y - o > o - y then y - o else o - y) = ((o.natAbs : Int) - (y.natAbs : Int)) := by split <;> omega
    rw [this, s_i64 (n := b2 + ((o.natAbs : Int) - (y.natAbs : Int))) (by omega)]
    simp; omega
end Go.Tb.W
