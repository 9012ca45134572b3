/- What an offset leads to, told flatly; and what stays true of a discipline. -/
import Derived.Test.YtfdociljddgnhaaT3
set_option linter.all false
set_option maxRecDepth 100000
namespace Go.Tb.W
open Go Go.Proofs
def BndQ (bd left b' : Int) : Prop := (bd ≤ 4611686018427387904 ∧ bd + left ≤ 4611686018427387904 ∧ b' = bd + left) ∨ (bd ≤ 4611686018427387904 ∧ 4611686018427387904 < bd + left ∧ b' = 4611686018427387904) ∨ (4611686018427387904 < bd ∧ 0 < left ∧ b' = 4611686018427387904) ∨ (4611686018427387904 < bd ∧ left ≤ 0 ∧ b' = 4611686018427387904 + left)
/-- What is refused, and why. -/
def RefQ (st l off bd now e : Int) : Prop := (st = 2 ∧ e = 17) ∨ (st ≠ 2 ∧ bd < 0 ∧ e = 1) ∨ (st = 1 ∧ 0 ≤ bd ∧ now ≤ l ∧ e = 14) ∨
  (st ≠ 2 ∧ 0 ≤ bd ∧ (st = 1 → l < now) ∧ (off < -2305843009213693952 ∨ 2305843009213693952 < off) ∧ e = 6) ∨
  (st = 1 ∧ 0 ≤ bd ∧ (-2305843009213693952 ≤ off ∧ off ≤ 2305843009213693952) ∧ 9223372036854775807 < now - l ∧ e = 6)
def TakeQ (s p w st q l b off bd now k y v e st' q' l' b' : Int) : Prop :=
  (RefQ st l off bd now e ∧ k = 0 ∧ y = 0 ∧ v = 0 ∧ st' = st ∧ q' = q ∧ l' = l ∧ b' = b) ∨
  (e = 0 ∧ (st = 0 ∨ st = 1) ∧ 0 ≤ bd ∧ (-2305843009213693952 ≤ off ∧ off ≤ 2305843009213693952) ∧ (st = 1 → l < now ∧ now - l ≤ 9223372036854775807) ∧
    ((p < (off.natAbs : Int) ∧ st = 1 ∧ k = 3 ∧ y = 0 ∧ v = q ∧ st' = 2 ∧ q' = q ∧ l' = l ∧ b' = b) ∨
     (¬ (p < (off.natAbs : Int) ∧ st = 1) ∧ st' = 1 ∧ l' = now ∧ q' = v ∧
       (((st = 0 ∨ s < (off.natAbs : Int)) ∧ k = 2 ∧ y = off ∧ v = q ∧ BndQ bd 0 b') ∨
        (st = 1 ∧ (off.natAbs : Int) ≤ s ∧ (off.natAbs : Int) ≤ bd ∧ k = 0 ∧ y = 0 ∧ v = q ∧ BndQ bd (off.natAbs : Int) b') ∨
        (st = 1 ∧ (off.natAbs : Int) ≤ s ∧ bd < (off.natAbs : Int) ∧ k = 1 ∧ SlewR off (now - l) w y ∧ FastR off (now - l) q v ∧ BndQ bd ((off.natAbs : Int) - (y.natAbs : Int)) b')))))
theorem bndQ_of {bd left b' : Int} (h : BndR bd left b') : BndQ bd left b' := by
  obtain ⟨c, h⟩ := h
  unfold BndQ; omega
theorem dInv_iff {s p w r st q l b : Int} : dInv s p w r st q l b = true ↔ 1 ≤ s ∧ s ≤ p ∧ p ≤ 1152921504606846976 ∧ 0 ≤ w ∧ w ≤ 100000000 ∧ 0 ≤ r ∧ r ≤ 100000000 ∧ 0 ≤ st ∧ st ≤ 2 ∧ -100000000 ≤ q ∧ q ≤ 100000000 ∧ 0 ≤ b ∧ b ≤ 4611686018427387904 := by
  simp only [dInv, Bool.and_eq_true, decide_eq_true_eq]
theorem dInv_new {s p w r : Int} (h : mayN s p w r) : dInv s p w r 0 0 0 0 = true := by
  unfold mayN at h; rw [dInv_iff]; omega
theorem may_ref {st l off bd now n d : Int} (h0 : 0 ≤ st ∧ st ≤ 2) (hd : d ≠ 0) (m : MayR st l off bd now n d) : RefQ st l off bd now d := by
  unfold MayR at m
  rcases m with m | m | m | m | m | m
  · exact .inl ⟨m.1, m.2.2⟩
  · exact .inr (.inl ⟨m.1, m.2.1, m.2.2.2⟩)
  · exact .inr (.inr (.inl ⟨m.2.2.1, m.2.1, m.2.2.2.1, m.2.2.2.2.2⟩))
  · exact .inr (.inr (.inr (.inl ⟨m.1, m.2.1, m.2.2.1, m.2.2.2.1, m.2.2.2.2.2⟩)))
  · omega
  · obtain ⟨a, b, c, d, e, f⟩ := m
    unfold I64R at f
    exact .inr (.inr (.inr (.inr ⟨by omega, c, e, by have := d (by omega); omega, by omega⟩)))
theorem may_ok {st l off bd now n : Int} (h0 : 0 ≤ st ∧ st ≤ 2) (m : MayR st l off bd now n 0) : (st = 0 ∨ st = 1) ∧ 0 ≤ bd ∧ (-2305843009213693952 ≤ off ∧ off ≤ 2305843009213693952) ∧ (st = 1 → l < now ∧ now - l ≤ 9223372036854775807) ∧ (st = 1 → n = now - l) := by
  unfold MayR at m
  rcases m with m | m | m | m | m | m
  · omega
  · omega
  · omega
  · omega
  · omega
  · obtain ⟨a, b, c, d, e, f⟩ := m
    unfold I64R at f
    have hst : st = 1 := by omega
    have := d hst
    exact ⟨.inr hst, c, e, fun _ => by omega, fun _ => by omega⟩
theorem take_flat {s p w r st q l b off bd now k y v e st' q' l' b' : Int} (hi : dInv s p w r st q l b = true) (h : TakeR s p w st q l b off bd now k y v e st' q' l' b') : TakeQ s p w st q l b off bd now k y v e st' q' l' b' := by
  rw [dInv_iff] at hi
  obtain ⟨n, d, m, h⟩ := h
  rcases h with ⟨hd, rfl, h⟩ | ⟨rfl, rfl, far, hf, h⟩
  · exact .inl ⟨may_ref ⟨by omega, by omega⟩ hd m, h⟩
  · have hA : far = (off.natAbs : Int) := by omega
    subst hA
    obtain ⟨h1, h2, h3, h4, h5⟩ := may_ok ⟨by omega, by omega⟩ m
    refine .inr ⟨rfl, h1, h2, h3, h4, ?_⟩
    rcases h with h | ⟨g1, g2, g3, g4, h⟩
    · exact .inl h
    refine .inr ⟨g1, g2, g3, g4, ?_⟩
    rcases h with ⟨a, b, c, d, e⟩ | ⟨a0, a, a2, b, c, d, e⟩ | ⟨a0, a, a2, b, c, d, e⟩
    · exact .inl ⟨a, b, c, d, bndQ_of e⟩
    · exact .inr (.inl ⟨by omega, a, a2, b, c, d, bndQ_of e⟩)
    · have hst : st = 1 := by omega
      rw [h5 hst] at c d
      refine .inr (.inr ⟨hst, a, a2, b, c, d, ?_⟩)
      rcases e with ⟨e0, e⟩ | ⟨e0, e⟩
      · have : (off.natAbs : Int) - y = (off.natAbs : Int) - (y.natAbs : Int) := by omega
        rw [this] at e; exact bndQ_of e
      · have : (off.natAbs : Int) + y = (off.natAbs : Int) - (y.natAbs : Int) := by omega
        rw [this] at e; exact bndQ_of e
/-- What is slewed is no more than the offset, to its side. -/
theorem slew_le {off span w y : Int} (hs : 0 ≤ span) (hw : 0 ≤ w) (h : SlewR off span w y) : (y.natAbs : Int) ≤ (off.natAbs : Int) ∧ (0 < y → 0 < off) ∧ (y < 0 → off < 0) ∧ (y.natAbs : Int) ≤ span * w / 1000000000 ∧ 0 ≤ span * w / 1000000000 := by
  have h1 : 0 ≤ span * w := Int.mul_nonneg hs hw
  unfold SlewR at h
  generalize span * w = x at *
  omega
theorem take_inv {s p w r st q l b off bd now k y v e st' q' l' b' : Int} (hi : dInv s p w r st q l b = true) (h : TakeQ s p w st q l b off bd now k y v e st' q' l' b') : dInv s p w r st' q' l' b' = true := by
  rw [dInv_iff] at hi ⊢
  rcases h with ⟨_, h⟩ | ⟨_, h1, h2, h3, h4, h⟩
  · omega
  rcases h with h | ⟨g1, g2, g3, g4, h⟩
  · omega
  rcases h with ⟨_, _, _, h, hb⟩ | ⟨_, _, _, _, _, h, hb⟩ | ⟨hst, a1, a2, a3, a4, h, hb⟩
  · unfold BndQ at hb; omega
  · unfold BndQ at hb; omega
  · have h4 := h4 hst
    have := slew_le (by omega) hi.2.2.2.1 a4
    generalize (now - l) * w / 1000000000 = z at *
    unfold BndQ at hb; unfold FastR at h
    generalize off * 1000000000 / (now - l) / 16 = u at *
    omega
theorem slew_det {off n w y y2 : Int} (h0 : 0 ≤ n) (hw : 0 ≤ w) (h : SlewR off n w y) (g : SlewR off n w y2) : y2 = y := by
  have h1 : 0 ≤ n * w := Int.mul_nonneg h0 hw
  unfold SlewR at h g
  generalize n * w = x at *
  omega
theorem fast_det {off n q v v2 : Int} (h : FastR off n q v) (g : FastR off n q v2) : v2 = v := by
  unfold FastR at h g
  generalize off * 1000000000 / n / 16 = x at *
  omega
theorem bnd_det {bd left b b2 : Int} (h : BndQ bd left b) (g : BndQ bd left b2) : b2 = b := by unfold BndQ at h g; omega
theorem ref_det {st l off bd now e e2 : Int} (h : RefQ st l off bd now e) (g : RefQ st l off bd now e2) : e2 = e := by
  unfold RefQ at h g
  rcases h with h | h | h | h | h <;> omega
theorem ref_no {st l off bd now e : Int} (h : RefQ st l off bd now e) (h1 : st = 0 ∨ st = 1) (h2 : 0 ≤ bd) (h3 : -2305843009213693952 ≤ off ∧ off ≤ 2305843009213693952) (h4 : st = 1 → l < now ∧ now - l ≤ 9223372036854775807) : False := by
  unfold RefQ at h
  rcases h with h | h | h | h | h <;> omega
theorem ref_ne {st l off bd now e : Int} (h : RefQ st l off bd now e) : e ≠ 0 := by unfold RefQ at h; omega
/-- The same offset leads to the same. -/
theorem take_det {s p w st q l b off bd now k y v e st' q' l' b' k2 y2 v2 e2 st2 q2 l2 b2 : Int} (h : TakeQ s p w st q l b off bd now k y v e st' q' l' b') (g : TakeQ s p w st q l b off bd now k2 y2 v2 e2 st2 q2 l2 b2) (hw : 0 ≤ w) :
    k2 = k ∧ y2 = y ∧ v2 = v ∧ e2 = e ∧ st2 = st' ∧ q2 = q' ∧ l2 = l' ∧ b2 = b' := by
  rcases h with ⟨hr, h⟩ | ⟨h0, h1, h2, h3, h4, h⟩ <;> rcases g with ⟨gr, g⟩ | ⟨g0, g1, g2, g3, g4, g⟩
  · have := ref_det hr gr; omega
  · exact (ref_no hr g1 g2 g3 g4).elim
  · exact (ref_no gr h1 h2 h3 h4).elim
  · generalize hA : (off.natAbs : Int) = A at *
    rcases h with h | ⟨a1, a2, a3, a4, h⟩ <;> rcases g with g | ⟨c1, c2, c3, c4, g⟩
    · omega
    · omega
    · omega
    · rcases h with ⟨x1, x2, x3, x4, hb⟩ | ⟨x1, x2, x3, x4, x5, x6, hb⟩ | ⟨x1, x2, x3, x4, x5, x6, hb⟩ <;> rcases g with ⟨z1, z2, z3, z4, gb⟩ | ⟨z1, z2, z3, z4, z5, z6, gb⟩ | ⟨z1, z2, z3, z4, z5, z6, gb⟩
      · have := bnd_det hb gb; omega
      · omega
      · omega
      · omega
      · have := bnd_det hb gb; omega
      · omega
      · omega
      · omega
      · have hy := slew_det (by omega) hw x5 z5
        have hv := fast_det x6 z6
        subst hy; subst hv
        have := bnd_det hb gb; omega
theorem bound_det {r st l b now n e n2 e2 : Int} (h : BoundR r st l b now n e) (g : BoundR r st l b now n2 e2) : n2 = n ∧ e2 = e := by
  unfold BoundR at h g
  generalize gro (now - l) r = x at *
  omega
end Go.Tb.W
