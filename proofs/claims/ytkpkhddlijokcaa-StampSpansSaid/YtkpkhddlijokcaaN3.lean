/- Bits: what they are worth; the functions on bits do what their contracts say. -/
import Derived.Test.YtkpkhddlijokcaaU2
import Derived.Test.YtkpkhddlijokcaaM19
import Derived.Test.YtkpkhddlijokcaaN2
set_option linter.all false
set_option maxRecDepth 100000
namespace Go.Tb.W
open Go Go.Proofs
variable {I : Interp O}
def nb (b : Bool) : Nat := match b with | true => 1 | false => 0
theorem bv_cons (x : Rw) (r : List Rw) : bv (x :: r) = nb (x.b 0) + 2 * bv r := by cases h : x.b 0 <;> simp [bv, h, nb]
theorem bv_app (a b : List Rw) : bv (a ++ b) = bv a + 2 ^ a.length * bv b := by
  induction a with
  | nil => simp [bv]
  | cons x a ih =>
    rw [List.cons_append, bv_cons, ih, bv_cons, List.length_cons, Nat.pow_succ, Nat.mul_add, ← Nat.mul_assoc, Nat.mul_comm 2 (2 ^ a.length)]; omega
theorem bv_lt (xs : List Rw) : bv xs < 2 ^ xs.length := by
  induction xs with
  | nil => simp [bv]
  | cons x a ih => rw [bv_cons, List.length_cons, Nat.pow_succ]; have : nb (x.b 0) ≤ 1 := by cases x.b 0 <;> simp [nb]
                   omega
theorem bit_some {xs : List Rw} {i : Nat} {x : Rw} (h : xs[i]? = some x) : bit xs i = x.b 0 := by unfold bit; rw [h]
theorem bit_none {xs : List Rw} {i : Nat} (h : xs.length ≤ i) : bit xs i = false := by unfold bit; rw [List.getElem?_eq_none h]
theorem bv_succ (xs : List Rw) (i : Nat) : bv (xs.take (i + 1)) = bv (xs.take i) + 2 ^ i * nb (bit xs i) := by
  by_cases h : i < xs.length
  · have hx : xs[i]? = some xs[i] := List.getElem?_eq_getElem h
    rw [List.take_add_one, bv_app, hx, bit_some hx, List.length_take, Nat.min_eq_left (by omega)]
    congr 2
  · rw [bit_none (by omega), List.take_of_length_le (by omega), List.take_of_length_le (by omega)]; simp [nb]
theorem bv_take_lt (xs : List Rw) (i : Nat) : bv (xs.take i) < 2 ^ i := by
  have h := bv_lt (xs.take i)
  have : 2 ^ (xs.take i).length ≤ 2 ^ i := Nat.pow_le_pow_right (by omega) (by rw [List.length_take]; omega)
  omega
theorem bv_take_le (xs : List Rw) (i : Nat) : bv (xs.take i) ≤ bv xs := by
  have := bv_app (xs.take i) (xs.drop i)
  rw [List.take_append_drop] at this; omega
theorem bit_take {xs : List Rw} {l i : Nat} (h : i < l) : bit (xs.take l) i = bit xs i := by unfold bit; rw [List.getElem?_take_of_lt h]
theorem nb_rwA (b : Bool) : bit [rwA [.bool b]] 0 = b := rfl
theorem bv_one (b : Bool) : bv [rwA [.bool b]] = nb b := by rw [bv_cons]; simp [bv, rwA]
theorem k_at : ∀ (args : List AV) (hp : Tr (AO O)) (nx : Nat) (K : AV → Tr (AO O) → Nat → Prop), c_at args hp nx K → ACall I P 42 args hp (fun v hp' => ∃ nx', K v hp' nx') := by
  intro args hp nx K h
  unfold c_at at h; split at h
  · rename_i n l c i
    split at h
    · rename_i xs room hb hg
      obtain ⟨⟨hi, hl⟩, h⟩ := h
      refine hrows mix Gm.nil (fn := Try.f42) (by kernel_rfl) (by kernel_rfl) (by kernel_rfl) [n] [bo xs room] [.sl 0 0 l c, .int .i64 i] (nx := nx) rfl (uniq1 hb) rfl ⟨hg, trivial⟩ rfl rfl (fun hr ho => ?_)
      refine (t_at I _ l c room i xs).mpr ?_
      refine bsplit_both (fun hx => ?_) (fun hx => ⟨⟨rfl, trivial⟩, .inl ⟨rfl, ?_⟩⟩)
      · have hx : i < l := by simpa using hx
        refine must_mk (by simp; omega) ?_
        have hx' : xs[i.toNat]? = some (xs[i.toNat]'(by omega)) := List.getElem?_eq_getElem _
        refine xget_mk hx' ⟨⟨rfl, trivial⟩, .inl ⟨rfl, ?_⟩⟩
        rw [bit_take (by omega), bit_some hx'] at h
        exact h
      · have hx : ¬ i < l := by simpa using hx
        rw [bit_none (by rw [List.length_take]; omega)] at h
        exact h
    · exact h.elim
  · exact h.elim
theorem k_bare : ∀ (args : List AV) (hp : Tr (AO O)) (nx : Nat) (K : AV → Tr (AO O) → Nat → Prop), c_bare args hp nx K → ACall I P 41 args hp (fun v hp' => ∃ nx', K v hp' nx') := by
  intro args hp nx K h
  unfold c_bare at h; split at h
  · rename_i s n l c
    split at h
    · rename_i xs room hb hg
      obtain ⟨⟨hl, hl2⟩, h⟩ := h
      refine hrows mix Gm.nil (fn := Try.f41) (by kernel_rfl) (by kernel_rfl) (by kernel_rfl) [n] [bo xs room] [.agg [.bool s, .sl 0 0 l c]] (nx := nx) rfl (uniq1 hb) rfl ⟨hg, trivial⟩ rfl rfl (fun hr ho => ?_)
      simp only [rgs, rg, Bool.and_eq_true, Nat.ble_eq] at hr
      have hlc : l ≤ c := hr.1.2.1.1
      refine (t_bare I _ s l c room xs).mpr ?_
      refine ALoop.invg (ps := [(1, 1), (2, 2)]) (ts := [1, 2, 3]) (nx := 3) (fun k : Nat => j_bare s l c room xs k) (fun k => k ≤ l ∧ bv (xs.take k) = bv (xs.take l)) (fun k => k) (fun k hG => ?_) (by kernel_rfl) l (by kernel_rfl) ⟨Nat.le_refl _, rfl⟩
      obtain ⟨hk, hv⟩ := hG
      refine (t_bareR I _ _ s l c room xs k).mpr ?_
      have fin : (k = 0 ∨ bit xs (k - 1) = true) → K (.agg [.bool (s && decide (0 < k)), .sl n 0 k c]) hp nx := fun h0 => h k ⟨hk, hv, h0⟩
      have dk : decide ((k : Int) > 0) = decide (0 < k) := by simp
      refine bsplit_both (fun hx => ?_) (fun hx => ?_)
      · have hx : 0 < k := by simpa using hx
        rw [s_i64 (n := (k : Int) - 1) (by omega)]
        refine must_mk (by simp; omega) ?_
        have hki : ((k : Int) - 1).toNat = k - 1 := by omega
        rw [hki]
        have hx' : xs[k - 1]? = some (xs[k - 1]'(by omega)) := List.getElem?_eq_getElem _
        refine xget_mk hx' ?_
        have hb' := bit_some hx'
        generalize xs[k - 1]'(by omega) = x at *
        refine bsplit_both (fun hy => ?_) (fun hy => ?_)
        · have hy : x.b 0 = false := by simpa using hy
          refine ⟨k - 1, ⟨by omega, ?_⟩, by omega, ?_⟩
          · rw [← hv]
            have := bv_succ xs (k - 1)
            rw [hb', hy, show k - 1 + 1 = k by omega] at this
            simpa [nb] using this.symm
          · have : ((k - 1 : Nat) : Int) = (k : Int) - 1 := by omega
            exact Eq.trans (b := j_bare s l c room xs ((k : Int) - 1)) (by kernel_rfl) (by rw [this])
        · have hy : x.b 0 = true := by simpa using hy
          have f := fin (.inr (by rw [hb', hy]))
          refine bsplit_both (fun hs => must_mk (by simp; omega) ⟨⟨rfl, trivial⟩, .inl ⟨rfl, ?_⟩⟩) (fun hs => must_mk (by simp; omega) ⟨⟨rfl, trivial⟩, .inl ⟨rfl, ?_⟩⟩)
          · subst hs; rw [dk]; exact f
          · subst hs; exact f
      · have hx : k = 0 := by have : ¬ 0 < k := by simpa using hx
                              omega
        have f := fin (.inl hx)
        refine bsplit_both (fun hs => must_mk (by simp; omega) ⟨⟨rfl, trivial⟩, .inl ⟨rfl, ?_⟩⟩) (fun hs => must_mk (by simp; omega) ⟨⟨rfl, trivial⟩, .inl ⟨rfl, ?_⟩⟩)
        · subst hs; rw [dk]; exact f
        · subst hs; exact f
    · exact h.elim
  · exact h.elim
theorem gq0 : GOk I P (Gm Q0) := Gm.consH (Gm.consH Gm.nil k_bare) k_at
theorem uniq2 {n m : Nat} (hn : Nat.blt n 16777215 = true) (hm : Nat.blt m 16777215 = true) (h : (!Nat.beq n m) = true) : uniq (pairs 0 [n, m]) = true := by
  have h' : Nat.beq m n = false := by
    have : n ≠ m := fun e => by subst e; rw [Nat.beq_refl] at h; cases h
    exact beq_no (Ne.symm this)
  simp only [pairs, uniq, lk, lkr, hn, hm, h']; rfl
theorem sum_step {zs A B : List Rw} {n : Nat} {cy cc : Int} {b : Bool} (hn : zs.length = n) (inv : (bv zs : Int) + cy * 2 ^ n = bv (A.take n) + bv (B.take n)) (h : c1 b + 2 * cc = cy + c1 (bit A n) + c1 (bit B n)) :
    (bv (zs ++ [rwA [.bool b]]) : Int) + cc * 2 ^ (n + 1) = bv (A.take (n + 1)) + bv (B.take (n + 1)) := by
  rw [bv_app, bv_one, hn, bv_succ, bv_succ]
  have e : ∀ b, (nb b : Int) = c1 b := fun b => by cases b <;> rfl
  simp only [Int.natCast_add, Int.natCast_mul, e, Int.natCast_pow]
  rw [Int.pow_succ]
  have : c1 b = cy + c1 (bit A n) + c1 (bit B n) - 2 * cc := by omega
  rw [this]
  have hp : ((2 : Nat) : Int) ^ n = (2 : Int) ^ n := rfl
  rw [hp]
  generalize (2 : Int) ^ n = p at *
  have e1 : p * (cy + c1 (bit A n) + c1 (bit B n) - 2 * cc) = p * cy + p * c1 (bit A n) + p * c1 (bit B n) - 2 * (p * cc) := by
    rw [Int.mul_sub, Int.mul_add, Int.mul_add, Int.mul_left_comm p 2 cc]
  have e2 : cc * (p * 2) = 2 * (p * cc) := by rw [← Int.mul_assoc, Int.mul_comm cc p, Int.mul_comm]
  have e3 : cy * p = p * cy := Int.mul_comm _ _
  rw [e1, e2]
  omega
theorem k_rsum : ∀ (args : List AV) (hp : Tr (AO O)) (nx : Nat) (K : AV → Tr (AO O) → Nat → Prop), c_rsum args hp nx K → ACall I P 55 args hp (fun v hp' => ∃ nx', K v hp' nx') := by
  intro args hp nx K h
  unfold c_rsum at h; split at h
  · rename_i n l c m k d
    split at h
    · rename_i xs r1 ys r2 hb hg1 hg2 hgx
      simp only [Bool.and_eq_true] at hb
      obtain ⟨⟨⟨hb1, hb2⟩, hb3⟩, hb4⟩ := hb
      obtain ⟨⟨⟨hl, hl2⟩, hk, hk2⟩, h⟩ := h
      refine hrows mix gq0 (fn := Try.f55) (by kernel_rfl) (by kernel_rfl) (by kernel_rfl) [n, m] [bo xs r1, bo ys r2] [.sl 0 0 l c, .sl 1 0 k d] (nx := nx) rfl (uniq2 hb1 hb2 hb4) rfl ⟨hg1, hg2, trivial⟩ rfl rfl (fun hr ho => ?_)
      refine (t_rsum I _ l c r1 k d r2 xs ys).mpr ?_
      have hA : (xs.take l).length = l := by rw [List.length_take]; omega
      have hB : (ys.take k).length = k := by rw [List.length_take]; omega
      refine ALoop.weak (Weak.asRows (n := 2) (l := 0) (sh := [.b]) (xs := []) rfl rfl rfl rfl) ?_
      refine ALoop.start [(2, 2)] [0, 1, 5, 6, 7] 3 (j_rsum l c r1 k d r2 xs ys [] 0 0 0 0 0) (by kernel_rfl) (by kernel_rfl) ?_
      refine ALoop.invj (ps := [(4, 2)]) (ts := [0, 1, 5, 6, 7]) (nx := 3) (fun x : List Rw × Nat × Nat × Nat × Int => j_rsum l c r1 k d r2 xs ys x.1 x.2.1 x.2.2.1 x.2.2.2.1 x.2.2.2.2 (x.2.1 : Nat))
        (fun x => x.1.length = x.2.1 ∧ x.2.2.1 ≤ x.2.2.2.1 ∧ (x.2.2.2.2 = 0 ∨ x.2.2.2.2 = 1) ∧ (x.2.1 ≤ Nat.max l k ∨ (x.2.1 = Nat.max l k + 1 ∧ x.2.2.2.2 = 0)) ∧ (bv x.1 : Int) + x.2.2.2.2 * 2 ^ x.2.1 = bv ((xs.take l).take x.2.1) + bv ((ys.take k).take x.2.1))
        (fun x => Nat.max l k + 2 - x.2.1) (fun x hG => ?_) ([], 0, 0, 0, 0) ⟨rfl, Nat.le_refl _, .inl rfl, .inl (Nat.zero_le _), by simp [bv]⟩
      obtain ⟨zs, n', e, room, cy⟩ := x
      obtain ⟨g1, g2, g3, g4, g5⟩ := hG
      simp only at g1 g2 g3 g4 g5
      refine (t_rsumR I _ _ l c r1 k d r2 xs ys zs n' e room cy n').mpr ?_
      have hmx : l ≤ Nat.max l k ∧ k ≤ Nat.max l k ∧ Nat.max l k ≤ 2000 := ⟨Nat.le_max_left _ _, Nat.le_max_right _ _, Nat.max_le.2 ⟨hl2, hk2⟩⟩
      have hin : ((n' : Int)).toNat = n' := by omega
      rw [hin, s_i64 (n := (n' : Int) + 1) (by omega)]
      have hz : zs.take n' = zs := List.take_of_length_le (by omega)
      have hms : (Nat.ble n' zs.length && Nat.ble (e * [Sh.b].length) room && Nat.blt 2 16777215) = true := by
        simp only [Bool.and_eq_true, Nat.ble_eq, List.length_cons, List.length_nil]; exact ⟨⟨by omega, by omega⟩, rfl⟩
      have fin : ∀ (bb : Bool) (cc : Int) (c' : Nat), (cc = 0 ∨ cc = 1) → c1 bb + 2 * cc = cy + c1 (bit (xs.take l) n') + c1 (bit (ys.take k) n') → (n' < l ∨ n' < k ∨ cy = 1) →
          ∃ y : List Rw × Nat × Nat × Nat × Int, (y.1.length = y.2.1 ∧ y.2.2.1 ≤ y.2.2.2.1 ∧ (y.2.2.2.2 = 0 ∨ y.2.2.2.2 = 1) ∧ (y.2.1 ≤ Nat.max l k ∨ (y.2.1 = Nat.max l k + 1 ∧ y.2.2.2.2 = 0)) ∧ (bv y.1 : Int) + y.2.2.2.2 * 2 ^ y.2.1 = bv ((xs.take l).take y.2.1) + bv ((ys.take k).take y.2.1)) ∧
            Nat.max l k + 2 - y.2.1 < Nat.max l k + 2 - n' ∧ j_rsum l c r1 k d r2 xs ys (zs.take n' ++ [rwA [.bool bb]]) (n' + 1) c' (c' * [Sh.b].length) cc ((n' : Int) + 1) = j_rsum l c r1 k d r2 xs ys y.1 y.2.1 y.2.2.1 y.2.2.2.1 y.2.2.2.2 (y.2.1 : Nat) := fun bb cc c' h1 h2 h3 => by
        refine ⟨(zs.take n' ++ [rwA [.bool bb]], n' + 1, c', c' * [Sh.b].length, cc), ⟨by simp [hz, g1], by simp, h1, ?_, ?_⟩, ?_, rfl⟩
        · simp only
          by_cases hm : n' < Nat.max l k
          · exact .inl (by omega)
          · right
            have b1 := bit_none (xs := xs.take l) (i := n') (by omega)
            have b2 := bit_none (xs := ys.take k) (i := n') (by omega)
            rw [b1, b2] at h2
            simp only [c1] at h2
            rcases g4 with g4 | g4
            · refine ⟨by omega, ?_⟩
              cases bb <;> simp only [c1] at h2 <;> omega
            · omega
        · simp only; rw [hz]; exact sum_step g1 g5 h2
        · simp only; omega
      have done : ¬ ((n' : Int) < l) → ¬ ((n' : Int) < k) → ¬ (cy > 0) → bv zs = bv (xs.take l) + bv (ys.take k) ∧ zs.length ≤ Nat.max l k + 1 := fun h1 h2 h3 => by
        have hc : cy = 0 := by omega
        subst hc
        rw [List.take_of_length_le (l := xs.take l) (by omega), List.take_of_length_le (l := ys.take k) (by omega), Int.zero_mul] at g5
        exact ⟨by omega, by omega⟩
      have mk : ∀ {b b' : Bool}, bit (xs.take l) n' = b → bit (ys.take k) n' = b' → ∀ (bb : Bool) (cc : Int), (cc = 0 ∨ cc = 1) → c1 bb + 2 * cc = cy + c1 b + c1 b' → (n' < l ∨ n' < k ∨ cy = 1) → ∀ c' : Nat, ∃ y : List Rw × Nat × Nat × Nat × Int, (y.1.length = y.2.1 ∧ y.2.2.1 ≤ y.2.2.2.1 ∧ (y.2.2.2.2 = 0 ∨ y.2.2.2.2 = 1) ∧ (y.2.1 ≤ Nat.max l k ∨ (y.2.1 = Nat.max l k + 1 ∧ y.2.2.2.2 = 0)) ∧ (bv y.1 : Int) + y.2.2.2.2 * 2 ^ y.2.1 = bv ((xs.take l).take y.2.1) + bv ((ys.take k).take y.2.1)) ∧
            Nat.max l k + 2 - y.2.1 < Nat.max l k + 2 - n' ∧ j_rsum l c r1 k d r2 xs ys (zs.take n' ++ [rwA [.bool bb]]) (n' + 1) c' (c' * [Sh.b].length) cc ((n' : Int) + 1) = j_rsum l c r1 k d r2 xs ys y.1 y.2.1 y.2.2.1 y.2.2.2.1 y.2.2.2.2 (y.2.1 : Nat) := fun h1 h2 bb cc hc h3 h4 c' => fin bb cc c' hc (by rw [h1, h2]; exact h3) h4
      refine bsplit_both (fun w1 => ?_) (fun w1 => bsplit_both (fun w2 => ?_) (fun w2 => bsplit_both (fun w3 => ?_) (fun w3 => ?_)))
      rotate_right
      · obtain ⟨d1, d2⟩ := done (by simpa using w1) (by simpa using w2) (by simpa using w3)
        refine ⟨⟨rfl, rfl, trivial⟩, .inr ⟨2, _, _, zs, room, hb3, hgx, Nat.le_refl _, rfl, rfl, ?_⟩⟩
        have := h zs e room ⟨d1, d2⟩
        rw [g1] at this
        exact this
      all_goals
        have hcond : n' < l ∨ n' < k ∨ cy = 1 := by simp at *; omega
        refine ⟨⟨by omega, by omega⟩, bsplit_both (fun ba => ?_) (fun ba => ?_)⟩
        all_goals
          refine ⟨⟨by omega, by omega⟩, bsplit_both (fun bb => ?_) (fun bb => ?_)⟩
          all_goals
            refine must_mk hms ⟨by omega, fun c' hc1 hc2 => ?_⟩
            rcases g3 with rfl | rfl
            all_goals
              first
              | (obtain ⟨y, y1, y2, y3⟩ := mk ba bb false 0 (.inl rfl) rfl hcond c'; exact ⟨y, y1, y2, y3 ▸ (by kernel_rfl)⟩)
              | (obtain ⟨y, y1, y2, y3⟩ := mk ba bb true 0 (.inl rfl) rfl hcond c'; exact ⟨y, y1, y2, y3 ▸ (by kernel_rfl)⟩)
              | (obtain ⟨y, y1, y2, y3⟩ := mk ba bb false 1 (.inr rfl) rfl hcond c'; exact ⟨y, y1, y2, y3 ▸ (by kernel_rfl)⟩)
              | (obtain ⟨y, y1, y2, y3⟩ := mk ba bb true 1 (.inr rfl) rfl hcond c'; exact ⟨y, y1, y2, y3 ▸ (by kernel_rfl)⟩)
    · exact h.elim
  · exact h.elim
end Go.Tb.W
