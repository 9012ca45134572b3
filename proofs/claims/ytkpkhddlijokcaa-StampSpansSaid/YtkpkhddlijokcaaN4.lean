/- The document's numbers: which bits are worth more; what is left of them. -/
import Derived.Test.YtkpkhddlijokcaaN3
set_option linter.all false
set_option maxRecDepth 100000
namespace Go.Tb.W
open Go Go.Proofs
variable {I : Interp O}
theorem bv_take_take (xs : List Rw) (l i : Nat) (h : i ≤ l) : bv ((xs.take l).take i) = bv (xs.take i) := by rw [List.take_take, Nat.min_eq_left h]
/-- The highest bits that aren't alike tell which is more. -/
theorem great_step {A B : List Rw} {i : Nat} (inv : bv A + bv (B.take (i + 1)) = bv B + bv (A.take (i + 1))) : (bit A i = true → bit B i = false → bv B < bv A) ∧ (bit A i = false → bit B i = true → bv A < bv B) ∧ (bit A i = bit B i → bv A + bv (B.take i) = bv B + bv (A.take i)) := by
  rw [bv_succ, bv_succ] at inv
  have h1 := bv_take_lt A i
  have h2 := bv_take_lt B i
  generalize 2 ^ i = p at *
  refine ⟨fun a b => ?_, fun a b => ?_, fun e => ?_⟩
  · rw [a, b] at inv; simp only [nb, Nat.mul_one, Nat.mul_zero] at inv; omega
  · rw [a, b] at inv; simp only [nb, Nat.mul_one, Nat.mul_zero] at inv; omega
  · rw [e] at inv; omega
theorem k_greater : ∀ (args : List AV) (hp : Tr (AO O)) (nx : Nat) (K : AV → Tr (AO O) → Nat → Prop), c_greater args hp nx K → ACall I P 56 args hp (fun v hp' => ∃ nx', K v hp' nx') := by
  intro args hp nx K h
  unfold c_greater at h; split at h
  · rename_i n l c m k d
    split at h
    · rename_i xs r1 ys r2 hb hg1 hg2
      simp only [Bool.and_eq_true] at hb
      obtain ⟨⟨hb1, hb2⟩, hb4⟩ := hb
      obtain ⟨⟨⟨hl, hl2⟩, hk, hk2⟩, h⟩ := h
      refine hrows mix gq0 (fn := Try.f56) (by kernel_rfl) (by kernel_rfl) (by kernel_rfl) [n, m] [bo xs r1, bo ys r2] [.sl 0 0 l c, .sl 1 0 k d] (nx := nx) rfl (uniq2 hb1 hb2 hb4) rfl ⟨hg1, hg2, trivial⟩ rfl rfl (fun hr ho => ?_)
      refine (t_greater I _ l c r1 k d r2 xs ys).mpr ?_
      have hmx : l ≤ Nat.max l k ∧ k ≤ Nat.max l k ∧ Nat.max l k ≤ 2000 := ⟨Nat.le_max_left _ _, Nat.le_max_right _ _, Nat.max_le.2 ⟨hl2, hk2⟩⟩
      have hmi : (if (k : Int) > (l : Int) then (k : Int) else (l : Int)) = (Nat.max l k : Nat) := by
        have : Nat.max l k = max l k := rfl
        rw [this]; split <;> omega
      rw [hmi, s_i64 (n := ((Nat.max l k : Nat) : Int) - 1) (by omega)]
      refine ALoop.start [] [0, 1, 5] 2 (j_greater l c r1 k d r2 xs ys ((Nat.max l k : Nat) - 1)) (by kernel_rfl) (by kernel_rfl) ?_
      refine ALoop.invj (ps := []) (ts := [0, 1, 5]) (nx := 2) (fun q : Nat => j_greater l c r1 k d r2 xs ys ((q : Int) - 1))
        (fun q => q ≤ Nat.max l k ∧ bv (xs.take l) + bv ((ys.take k).take q) = bv (ys.take k) + bv ((xs.take l).take q)) (fun q => q) (fun q hG => ?_) (Nat.max l k) ⟨Nat.le_refl _, ?_⟩
      · obtain ⟨hq, inv⟩ := hG
        refine (t_greaterR I _ _ l c r1 k d r2 xs ys ((q : Int) - 1)).mpr ?_
        refine bsplit_both (fun hx => ?_) (fun hx => ⟨⟨rfl, rfl, trivial⟩, .inl ⟨rfl, ?_⟩⟩)
        · have hx : (q : Int) - 1 ≥ 0 := by simpa using hx
          have hqi : ((q : Int) - 1).toNat = q - 1 := by omega
          have inv' : bv (xs.take l) + bv ((ys.take k).take (q - 1 + 1)) = bv (ys.take k) + bv ((xs.take l).take (q - 1 + 1)) := by rw [show q - 1 + 1 = q by omega]; exact inv
          obtain ⟨e1, e2, e3⟩ := great_step inv'
          rw [hqi]
          refine ⟨⟨by omega, hl⟩, ⟨by omega, hk⟩, bsplit_both (fun hy => ⟨⟨by omega, hl⟩, bsplit_both (fun hz => ⟨⟨rfl, rfl, trivial⟩, .inl ⟨rfl, ?_⟩⟩) (fun hz => ⟨⟨rfl, rfl, trivial⟩, .inl ⟨rfl, ?_⟩⟩)⟩) (fun hy => ?_)⟩
          · have hB : bit (ys.take k) (q - 1) = false := by rw [hz] at hy; simpa using hy
            refine h 1 (.inr (.inr ⟨?_, rfl⟩))
            have := e1 hz hB; omega
          · have hB : bit (ys.take k) (q - 1) = true := by rw [hz] at hy; simpa using hy
            refine h (-1) (.inl ⟨?_, rfl⟩)
            have := e2 hz hB; omega
          · have he : bit (xs.take l) (q - 1) = bit (ys.take k) (q - 1) := by simpa using hy
            rw [s_i64 (n := (q : Int) - 1 - 1) (by omega)]
            refine ⟨q - 1, ⟨by omega, e3 he⟩, by omega, ?_⟩
            have : ((q - 1 : Nat) : Int) - 1 = (q : Int) - 1 - 1 := by omega
            exact Eq.trans (b := j_greater l c r1 k d r2 xs ys ((q : Int) - 1 - 1)) (by kernel_rfl) (by rw [this])
        · have hx : q = 0 := by have : ¬ (q : Int) - 1 ≥ 0 := by simpa using hx
                                omega
          subst hx
          refine h 0 (.inr (.inl ⟨?_, rfl⟩))
          simp [bv] at inv; omega
      · rw [List.take_of_length_le (l := ys.take k) (by rw [List.length_take]; omega), List.take_of_length_le (l := xs.take l) (by rw [List.length_take]; omega)]; omega
    · exact h.elim
  · exact h.elim
theorem off_step {zs A B : List Rw} {n : Nat} {cy cc : Int} {b : Bool} (hn : zs.length = n) (inv : (bv zs : Int) + bv (B.take n) = bv (A.take n) + cy * 2 ^ n) (h : c1 b + c1 (bit B n) + cy = c1 (bit A n) + 2 * cc) :
    (bv (zs ++ [rwA [.bool b]]) : Int) + bv (B.take (n + 1)) = bv (A.take (n + 1)) + cc * 2 ^ (n + 1) := by
  rw [bv_app, bv_one, hn, bv_succ, bv_succ]
  have e : ∀ b, (nb b : Int) = c1 b := fun b => by cases b <;> rfl
  simp only [Int.natCast_add, Int.natCast_mul, e, Int.natCast_pow]
  rw [Int.pow_succ]
  have : c1 b = c1 (bit A n) + 2 * cc - c1 (bit B n) - cy := by omega
  rw [this]
  have hp : ((2 : Nat) : Int) ^ n = (2 : Int) ^ n := rfl
  rw [hp]
  generalize (2 : Int) ^ n = p at *
  have e1 : p * (c1 (bit A n) + 2 * cc - c1 (bit B n) - cy) = p * c1 (bit A n) + 2 * (p * cc) - p * c1 (bit B n) - p * cy := by
    rw [Int.mul_sub, Int.mul_sub, Int.mul_add, Int.mul_left_comm p 2 cc]
  have e2 : cc * (p * 2) = 2 * (p * cc) := by rw [← Int.mul_assoc, Int.mul_comm cc p, Int.mul_comm]
  have e3 : cy * p = p * cy := Int.mul_comm _ _
  rw [e1, e2]
  omega
theorem k_off : ∀ (args : List AV) (hp : Tr (AO O)) (nx : Nat) (K : AV → Tr (AO O) → Nat → Prop), c_off args hp nx K → ACall I P 57 args hp (fun v hp' => ∃ nx', K v hp' nx') := by
  intro args hp nx K h
  unfold c_off at h; split at h
  · rename_i n l c m k d
    split at h
    · rename_i xs r1 ys r2 hb hg1 hg2 hgx
      simp only [Bool.and_eq_true] at hb
      obtain ⟨⟨⟨hb1, hb2⟩, hb3⟩, hb4⟩ := hb
      obtain ⟨⟨⟨hl, hl2⟩, ⟨hk, hk2⟩, hge⟩, h⟩ := h
      refine hrows mix gq0 (fn := Try.f57) (by kernel_rfl) (by kernel_rfl) (by kernel_rfl) [n, m] [bo xs r1, bo ys r2] [.sl 0 0 l c, .sl 1 0 k d] (nx := nx) rfl (uniq2 hb1 hb2 hb4) rfl ⟨hg1, hg2, trivial⟩ rfl rfl (fun hr ho => ?_)
      refine (t_off I _ l c r1 k d r2 xs ys).mpr ?_
      have hA : (xs.take l).length = l := by rw [List.length_take]; omega
      refine ALoop.weak (Weak.asRows (n := 2) (l := 0) (sh := [.b]) (xs := []) rfl rfl rfl rfl) ?_
      refine ALoop.start [(2, 2)] [0, 1, 5, 6, 7] 3 (j_off l c r1 k d r2 xs ys [] 0 0 0 0 0) (by kernel_rfl) (by kernel_rfl) ?_
      refine ALoop.invj (ps := [(4, 2)]) (ts := [0, 1, 5, 6, 7]) (nx := 3) (fun x : List Rw × Nat × Nat × Nat × Int => j_off l c r1 k d r2 xs ys x.1 x.2.1 x.2.2.1 x.2.2.2.1 x.2.2.2.2 (x.2.1 : Nat))
        (fun x => x.1.length = x.2.1 ∧ x.2.2.1 ≤ x.2.2.2.1 ∧ (x.2.2.2.2 = 0 ∨ x.2.2.2.2 = 1) ∧ x.2.1 ≤ l ∧ (bv x.1 : Int) + bv ((ys.take k).take x.2.1) = bv ((xs.take l).take x.2.1) + x.2.2.2.2 * 2 ^ x.2.1)
        (fun x => l - x.2.1) (fun x hG => ?_) ([], 0, 0, 0, 0) ⟨rfl, Nat.le_refl _, .inl rfl, Nat.zero_le _, by simp [bv]⟩
      obtain ⟨zs, n', e, room, cy⟩ := x
      obtain ⟨g1, g2, g3, g4, g5⟩ := hG
      simp only at g1 g2 g3 g4 g5
      refine (t_offR I _ _ l c r1 k d r2 xs ys zs n' e room cy n').mpr ?_
      have hin : ((n' : Int)).toNat = n' := by omega
      rw [hin, s_i64 (n := (n' : Int) + 1) (by omega)]
      have hz : zs.take n' = zs := List.take_of_length_le (by omega)
      have hms : (Nat.ble n' zs.length && Nat.ble (e * [Sh.b].length) room && Nat.blt 2 16777215) = true := by
        simp only [Bool.and_eq_true, Nat.ble_eq, List.length_cons, List.length_nil]; exact ⟨⟨by omega, by omega⟩, rfl⟩
      have mk : n' < l → ∀ {b b' : Bool}, bit (xs.take l) n' = b → bit (ys.take k) n' = b' → ∀ (bb : Bool) (cc : Int), (cc = 0 ∨ cc = 1) → c1 bb + c1 b' + cy = c1 b + 2 * cc → ∀ c' : Nat, ∃ y : List Rw × Nat × Nat × Nat × Int, (y.1.length = y.2.1 ∧ y.2.2.1 ≤ y.2.2.2.1 ∧ (y.2.2.2.2 = 0 ∨ y.2.2.2.2 = 1) ∧ y.2.1 ≤ l ∧ (bv y.1 : Int) + bv ((ys.take k).take y.2.1) = bv ((xs.take l).take y.2.1) + y.2.2.2.2 * 2 ^ y.2.1) ∧
            l - y.2.1 < l - n' ∧ j_off l c r1 k d r2 xs ys (zs.take n' ++ [rwA [.bool bb]]) (n' + 1) c' (c' * [Sh.b].length) cc ((n' : Int) + 1) = j_off l c r1 k d r2 xs ys y.1 y.2.1 y.2.2.1 y.2.2.2.1 y.2.2.2.2 (y.2.1 : Nat) := fun hnl b b' h1 h2 bb cc hc h3 c' => by
        refine ⟨(zs.take n' ++ [rwA [.bool bb]], n' + 1, c', c' * [Sh.b].length, cc), ⟨by simp [hz, g1], by simp, hc, hnl, ?_⟩, ?_, rfl⟩
        · simp only; rw [hz]; exact off_step g1 g5 (by rw [h1, h2]; exact h3)
        · simp only; omega
      refine bsplit_both (fun w1 => ?_) (fun w1 => ?_)
      rotate_right
      · have w1 : n' = l := by have : ¬ (n' : Int) < l := by simpa using w1
                               omega
        subst w1
        rw [List.take_of_length_le (l := xs.take n') (by omega)] at g5
        have hb1 := bv_take_le (ys.take k) n'
        have hzl := bv_lt zs
        have hAl := bv_lt (xs.take n')
        rw [g1] at hzl; rw [hA] at hAl
        have hcy : cy = 0 := by
          rcases g3 with g3 | g3
          · exact g3
          · exfalso
            subst g3
            have : ((2 : Nat) : Int) ^ n' = (2 : Int) ^ n' := rfl
            have h2 : ((2 ^ n' : Nat) : Int) = (2 : Int) ^ n' := by rw [Int.natCast_pow]; rfl
            rw [← h2] at g5
            omega
        subst hcy
        have hfull : bv ((ys.take k).take n') = bv (ys.take k) := by
          have h3 := bv_app ((ys.take k).take n') ((ys.take k).drop n')
          rw [List.take_append_drop] at h3
          rcases Nat.eq_zero_or_pos (bv ((ys.take k).drop n')) with h4 | h4
          · rw [h4] at h3; omega
          · exfalso
            have hlen : n' ≤ (ys.take k).length := by
              rcases Nat.le_total n' (ys.take k).length with h5 | h5
              · exact h5
              · rw [List.drop_eq_nil_of_le h5] at h4; simp [bv] at h4
            have hlt : ((ys.take k).take n').length = n' := by rw [List.length_take]; omega
            rw [hlt] at h3
            have : 2 ^ n' * 1 ≤ 2 ^ n' * bv ((ys.take k).drop n') := Nat.mul_le_mul_left _ h4
            omega
        rw [hfull] at g5
        refine ⟨⟨rfl, rfl, trivial⟩, .inr ⟨2, _, _, zs, room, hb3, hgx, Nat.le_refl _, rfl, rfl, ?_⟩⟩
        have := h zs e room ⟨by simp at g5; omega, g1⟩
        rw [g1] at this
        exact this
      have w1 : n' < l := by simpa using w1
      refine ⟨⟨by omega, hl⟩, bsplit_both (fun ba => ?_) (fun ba => ?_)⟩
      all_goals
        refine ⟨⟨by omega, hk⟩, bsplit_both (fun bb => ?_) (fun bb => ?_)⟩
        all_goals
          rcases g3 with rfl | rfl
          all_goals
            first
            | (refine bsT rfl (must_mk hms ⟨by omega, fun c' hc1 hc2 => ?_⟩))
            | (refine bsF rfl (must_mk hms ⟨by omega, fun c' hc1 hc2 => ?_⟩))
            first
            | refine bsT rfl ?_
            | refine bsF rfl ?_
            first
            | (obtain ⟨y, y1, y2, y3⟩ := mk w1 ba bb false 0 (.inl rfl) rfl c'; exact ⟨y, y1, y2, y3 ▸ (by kernel_rfl)⟩)
            | (obtain ⟨y, y1, y2, y3⟩ := mk w1 ba bb true 0 (.inl rfl) rfl c'; exact ⟨y, y1, y2, y3 ▸ (by kernel_rfl)⟩)
            | (obtain ⟨y, y1, y2, y3⟩ := mk w1 ba bb false 1 (.inr rfl) rfl c'; exact ⟨y, y1, y2, y3 ▸ (by kernel_rfl)⟩)
            | (obtain ⟨y, y1, y2, y3⟩ := mk w1 ba bb true 1 (.inr rfl) rfl c'; exact ⟨y, y1, y2, y3 ▸ (by kernel_rfl)⟩)
    · exact h.elim
  · exact h.elim
theorem gq1 : GOk I P (Gm Q1) := Gm.consH (Gm.consH (Gm.consH gq0 k_off) k_greater) k_rsum
end Go.Tb.W
