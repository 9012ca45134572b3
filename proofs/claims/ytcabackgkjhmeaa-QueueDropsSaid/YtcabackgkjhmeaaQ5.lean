/- Queues: up and down a heap. -/
import Derived.Test.YtcabackgkjhmeaaQ4
set_option linter.all false
set_option maxRecDepth 100000
namespace Go.Tb.W
open Go Go.Proofs
variable {I : Interp O}
theorem swapL_length (xs : List Rw) (i k : Nat) : (swapL xs i k).length = xs.length := by
  unfold swapL; split <;> simp
theorem upF_fuel : ∀ (f g : Nat) (xs : List Rw) (j : Nat), j < f → j < g → upF f xs j = upF g xs j
  | 0, _, _, _, h, _ => absurd h (Nat.not_lt_zero _)
  | _, 0, _, _, _, h => absurd h (Nat.not_lt_zero _)
  | f + 1, g + 1, xs, j, h1, h2 => by
    simp only [upF]
    split
    · split
      · rfl
      · rename_i hne
        split
        · exact upF_fuel f g _ _ (by omega) (by omega)
        · rfl
    · rfl
theorem childF_gt (xs : List Rw) (i n : Nat) : i < childF xs i n ∧ (childF xs i n = 2 * i + 1 ∨ childF xs i n = 2 * i + 2 ∧ 2 * i + 2 < n) := by
  unfold childF
  split
  · split
    · rename_i h; exact ⟨by omega, .inr ⟨rfl, h.1⟩⟩
    · exact ⟨by omega, .inl rfl⟩
  · exact ⟨by omega, .inl rfl⟩
theorem downF_fuel : ∀ (f g : Nat) (xs : List Rw) (i n : Nat), n - i < f → n - i < g → downF f xs i n = downF g xs i n
  | 0, _, _, _, _, h, _ => absurd h (Nat.not_lt_zero _)
  | _, 0, _, _, _, _, h => absurd h (Nat.not_lt_zero _)
  | f + 1, g + 1, xs, i, n, h1, h2 => by
    simp only [downF]
    split
    · rfl
    · split
      · split
        · have := childF_gt xs i n
          exact downF_fuel f g _ _ _ (by omega) (by omega)
        · rfl
      · rfl
theorem k_up : ∀ (args : List AV) (hp : Tr (AO O)) (nx : Nat) (K : AV → Tr (AO O) → Nat → Prop), c_up args hp nx K → ACall I P 26 args hp (fun v hp' => ∃ nx', K v hp' nx') := by
  intro args hp nx K h
  unfold c_up at h; split at h
  · rename_i n j
    split at h
    · rename_i m l c sq hg
      split at h
      · rename_i xs room hb hg2
        obtain ⟨⟨h1, h2⟩, h⟩ := h
        obtain ⟨hj, h⟩ := must_spec h
        rw [inL_iff] at hj
        obtain ⟨j, rfl⟩ := Int.eq_ofNat_of_zero_le hj.1
        have hj2 : j < l := by omega
        rw [Int.toNat_natCast] at h
        obtain ⟨hu, _⟩ := both_iff hb
        refine hcallG mix gA2 (fn := Try.f26) (by kernel_rfl) (by kernel_rfl) (by kernel_rfl) [n, m] [qO (.sl 1 0 l c) sq, eO xs room] [.iface 64 (.ptr 0 0), .int .i64 j] rfl hu rfl ⟨hg, hg2, trivial⟩ rfl rfl (fun hr ho => (t_up I _ l c room xs sq j).mpr ?_)
        refine ALoop.invg (ps := []) (ts := [0, 1]) (nx := 2) (fun x : List Rw × Nat => j_up l c room x.1 sq (x.2 : Nat)) (fun x => (x.1.length = xs.length ∧ x.2 < l) ∧ upF (x.2 + 1) x.1 x.2 = upF (j + 1) xs j) (fun x => x.2) ?_ (by kernel_rfl) (xs, j) (by kernel_rfl) ⟨⟨rfl, hj2⟩, rfl⟩
        clear ho hr
        rintro ⟨ys, i⟩ ⟨⟨g1, g2⟩, g3⟩
        simp only at g1 g2 g3 ⊢
        refine (t_upR I _ _ l c room ys sq i).mpr ?_
        have e1 : IntKind.i64.wrap ((IntKind.i64.wrap ((i : Int) - 1)).tdiv 2) = (((i - 1) / 2 : Nat) : Int) := by
          rw [w_i64 ((i : Int) - 1)]
          cases i with
          | zero => rw [w_i64]; rfl
          | succ i =>
            have : ((i + 1 : Nat) : Int) - 1 = (i : Int) := by omega
            rw [this]
            have : ((i : Int) + 9223372036854775808) % 18446744073709551616 - 9223372036854775808 = (i : Int) := by omega
            rw [this, show (2 : Int) = ((2 : Nat) : Int) from rfl, ← Int.ofNat_tdiv, w_i64]
            have : i + 1 - 1 = i := by omega
            rw [this]; omega
        simp only [e1, Int.toNat_natCast]
        have done : upF (j + 1) xs j = ys → AllBack hp [n, m] K (.tup []) (.node (.node .leaf (some (eO ys room)) .leaf) (some (qO (.sl 1 0 l c) sq)) .leaf) := fun e => ⟨[], nx, hu, trivial, rfl, rfl, by rw [e] at h; exact h⟩
        have hx := List.getElem?_eq_getElem (show i < ys.length by omega)
        have hy := List.getElem?_eq_getElem (show (i - 1) / 2 < ys.length by omega)
        have hst : upF (i + 1) ys i = if (i - 1) / 2 = i then ys else if lessE ys[i] ys[(i - 1) / 2] then upF i (swapL ys ((i - 1) / 2) i) ((i - 1) / 2) else ys := by
          simp only [upF, hx, hy]
        refine bsplit_both (fun hc => done ?_) (fun hc => must_mk ?_ (xget_mk hx (xget_mk hy (bsplit_both (fun hd => done ?_) (fun hd => ⟨by omega, must_mk ?_ ⟨(swapL ys ((i - 1) / 2) i, (i - 1) / 2), ⟨⟨?_, ?_⟩, ?_⟩, ?_, rfl⟩⟩)))))
        · have hc : (i - 1) / 2 = i := by have := eq_of_beq hc; omega
          rw [← g3, hst, if_pos hc]
        · simp only [Bool.and_eq_true, inL_iff]; omega
        · have hc : ¬ (i - 1) / 2 = i := by
            have := ne_of_beq_false hc; omega
          have hd : lessE ys[i] ys[(i - 1) / 2] = false := by simpa using hd
          rw [← g3, hst, if_neg hc, hd]; rfl
        · simp only [Bool.and_eq_true, inL_iff]; omega
        · simp only [swapL_length]; exact g1
        · show (i - 1) / 2 < l; omega
        · have hc : ¬ (i - 1) / 2 = i := by
            have := ne_of_beq_false hc; omega
          have hd : lessE ys[i] ys[(i - 1) / 2] = true := by simpa using hd
          rw [← g3, hst, if_neg hc, hd]
          exact upF_fuel _ _ _ _ (by omega) (by omega)
        · have hc : ¬ (i - 1) / 2 = i := by
            have := ne_of_beq_false hc; omega
          show (i - 1) / 2 < i; omega
      · exact h.elim
    · exact h.elim
  · exact h.elim
theorem k_down : ∀ (args : List AV) (hp : Tr (AO O)) (nx : Nat) (K : AV → Tr (AO O) → Nat → Prop), c_down args hp nx K → ACall I P 27 args hp (fun v hp' => ∃ nx', K v hp' nx') := by
  intro args hp nx K h
  unfold c_down at h; split at h
  · rename_i n i0 k
    split at h
    · rename_i m l c sq hg
      split at h
      · rename_i xs room hb hg2
        obtain ⟨⟨h1, h2, h3, h4, h5, h6⟩, h⟩ := h
        obtain ⟨i0, rfl⟩ := Int.eq_ofNat_of_zero_le h3
        obtain ⟨k, rfl⟩ := Int.eq_ofNat_of_zero_le h5
        rw [Int.toNat_natCast, Int.toNat_natCast] at h
        obtain ⟨hu, _⟩ := both_iff hb
        refine hcallG mix gA2 (fn := Try.f27) (by kernel_rfl) (by kernel_rfl) (by kernel_rfl) [n, m] [qO (.sl 1 0 l c) sq, eO xs room] [.iface 64 (.ptr 0 0), .int .i64 i0, .int .i64 k] rfl hu rfl ⟨hg, hg2, trivial⟩ rfl rfl (fun hr ho => (t_down I _ l c room xs sq i0 k).mpr ?_)
        refine ALoop.invg (ps := []) (ts := [0, 1, 2, 7]) (nx := 2) (fun x : List Rw × Nat => j_down l c room x.1 sq i0 k (x.2 : Nat)) (fun x => (x.1.length = xs.length ∧ x.2 ≤ l) ∧ downF (k - x.2 + 1) x.1 x.2 k = downF (k + 1) xs i0 k) (fun x => k - x.2) ?_ (by kernel_rfl) (xs, i0) (by kernel_rfl) ⟨⟨rfl, by show i0 ≤ l; omega⟩, downF_fuel _ _ _ _ _ (by show k - i0 < k - i0 + 1; omega) (by show k - i0 < k + 1; omega)⟩
        clear ho hr
        rintro ⟨ys, i⟩ ⟨⟨g1, g2⟩, g3⟩
        simp only at g1 g2 g3 ⊢
        refine (t_downR I _ _ l c room ys sq i0 k i).mpr ?_
        have e0 : IntKind.i64.wrap (2 * (i : Int)) = ((2 * i : Nat) : Int) := by rw [w_i64]; omega
        have e1 : IntKind.i64.wrap (((2 * i : Nat) : Int) + 1) = ((2 * i + 1 : Nat) : Int) := by rw [w_i64]; omega
        have e2 : IntKind.i64.wrap (((2 * i + 1 : Nat) : Int) + 1) = ((2 * i + 2 : Nat) : Int) := by rw [w_i64]; omega
        simp only [e0, e1, e2, Int.toNat_natCast]
        have done : downF (k + 1) xs i0 k = ys → ∀ b, AllBack hp [n, m] K (.bool b) (.node (.node .leaf (some (eO ys room)) .leaf) (some (qO (.sl 1 0 l c) sq)) .leaf) := fun e b => ⟨[], nx, hu, trivial, rfl, rfl, by rw [e] at h; exact h b⟩
        refine bsplit_both (fun hc => done ?_ _) (fun hc => bsplit_both (fun hd => ?_) (fun hd => ?_))
        · have hc := of_decide_eq_true hc
          rw [← g3]; simp only [downF]; rw [if_pos (by omega)]
        · have := of_decide_eq_true hd; omega
        have hc := of_decide_eq_false hc
        have hi := List.getElem?_eq_getElem (show i < ys.length by omega)
        have h1' := List.getElem?_eq_getElem (show 2 * i + 1 < ys.length by omega)
        -- the lesser child
        have hst : ∀ (j : Nat) (hj : j < ys.length), childF ys i k = j → downF (k - i + 1) ys i k = if lessE ys[j] ys[i] then downF (k - i) (swapL ys i j) j k else ys := fun j hj e => by
          simp only [downF, e]
          rw [if_neg (by omega), List.getElem?_eq_getElem hj, hi]
        have go : ∀ (j : Nat) (hj : j < ys.length), childF ys i k = j → j < k → (lessE ys[j] ys[i] = true → ((swapL ys i j).length = xs.length ∧ j ≤ l) ∧ downF (k - j + 1) (swapL ys i j) j k = downF (k + 1) xs i0 k) ∧ (lessE ys[j] ys[i] = false → downF (k + 1) xs i0 k = ys) := fun j hj e hk => by
          refine ⟨fun hl => ⟨⟨by rw [swapL_length]; exact g1, by omega⟩, ?_⟩, fun hl => ?_⟩
          · rw [← g3, hst j hj e, hl]
            have := (childF_gt ys i k).1
            exact downF_fuel _ _ _ _ _ (by omega) (by omega)
          · rw [← g3, hst j hj e, hl]; rfl
        have hinl : ∀ a b : Nat, a < l → b < l → (inL (a : Int) l && inL (b : Int) l) = true := fun a b ha hb => by simp only [Bool.and_eq_true, inL_iff]; omega
        refine bsplit_both (fun he => ?_) (fun he => ?_)
        · have he := of_decide_eq_true he
          have h2' := List.getElem?_eq_getElem (show 2 * i + 2 < ys.length by omega)
          refine must_mk (hinl _ _ (by omega) (by omega)) (xget_mk h2' (xget_mk h1' (bsplit_both (fun hf => ?_) (fun hf => ?_))))
          · have hch : childF ys i k = 2 * i + 2 := by unfold childF; rw [h1', h2']; simp only; rw [if_pos ⟨by omega, hf⟩]
            refine must_mk (hinl _ _ (by omega) (by omega)) (xget_mk h2' (xget_mk hi (bsplit_both (fun hx => ?_) (fun hx => ⟨by omega, must_mk (hinl _ _ (by omega) (by omega)) ⟨(swapL ys i (2 * i + 2), 2 * i + 2), ?_, ?_, rfl⟩⟩))))
            · exact done ((go _ (by omega) hch (by omega)).2 (by simpa using hx)) _
            · exact (go _ (by omega) hch (by omega)).1 (by simpa using hx)
            · show k - (2 * i + 2) < k - i; omega
          · have hch : childF ys i k = 2 * i + 1 := by unfold childF; rw [h1', h2']; simp only; rw [if_neg (fun h => by rw [hf] at h; cases h.2)]
            refine must_mk (hinl _ _ (by omega) (by omega)) (xget_mk h1' (xget_mk hi (bsplit_both (fun hx => ?_) (fun hx => ⟨by omega, must_mk (hinl _ _ (by omega) (by omega)) ⟨(swapL ys i (2 * i + 1), 2 * i + 1), ?_, ?_, rfl⟩⟩))))
            · exact done ((go _ (by omega) hch (by omega)).2 (by simpa using hx)) _
            · exact (go _ (by omega) hch (by omega)).1 (by simpa using hx)
            · show k - (2 * i + 1) < k - i; omega
        · have he := of_decide_eq_false he
          have hch : childF ys i k = 2 * i + 1 := by
            unfold childF
            split
            · rw [if_neg (fun h => by omega)]
            · rfl
          refine must_mk (hinl _ _ (by omega) (by omega)) (xget_mk h1' (xget_mk hi (bsplit_both (fun hx => ?_) (fun hx => ⟨by omega, must_mk (hinl _ _ (by omega) (by omega)) ⟨(swapL ys i (2 * i + 1), 2 * i + 1), ?_, ?_, rfl⟩⟩))))
          · exact done ((go _ (by omega) hch (by omega)).2 (by simpa using hx)) _
          · exact (go _ (by omega) hch (by omega)).1 (by simpa using hx)
          · show k - (2 * i + 1) < k - i; omega
      · exact h.elim
    · exact h.elim
  · exact h.elim
end Go.Tb.W
