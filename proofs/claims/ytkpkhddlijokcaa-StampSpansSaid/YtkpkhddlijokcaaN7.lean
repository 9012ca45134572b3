/- The document's numbers: a number's bits, sums. -/
import Derived.Test.YtkpkhddlijokcaaN4
import Derived.Test.YtkpkhddlijokcaaN6
set_option linter.all false
set_option maxRecDepth 100000
namespace Go.Tb.W
open Go Go.Proofs
variable {I : Interp O}
theorem bv_pos {xs : List Rw} {k : Nat} (h0 : k ≠ 0) (h : bit xs (k - 1) = true) : 2 ^ (k - 1) ≤ bv (xs.take k) := by
  have := bv_succ xs (k - 1)
  rw [h, show k - 1 + 1 = k by omega] at this
  simp only [nb, Nat.mul_one] at this; omega
theorem nr_bare {s : Bool} {xs : List Rw} {k V : Nat} (hk : k ≤ xs.length) (h : bv (xs.take k) = V) (h0 : k = 0 ∨ bit xs (k - 1) = true) : NR (s && decide (0 < k)) xs k (sv s V) := by
  refine ⟨hk, h0, ?_, ?_⟩
  · rw [h]
    by_cases hz : k = 0
    · subst hz; simp [bv] at h; subst h; cases s <;> simp [sv]
    · have : decide (0 < k) = true := by simp; omega
      rw [this, Bool.and_true]
  · intro hs
    simp only [Bool.and_eq_true, decide_eq_true_eq] at hs
    have h1 : k ≠ 0 := by omega
    have := bv_pos h1 (h0.resolve_left h1)
    have hp : 0 < 2 ^ (k - 1) := Nat.two_pow_pos _
    rw [hs.1]; simp only [sv]; omega
theorem nr_len {s : Bool} {xs : List Rw} {k m : Nat} {v : Int} (h : NR s xs k v) (hv : v.natAbs < 2 ^ m) : k ≤ m := by
  obtain ⟨_, h0, hs, _⟩ := h
  rcases h0 with h0 | h0
  · omega
  · rcases Nat.eq_zero_or_pos k with hk | hk
    · omega
    · have h1 := bv_pos (by omega) h0
      have h2 : v.natAbs = bv (xs.take k) := by rw [← hs]; cases s <;> simp [sv]
      rw [h2] at hv
      have : k - 1 < m := (Nat.pow_lt_pow_iff_right (by omega)).1 (Nat.lt_of_le_of_lt h1 hv)
      omega
theorem nr_abs {s : Bool} {xs : List Rw} {k : Nat} {v : Int} (h : NR s xs k v) : bv (xs.take k) = v.natAbs := by rw [← h.2.2.1]; cases s <;> simp [sv]
theorem nv_of {s : Bool} {xs : List Rw} {k : Nat} {v : Int} (h : NR s xs k v) : nv s xs k = v := h.2.2.1
theorem pre_of {s : Bool} {xs : List Rw} {k : Nat} {v : Int} (h : NR s xs k v) (hk : k ≤ 900) : Pre s xs k := ⟨by rw [nv_of h]; exact h, hk⟩
theorem nr_zero {s : Bool} {xs : List Rw} {k : Nat} {v : Int} (h : NR s xs k v) : k = 0 ↔ v = 0 := by
  constructor
  · intro hk; subst hk; have := h.2.2.1; simp [bv] at this; rw [← this]; cases s <;> simp [sv]
  · intro hv; subst hv; have := nr_len (m := 0) h (by simp); omega
theorem pre_abs {s : Bool} {xs : List Rw} {k : Nat} (h : Pre s xs k) : bv (xs.take k) = (nv s xs k).natAbs := nr_abs h.1
theorem pre_sign {s : Bool} {xs : List Rw} {k : Nat} (h : Pre s xs k) : s = decide (nv s xs k < 0) := by
  have := h.1.2.2
  cases s with
  | true => have := this.2 rfl; simp [this]
  | false => have h1 := this.1; simp [sv] at h1; simp; omega
theorem take_self {zs : List Rw} : zs.take zs.length = zs := List.take_of_length_le (Nat.le_refl _)
theorem k_rof : ∀ (args : List AV) (hp : Tr (AO O)) (nx : Nat) (K : AV → Tr (AO O) → Nat → Prop), c_rof args hp nx K → ACall I P 36 args hp (fun v hp' => ∃ nx', K v hp' nx') := by
  intro args hp nx K h
  unfold c_rof at h; split at h
  · rename_i n
    split at h
    · rename_i hb hg
      refine hrows mix gq1 (fn := Try.f36) (by kernel_rfl) (by kernel_rfl) (by kernel_rfl) [] [] [.int .i64 n] (nx := nx) rfl rfl rfl trivial rfl rfl (fun hr ho => ?_)
      simp only [rgs, rg, Bool.and_eq_true] at hr
      have hn := r_i64 hr.1
      refine (t_rof I _ n).mpr ?_
      have main : ∀ (s : Bool) (m : Nat), m < 18446744073709551616 → sv s m = n → ∀ (zs : List Rw) (k e room : Nat), bv zs = m → k ≤ zs.length → bv (zs.take k) = bv zs → (k = 0 ∨ bit zs (k - 1) = true) →
          K (.agg [.bool (s && decide (0 < k)), .sl nx 0 k e]) (hp.set nx (some (bo zs room))) (nx + 1) := fun s m hm hs zs k e room h1 h2 h3 h4 => by
        refine h _ zs k e room ?_
        rw [← hs, ← h1]
        exact nr_bare h2 h3 h4
      have loop : ∀ (s : Bool) (m : Nat), m < 18446744073709551616 → sv s m = n → ALoop I 0 (cd Try.f36 [true, true, true, true, false, true, false, false]) (acode I P (Gm Q1) (adraw P (Gm Q1)) 0 (cd Try.f36 [true, true, true, true, false, true, false, false])) (ablock 0 (athen (cd Try.f36 [true, true, true, true, true]) (fun s => acode I P (Gm Q1) (adraw P (Gm Q1)) 0 (cd Try.f36 [true, true, true, true, true]) s (kret P Try.f36 (fun v lh _ => keeps lh 0 ([] : List (AO O)) ∧ ((nm (pd (pairs 0 [])) v = true ∧ K (rn (pι (pairs 0 [])) v) hp nx) ∨ ∃ j t sh zs room, Nat.blt nx 16777215 = true ∧ hp.get nx = none ∧ ([] : List Nat).length ≤ j ∧ lh.get j = some (.rows t sh zs room) ∧ nm (pd (pairs 0 [] ++ [(j, nx)])) v = true ∧ K (rn (pι (pairs 0 [] ++ [(j, nx)])) v) (hp.set nx (some (.rows t sh zs room))) (nx + 1))))) (kret P Try.f36 (fun v lh _ => keeps lh 0 ([] : List (AO O)) ∧ ((nm (pd (pairs 0 [])) v = true ∧ K (rn (pι (pairs 0 [])) v) hp nx) ∨ ∃ j t sh zs room, Nat.blt nx 16777215 = true ∧ hp.get nx = none ∧ ([] : List Nat).length ≤ j ∧ lh.get j = some (.rows t sh zs room) ∧ nm (pd (pairs 0 [] ++ [(j, nx)])) v = true ∧ K (rn (pι (pairs 0 [] ++ [(j, nx)])) v) (hp.set nx (some (.rows t sh zs room))) (nx + 1)))))) (j_of0 s m) := by
        intro s m hm hs
        have hbit : ∀ i : Nat, i < 64 → (((m : Int).fdiv (2 ^ min ((i : Int)).toNat IntKind.u64.bits)).tmod 2 == 1) = ((m / 2 ^ i) % 2 == 1) := fun i hi => by
          have h1 : min ((i : Int)).toNat IntKind.u64.bits = i := by
            have : IntKind.u64.bits = 64 := rfl
            omega
          rw [h1]
          have h2 : (m : Int).fdiv (2 ^ i) = ((m / 2 ^ i : Nat) : Int) := by
            rw [Int.fdiv_eq_ediv_of_nonneg _ (Int.pow_nonneg (by decide))]
            rw [Int.natCast_ediv, Int.natCast_pow]; rfl
          rw [h2, Int.tmod_eq_emod_of_nonneg (Int.natCast_nonneg _)]
          have h3 : ((m / 2 ^ i : Nat) : Int) % 2 = ((m / 2 ^ i % 2 : Nat) : Int) := by omega
          rw [h3]
          generalize m / 2 ^ i % 2 = y
          cases hy : (y == 1)
          · have : y ≠ 1 := by simpa using hy
            simp; omega
          · have : y = 1 := by simpa using hy
            subst this; rfl
        have step : ∀ i : Nat, m % 2 ^ (i + 1) = m % 2 ^ i + 2 ^ i * nb ((m / 2 ^ i) % 2 == 1) := fun i => by
          rw [Nat.pow_succ, Nat.mod_mul]
          congr 2
          have := Nat.mod_lt (m / 2 ^ i) (show 0 < 2 by omega)
          generalize m / 2 ^ i % 2 = y at *
          rcases (show y = 0 ∨ y = 1 by omega) with rfl | rfl <;> rfl
        refine ALoop.stepg [(0, 0), (1, 1), (3, 2)] [2, 3, 4, 5] 3 ?_
        refine (t_of0R I _ _ n s m).mpr ⟨by omega, fun c' h1 h2 => ?_⟩
        have inv := ALoop.invj (I := I) (m := 0) (b := (cd Try.f36 [true, true, true, true, false, true, false, false])) (body := (acode I P (Gm Q1) (adraw P (Gm Q1)) 0 (cd Try.f36 [true, true, true, true, false, true, false, false]))) (K := (ablock 0 (athen (cd Try.f36 [true, true, true, true, true]) (fun s => acode I P (Gm Q1) (adraw P (Gm Q1)) 0 (cd Try.f36 [true, true, true, true, true]) s (kret P Try.f36 (fun v lh _ => keeps lh 0 ([] : List (AO O)) ∧ ((nm (pd (pairs 0 [])) v = true ∧ K (rn (pι (pairs 0 [])) v) hp nx) ∨ ∃ j t sh zs room, Nat.blt nx 16777215 = true ∧ hp.get nx = none ∧ ([] : List Nat).length ≤ j ∧ lh.get j = some (.rows t sh zs room) ∧ nm (pd (pairs 0 [] ++ [(j, nx)])) v = true ∧ K (rn (pι (pairs 0 [] ++ [(j, nx)])) v) (hp.set nx (some (.rows t sh zs room))) (nx + 1))))) (kret P Try.f36 (fun v lh _ => keeps lh 0 ([] : List (AO O)) ∧ ((nm (pd (pairs 0 [])) v = true ∧ K (rn (pι (pairs 0 [])) v) hp nx) ∨ ∃ j t sh zs room, Nat.blt nx 16777215 = true ∧ hp.get nx = none ∧ ([] : List Nat).length ≤ j ∧ lh.get j = some (.rows t sh zs room) ∧ nm (pd (pairs 0 [] ++ [(j, nx)])) v = true ∧ K (rn (pι (pairs 0 [] ++ [(j, nx)])) v) (hp.set nx (some (.rows t sh zs room))) (nx + 1))))))) (ps := [(0, 0), (1, 1), (4, 2)]) (ts := [2, 3, 4, 5]) (nx := 3)
          (fun x : List Rw × Nat × Nat × Nat => j_of s x.1 x.2.1 x.2.2.1 x.2.2.2 m (x.2.1 : Nat)) (fun x => x.1.length = x.2.1 ∧ x.2.2.1 ≤ x.2.2.2 ∧ x.2.1 ≤ 64 ∧ bv x.1 = m % 2 ^ x.2.1) (fun x => 64 - x.2.1) (fun x hG => ?_) ([rwA [.bool (((m : Int).fdiv (2 ^ min ((0 : Nat) : Int).toNat IntKind.u64.bits)).tmod 2 == 1)]], 1, c', c' * [Sh.b].length) ⟨rfl, by simp, by simp only; omega, ?_⟩
        · refine cast (congrArg _ ?_) inv
          kernel_rfl
        · obtain ⟨zs, n', e, room⟩ := x
          obtain ⟨g1, g2, g3, g4⟩ := hG
          simp only at g1 g2 g3 g4
          refine (t_ofR I _ _ n s zs n' e room m n').mpr ?_
          have hz : zs.take n' = zs := List.take_of_length_le (by omega)
          refine bsplit_both (fun w1 => ?_) (fun w1 => ?_)
          · have w1 : n' < 64 := by have : (n' : Int) < 64 := by simpa using w1
                                    omega
            refine must_mk (by simp) (must_mk ?_ ⟨by omega, fun c'' hc1 hc2 => ?_⟩)
            · simp only [Bool.and_eq_true, Nat.ble_eq, List.length_cons, List.length_nil]; exact ⟨⟨by omega, by omega⟩, rfl⟩
            rw [s_i64 (n := (n' : Int) + 1) (by omega)]
            refine ⟨(zs.take n' ++ [rwA [.bool (((m : Int).fdiv (2 ^ min ((n' : Int)).toNat IntKind.u64.bits)).tmod 2 == 1)]], n' + 1, c'', c'' * [Sh.b].length), ⟨by simp [hz, g1], by simp, w1, ?_⟩, by simp only; omega, by kernel_rfl⟩
            simp only
            rw [hbit n' w1, hz, bv_app, bv_one, g1, g4, step]
          · have w1 : n' = 64 := by have : ¬ (n' : Int) < 64 := by simpa using w1
                                    omega
            subst w1
            have hm : bv zs = m := by rw [g4]; exact Nat.mod_eq_of_lt (by simpa using hm)
            refine ⟨⟨by omega, by omega⟩, fun k hk => ?_⟩
            obtain ⟨k1, k2, k3⟩ := hk
            rw [hz] at k2
            exact ⟨trivial, .inr ⟨2, _, _, zs, room, hb, hg, Nat.zero_le _, rfl, rfl, main s m ‹_› hs zs k e room hm (by omega) k2 k3⟩⟩
        · have := step 0
          rw [hbit 0 (by decide), bv_one]
          simpa [Nat.mod_one] using this.symm
      refine bsplit_both (fun hx => ?_) (fun hx => ?_)
      · have hx' : n < 0 := by simpa using hx
        have e : IntKind.u64.wrap (bits BinOp.xor IntKind.u64 (if IntKind.u64.signed = true then -1 else IntKind.u64.max) (IntKind.u64.wrap n) + 1) = (((-n).toNat : Nat) : Int) := by
          rw [not_u64 _ (by rw [w_u64]; omega), w_u64, w_u64]; omega
        rw [e, hx]
        exact ALoop.start [(0, 0), (1, 1)] [2, 3, 4, 5] 2 (j_of0 true (((-n).toNat : Nat) : Int)) (by kernel_rfl) (by kernel_rfl) (loop true _ (by omega) (by simp only [sv]; omega))
      · have hx' : ¬ n < 0 := by simpa using hx
        have e : IntKind.u64.wrap n = ((n.toNat : Nat) : Int) := by rw [w_u64]; omega
        rw [e, hx]
        exact ALoop.start [(0, 0), (1, 1)] [2, 3, 4, 5] 2 (j_of0 false ((n.toNat : Nat) : Int)) (by kernel_rfl) (by kernel_rfl) (loop false _ (by omega) (by simp only [sv]; omega))
    · exact h.elim
  · exact h.elim
theorem k_rless : ∀ (args : List AV) (hp : Tr (AO O)) (nx : Nat) (K : AV → Tr (AO O) → Nat → Prop), c_rless args hp nx K → ACall I P 38 args hp (fun v hp' => ∃ nx', K v hp' nx') := by
  intro args hp nx K h
  unfold c_rless at h; split at h
  · rename_i s n l c
    split at h
    · rename_i xs room hb hg
      obtain ⟨hpre, h⟩ := h
      refine hrows mix gq1 (fn := Try.f38) (by kernel_rfl) (by kernel_rfl) (by kernel_rfl) [n] [bo xs room] [.agg [.bool s, .sl 0 0 l c]] (nx := nx) rfl (uniq1 hb) rfl ⟨hg, trivial⟩ rfl rfl (fun hr ho => ?_)
      refine (t_rless I _ s l c room xs).mpr ⟨⟨hpre.1.1, by have := hpre.2; omega⟩, fun k hk => ?_⟩
      obtain ⟨k1, k2, k3⟩ := hk
      refine ⟨⟨rfl, trivial⟩, .inl ⟨rfl, h _ k ?_⟩⟩
      have h1 : k ≤ xs.length := Nat.le_trans k1 hpre.1.1
      have := nr_bare (s := !s) h1 k2 k3
      have e : sv (!s) (bv (xs.take l)) = -(nv s xs l) := by unfold nv; cases s <;> simp [sv]
      rw [e] at this
      exact this
    · exact h.elim
  · exact h.elim
theorem pre_lenB {s : Bool} {xs : List Rw} {k : Nat} (h : Pre s xs k) : lenB xs k := ⟨h.1.1, by have := h.2; omega⟩
theorem k_radd : ∀ (args : List AV) (hp : Tr (AO O)) (nx : Nat) (K : AV → Tr (AO O) → Nat → Prop), c_radd args hp nx K → ACall I P 37 args hp (fun v hp' => ∃ nx', K v hp' nx') := by
  intro args hp nx K h
  unfold c_radd at h; split at h
  · rename_i s n l c t m k d
    split at h
    · rename_i xs r1 ys r2 hb hg1 hg2 hgx
      simp only [Bool.and_eq_true] at hb
      obtain ⟨⟨⟨hb1, hb2⟩, hb3⟩, hb4⟩ := hb
      obtain ⟨⟨p1, p2⟩, h⟩ := h
      refine hrows mix gq1 (fn := Try.f37) (by kernel_rfl) (by kernel_rfl) (by kernel_rfl) [n, m] [bo xs r1, bo ys r2] [.agg [.bool s, .sl 0 0 l c], .agg [.bool t, .sl 1 0 k d]] (nx := nx) rfl (uniq2 hb1 hb2 hb4) rfl ⟨hg1, hg2, trivial⟩ rfl rfl (fun hr ho => ?_)
      refine (t_radd I _ s t l c r1 k d r2 xs ys).mpr ?_
      have a1 := pre_abs p1
      have a2 := pre_abs p2
      have L1 := p1.2
      have L2 := p2.2
      have fin : ∀ (u : Bool) (zs : List Rw) (e room k' : Nat), zs.length ≤ 2000 → sv u (bv zs) = nv s xs l + nv t ys k → (k' ≤ zs.length ∧ bv (zs.take k') = bv (zs.take zs.length) ∧ (k' = 0 ∨ bit zs (k' - 1) = true)) → K (.agg [.bool (u && decide (0 < k')), .sl nx 0 k' e]) (hp.set nx (some (bo zs room))) (nx + 1) := fun u zs e room k' hz hv hk => by
        refine h _ zs k' e room ?_
        rw [← hv]
        rw [take_self] at hk
        exact nr_bare hk.1 hk.2.1 hk.2.2
      refine bsplit_both (fun hst => ?_) (fun hst => ?_)
      · have hst : s = t := by simpa using hst
        refine ⟨⟨pre_lenB p1, pre_lenB p2⟩, fun zs e room hz => ?_⟩
        have hmx : Nat.max l k ≤ 900 := Nat.max_le.2 ⟨L1, L2⟩
        refine ⟨rfl, ⟨Nat.le_refl _, by omega⟩, fun k' hk => ⟨rfl, ⟨rfl, rfl, trivial⟩, .inr ⟨5, _, _, zs, room, hb3, hgx, by simp, rfl, rfl, fin s zs e room k' (by omega) ?_ hk⟩⟩⟩
        rw [hz.1]; subst hst; unfold nv; cases s <;> simp only [sv] <;> omega
      · have hst : s ≠ t := by simpa using hst
        refine ⟨⟨pre_lenB p1, pre_lenB p2⟩, fun r hr => ?_⟩
        refine bsplit_both (fun hx => ?_) (fun hx => ?_)
        · have hx : r ≥ 0 := by simpa using hx
          have hge : bv (ys.take k) ≤ bv (xs.take l) := by unfold CmpR at hr; omega
          refine ⟨⟨pre_lenB p1, pre_lenB p2, hge⟩, fun zs e room hz => ⟨rfl, ⟨Nat.le_refl _, by omega⟩, fun k' hk => ⟨rfl, ⟨rfl, rfl, trivial⟩, .inr ⟨5, _, _, zs, room, hb3, hgx, by simp, rfl, rfl, fin s zs e room k' (by omega) ?_ hk⟩⟩⟩⟩
          unfold nv; cases s <;> cases t <;> first | exact (hst rfl).elim | (simp only [sv]; omega)
        · have hx : ¬ r ≥ 0 := by simpa using hx
          have hge : bv (xs.take l) ≤ bv (ys.take k) := by unfold CmpR at hr; omega
          refine ⟨⟨pre_lenB p2, pre_lenB p1, hge⟩, fun zs e room hz => ⟨rfl, ⟨Nat.le_refl _, by omega⟩, fun k' hk => ⟨rfl, ⟨rfl, rfl, trivial⟩, .inr ⟨5, _, _, zs, room, hb3, hgx, by simp, rfl, rfl, fin t zs e room k' (by omega) ?_ hk⟩⟩⟩⟩
          unfold nv; cases s <;> cases t <;> first | exact (hst rfl).elim | (simp only [sv]; omega)
    · exact h.elim
  · exact h.elim
theorem gq2 : GOk I P (Gm Q2) := Gm.consH (Gm.consH (Gm.consH gq1 k_radd) k_rless) k_rof
end Go.Tb.W
