/- Searches: the document's Ask, Found and Lost, proved. -/
import Derived.Test.YtamfmlaipbdpgaaD3
import Derived.Test.YtamfmlaipbdpgaaD4
set_option linter.all false
set_option maxRecDepth 100000
set_option maxHeartbeats 20000000
namespace Go.Tb.W
open Go Go.Proofs
variable {I : Interp O}
theorem pow_pos2 (k : Nat) : (1 : Int) ≤ 2 ^ k := by
  induction k with
  | zero => simp
  | succ k ih => rw [Int.pow_succ]; omega
theorem pow_mono2 {a b : Nat} (h : a ≤ b) : (2 : Int) ^ a ≤ 2 ^ b := by
  obtain ⟨k, rfl⟩ := Nat.exists_eq_add_of_le h
  rw [Int.pow_add]
  have h1 := pow_pos2 k
  have h2 := pow_pos2 a
  have : 2 ^ a * 1 ≤ (2 : Int) ^ a * 2 ^ k := Int.mul_le_mul_of_nonneg_left h1 (by omega)
  omega
theorem may_ok {l : Nat} {q w t fr now : Int} {ak : Bool} (h : mayD l q w t ak fr now = 0) : now ≤ 9223372036854775807 - wtD w t := by
  unfold mayD mayE at h
  split at h
  · cases h
  · split at h
    · cases h
    · split at h
      · cases h
      · omega
theorem k_dask : ∀ (args : List AV) (hp : Tr (AO O)) (nx : Nat) (K : AV → Tr (AO O) → Nat → Prop), c_dask args hp nx K → ACall I P 15 args hp (fun v hp' => ∃ nx', K v hp' nx') := by
  intro args hp nx K h
  unfold c_dask at h; split at h
  · rename_i n now
    obtain ⟨⟨hnb, hfr⟩, ⟨m, w, q, t, ak, fr, g, l, c, xs, room, hg, hb, hg2, h1, h2, bd, hk⟩ | ⟨m, w, q, t, ak, fr, hg, hb, bd, hk⟩⟩ := isD_spec h
    · obtain ⟨hu, _⟩ := both_iff hb
      refine hcallG mix gD2 (fn := Try.f15) (by kernel_rfl) (by kernel_rfl) (by kernel_rfl) [n, g] [dO m w q (.sl 1 0 l c) t ak fr, nO xs room] [.ptr 0 0, .int .i64 now] rfl hu rfl ⟨hg, hg2, trivial⟩ rfl rfl (fun hr ho => (t_dask I _ m w q t fr ak l c room xs now).mpr ?_)
      have hnow := rg_int2 hr
      obtain ⟨b1, b2⟩ := wtD_bd (t := t) bd.w0 bd.w1
      have hb' : l ≤ xs.length ∧ l ≤ 1000 ∧ 0 ≤ t ∧ t ≤ 1000 ∧ 1 ≤ w ∧ w ≤ 1099511627776 ∧ 1 ≤ m ∧ m ≤ 255 := ⟨h1, h2, bd.t0, bd.t1, bd.w0, bd.w1, bd.m0, bd.m1⟩
      have hw1 := bd.w1; have ht0 := bd.t0; have ht1 := bd.t1; have hm1 := bd.m1
      refine ⟨hb', bsplit_both (fun hx => ?_) (fun hx => ?_)⟩
      · have hx : mayD l q w t ak fr now ≠ 0 := by simpa using hx
        simp only [eR, eT, eA, eF, if_neg hx] at hk
        exact ⟨[], nx, hu, trivial, rfl, rfl, hk⟩
      · have hx : mayD l q w t ak fr now = 0 := by simpa using hx
        have hov := may_ok hx
        simp only [eR, eT, eA, eF, if_pos hx] at hk
        rw [hx] at hk
        refine ALoop.invg (ps := []) (ts := [0, 1, 7, 8]) (nx := 2) (fun i : Nat => j_da m w q t fr ak l c room xs now (2 ^ i) (i : Nat)) (fun i => (i : Int) ≤ t ∧ (2 : Int) ^ i ≤ 510) (fun i => t.toNat - i) ?_ (by kernel_rfl) 0 (by kernel_rfl) ⟨ht0, by decide⟩
        rintro i ⟨g1, g2⟩
        have hp1 := pow_pos2 i
        have out : (if m < (2 : Int) ^ i then m else 2 ^ i) = minI (2 ^ t.toNat) m → AllBack hp [n, g] K (.tup [.int .i64 (if m < (2 : Int) ^ i then m else 2 ^ i), .int .i64 0]) (Tr.ofList 0 [dO m w q (.sl 1 0 l c) (IntKind.i64.wrap (t + 1)) true (IntKind.i64.wrap (now + wtD w t)), nO xs room] .leaf) := fun he => by
          rw [he, w_id (n := t + 1) (by omega) (by omega), w_id (n := now + wtD w t) (by omega) (by omega)]
          exact ⟨[], nx, hu, trivial, rfl, rfl, hk⟩
        refine (t_daskR I _ _ m w q t fr ak l c room xs now (2 ^ i) (i : Nat)).mpr (bsplit_both (fun hy => bsplit_both (fun hz => ?_) (fun hz => ⟨hb', out ?_⟩)) (fun hy => ⟨hb', out ?_⟩))
        · have hy := of_decide_eq_true hy
          have hz := of_decide_eq_true hz
          refine ⟨i + 1, ⟨by omega, by rw [Int.pow_succ]; omega⟩, by omega, ?_⟩
          rw [w_id (n := (2 : Int) ^ i * 2) (by omega) (by omega), w_id (n := (i : Int) + 1) (by omega) (by omega), ← Int.pow_succ]; rfl
        · have hy := of_decide_eq_true hy
          have hz := of_decide_eq_false hz
          have hmo : (2 : Int) ^ i ≤ 2 ^ t.toNat := pow_mono2 (by omega)
          unfold minI
          split <;> split <;> omega
        · have hy := of_decide_eq_false hy
          have : t.toNat = i := by omega
          rw [this]; rfl
    · refine hcallG mix gD2 (fn := Try.f15) (by kernel_rfl) (by kernel_rfl) (by kernel_rfl) [n] [dO m w q .nils t ak fr] [.ptr 0 0, .int .i64 now] rfl (uniq1 hb) rfl ⟨hg, trivial⟩ rfl rfl (fun hr ho => (t_dask0 I _ m w q t fr ak now).mpr ?_)
      have hnow := rg_int2 hr
      obtain ⟨b1, b2⟩ := wtD_bd (t := t) bd.w0 bd.w1
      have hb' : 0 ≤ t ∧ t ≤ 1000 ∧ 1 ≤ w ∧ w ≤ 1099511627776 ∧ 1 ≤ m ∧ m ≤ 255 := ⟨bd.t0, bd.t1, bd.w0, bd.w1, bd.m0, bd.m1⟩
      have hw1 := bd.w1; have ht0 := bd.t0; have ht1 := bd.t1; have hm1 := bd.m1
      refine ⟨hb', bsplit_both (fun hx => ?_) (fun hx => ?_)⟩
      · have hx : mayD 0 q w t ak fr now ≠ 0 := by simpa using hx
        simp only [eR, eT, eA, eF, if_neg hx] at hk
        exact ⟨[], nx, uniq1 hb, trivial, rfl, rfl, hk⟩
      · have hx : mayD 0 q w t ak fr now = 0 := by simpa using hx
        have hov := may_ok hx
        simp only [eR, eT, eA, eF, if_pos hx] at hk
        rw [hx] at hk
        refine ALoop.invg (ps := []) (ts := [0, 1, 7, 8]) (nx := 1) (fun i : Nat => j_da0 m w q t fr ak now (2 ^ i) (i : Nat)) (fun i => (i : Int) ≤ t ∧ (2 : Int) ^ i ≤ 510) (fun i => t.toNat - i) ?_ (by kernel_rfl) 0 (by kernel_rfl) ⟨ht0, by decide⟩
        rintro i ⟨g1, g2⟩
        have hp1 := pow_pos2 i
        have out : (if m < (2 : Int) ^ i then m else 2 ^ i) = minI (2 ^ t.toNat) m → AllBack hp [n] K (.tup [.int .i64 (if m < (2 : Int) ^ i then m else 2 ^ i), .int .i64 0]) (Tr.ofList 0 [dO m w q .nils (IntKind.i64.wrap (t + 1)) true (IntKind.i64.wrap (now + wtD w t))] .leaf) := fun he => by
          rw [he, w_id (n := t + 1) (by omega) (by omega), w_id (n := now + wtD w t) (by omega) (by omega)]
          exact ⟨[], nx, uniq1 hb, trivial, rfl, rfl, hk⟩
        refine (t_dask0R I _ _ m w q t fr ak now (2 ^ i) (i : Nat)).mpr (bsplit_both (fun hy => bsplit_both (fun hz => ?_) (fun hz => ⟨hb', out ?_⟩)) (fun hy => ⟨hb', out ?_⟩))
        · have hy := of_decide_eq_true hy
          have hz := of_decide_eq_true hz
          refine ⟨i + 1, ⟨by omega, by rw [Int.pow_succ]; omega⟩, by omega, ?_⟩
          rw [w_id (n := (2 : Int) ^ i * 2) (by omega) (by omega), w_id (n := (i : Int) + 1) (by omega) (by omega), ← Int.pow_succ]; rfl
        · have hy := of_decide_eq_true hy
          have hz := of_decide_eq_false hz
          have hmo : (2 : Int) ^ i ≤ 2 ^ t.toNat := pow_mono2 (by omega)
          unfold minI
          split <;> split <;> omega
        · have hy := of_decide_eq_false hy
          have : t.toNat = i := by omega
          rw [this]; rfl
  · exact h.elim
theorem place_cases (id : Int) (L : List Rw) : placeD id L = -1 ∨ ∃ i : Nat, i < L.length ∧ placeD id L = i := by
  unfold placeD
  cases h : L.findIdx? (fun x => x.i 0 == id) with
  | none => exact .inl rfl
  | some i =>
    obtain ⟨hi, _⟩ := List.findIdx?_eq_some_iff_getElem.1 h
    exact .inr ⟨i, hi, rfl⟩
theorem ty3 : (P.types[3].size.beq [Sh.i IntKind.i64].length) = true := by kernel_rfl
theorem take_at {xs : List Rw} {l i : Nat} : (xs.drop i).take (l - i) = (xs.take l).drop i := by rw [List.drop_take]
theorem dl_lc {m w q t fr : Int} {ak : Bool} {g l c : Nat} (ho : RgO (dO m w q (.sl g 0 l c) t ak fr)) : l ≤ c ∧ c ≤ 9223372036854775807 := by
  have := ho.1
  simp only [rgs, rg, Bool.and_eq_true, Nat.ble_eq] at this
  exact this.2.2.2.1
theorem k_dlost : ∀ (args : List AV) (hp : Tr (AO O)) (nx : Nat) (K : AV → Tr (AO O) → Nat → Prop), c_dlost args hp nx K → ACall I P 19 args hp (fun v hp' => ∃ nx', K v hp' nx') := by
  intro args hp nx K h
  unfold c_dlost at h; split at h
  · rename_i n id
    obtain ⟨⟨hnb, hfr⟩, ⟨m, w, q, t, ak, fr, g, l, c, xs, room, hg, hb, hg2, h1, h2, bd, hk1, hk2⟩ | ⟨m, w, q, t, ak, fr, hg, hb, bd, hk⟩⟩ := isD_spec h
    · obtain ⟨hu, _⟩ := both_iff hb
      refine hcallG mix gD2 (fn := Try.f19) (by kernel_rfl) (by kernel_rfl) (by kernel_rfl) [n, g] [dO m w q (.sl 1 0 l c) t ak fr, nO xs room] [.ptr 0 0, .int .i64 id] rfl hu rfl ⟨hg, hg2, trivial⟩ rfl rfl (fun hr ho => (t_dlost I _ m w q t fr ak l c room xs id).mpr ?_)
      have hlc := dl_lc ho.1
      have hb' : l ≤ xs.length ∧ l ≤ 1000 ∧ 0 ≤ t ∧ t ≤ 1000 ∧ 1 ≤ w ∧ w ≤ 1099511627776 ∧ 1 ≤ m ∧ m ≤ 255 := ⟨h1, h2, bd.t0, bd.t1, bd.w0, bd.w1, bd.m0, bd.m1⟩
      have hlen : (xs.take l).length = l := by simp; omega
      refine ⟨hb', bsplit_both (fun hx => ?_) (fun hx => ?_)⟩
      · exact ⟨[], nx, hu, trivial, rfl, rfl, hk1 (of_decide_eq_true hx)⟩
      · have hx := of_decide_eq_false hx
        rcases place_cases id (xs.take l) with e | ⟨i, hi, e⟩
        · rw [e] at hx; omega
        · have hk := hk2 (by rw [e]; omega)
          unfold rmD at hk
          rw [e] at hk ⊢
          rw [w_id (n := (i : Int) + 1) (by omega) (by omega)]
          have e4 : ((i : Int) + 1).toNat = i + 1 := by omega
          rw [e4]
          simp only [Int.toNat_natCast] at hk ⊢
          have tl : ∀ c', K (.int .i64 0) (newD hp n nx m w q 0 ak fr g xs room (List.take (0 + i) (([] : List Rw) ++ List.take i xs) ++ List.take (l - (i + 1)) (List.drop (i + 1) xs)) (0 + i + (l - (i + 1))) c' (c' * 1)) (nx + 1) := fun c' => by
            have hk := hk c' (c' * 1)
            have e1 : List.take (0 + i) (([] : List Rw) ++ List.take i xs) = List.take i (List.take l xs) := by
              rw [Nat.zero_add, List.nil_append, List.take_take, List.take_take, Nat.min_self, Nat.min_eq_left (by omega)]
            rw [e1, take_at, show 0 + i + (l - (i + 1)) = l - 1 by omega]
            exact hk
          clear hk hk1 hk2 h hr ho
          have hi' : i < l := by omega
          repeat' (first
            | exact ⟨[(3, nx)], nx + 1, uniq3 hu hfr hnb (by rw [hg]; simp) (by rw [hg2]; simp) rfl, ⟨hfr, trivial⟩, rfl, rfl, tl _⟩
            | exact ⟨[(4, nx)], nx + 1, uniq3 hu hfr hnb (by rw [hg]; simp) (by rw [hg2]; simp) rfl, ⟨hfr, trivial⟩, rfl, rfl, tl _⟩
            | exact ⟨[(5, nx)], nx + 1, uniq3 hu hfr hnb (by rw [hg]; simp) (by rw [hg2]; simp) rfl, ⟨hfr, trivial⟩, rfl, rfl, tl _⟩
            | refine must_mk ?_ ?_
            | refine And.intro ?_ ?_
            | intro _)
          all_goals first
            | omega
            | rfl
            | exact decide_eq_true ⟨by omega, by omega⟩
            | (rw [ty3]; simp [Nat.ble_eq]; done)
            | (rw [ty3]; simp [Nat.ble_eq]; omega)
            | (simp [Nat.ble_eq]; done)
            | (simp [Nat.ble_eq]; omega)
    · have hb' : 0 ≤ t ∧ t ≤ 1000 ∧ 1 ≤ w ∧ w ≤ 1099511627776 ∧ 1 ≤ m ∧ m ≤ 255 := ⟨bd.t0, bd.t1, bd.w0, bd.w1, bd.m0, bd.m1⟩
      exact hcallG mix gD2 (fn := Try.f19) (by kernel_rfl) (by kernel_rfl) (by kernel_rfl) [n] [dO m w q .nils t ak fr] [.ptr 0 0, .int .i64 id] rfl (uniq1 hb) rfl ⟨hg, trivial⟩ rfl rfl (fun hr ho => (t_dlost0 I _ m w q t fr ak id).mpr ⟨hb', ⟨[], nx, uniq1 hb, trivial, rfl, rfl, hk⟩⟩)
  · exact h.elim
theorem tk_dr {p : Rw → Bool} {L : List Rw} {i : Nat} (hi : i ≤ L.length) (h1 : ∀ j, (h : j < i) → p (L[j]'(by omega)) = true) (h2 : i = L.length ∨ ∃ h : i < L.length, p L[i] = false) : L.takeWhile p = L.take i ∧ L.dropWhile p = L.drop i := by
  induction L generalizing i with
  | nil => simp at hi; subst hi; exact ⟨rfl, rfl⟩
  | cons x l ih =>
    cases i with
    | zero =>
      rcases h2 with h2 | ⟨_, h2⟩
      · simp at h2
      · have h2 : p x = false := h2
        simp [List.takeWhile_cons, List.dropWhile_cons, h2]
    | succ i =>
      have hx : p x = true := h1 0 (by omega)
      have := ih (i := i) (by simpa using hi) (fun j hj => h1 (j + 1) (by omega)) (by
        rcases h2 with h2 | ⟨h3, h2⟩
        · exact .inl (by simpa using h2)
        · exact .inr ⟨by simpa using h3, h2⟩)
      simp [List.takeWhile_cons, List.dropWhile_cons, hx, this.1, this.2]
theorem k_dfound : ∀ (args : List AV) (hp : Tr (AO O)) (nx : Nat) (K : AV → Tr (AO O) → Nat → Prop), c_dfound args hp nx K → ACall I P 17 args hp (fun v hp' => ∃ nx', K v hp' nx') := by
  intro args hp nx K h
  unfold c_dfound at h; split at h
  · rename_i n id
    obtain ⟨⟨hnb, hfr⟩, ⟨m, w, q, t, ak, fr, g, l, c, xs, room, hg, hb, hg2, h1, h2, bd, hk1, hk2⟩ | ⟨m, w, q, t, ak, fr, hg, hb, bd, hk1, hk2⟩⟩ := isD_spec h
    · obtain ⟨hu, _⟩ := both_iff hb
      refine hcallG mix gD2 (fn := Try.f17) (by kernel_rfl) (by kernel_rfl) (by kernel_rfl) [n, g] [dO m w q (.sl 1 0 l c) t ak fr, nO xs room] [.ptr 0 0, .int .i64 id] rfl hu rfl ⟨hg, hg2, trivial⟩ rfl rfl (fun hr ho => (t_dfound I _ m w q t fr ak l c room xs id).mpr ?_)
      have hlc := dl_lc ho.1
      have hb' : l ≤ xs.length ∧ l ≤ 1000 ∧ 0 ≤ t ∧ t ≤ 1000 ∧ 1 ≤ w ∧ w ≤ 1099511627776 ∧ 1 ≤ m ∧ m ≤ 255 := ⟨h1, h2, bd.t0, bd.t1, bd.w0, bd.w1, bd.m0, bd.m1⟩
      have hlen : (xs.take l).length = l := by simp; omega
      have stay : ∀ e, e ≠ 0 → foundD id (xs.take l) l q = e → AllBack hp [n, g] K (.int .i64 e) (Tr.ofList 0 [dO m w q (.sl 1 0 l c) t ak fr, nO xs room] .leaf) := fun e he hf => by
        subst hf; exact ⟨[], nx, hu, trivial, rfl, rfl, hk1 he⟩
      refine bsplit_both (fun a1 => stay 1 (by decide) ?_) (fun a1 => ⟨hb', bsplit_both (fun a2 => stay 11 (by decide) ?_) (fun a2 => ?_)⟩)
      · unfold foundD; rw [if_pos (of_decide_eq_true a1)]
      · unfold foundD; rw [if_neg (of_decide_eq_false a1), if_pos (of_decide_eq_true a2)]
      · have f4 : decide ((l : Int) ≥ q) = true → foundD id (xs.take l) l q = 4 := fun a3 => by unfold foundD; rw [if_neg (of_decide_eq_false a1), if_neg (of_decide_eq_false a2), if_pos (of_decide_eq_true a3)]
        have f0 : decide ((l : Int) ≥ q) = false → foundD id (xs.take l) l q = 0 := fun a3 => by unfold foundD; rw [if_neg (of_decide_eq_false a1), if_neg (of_decide_eq_false a2), if_neg (of_decide_eq_false a3)]
        refine ⟨bsplit_both (fun a3 => stay 4 (by decide) (f4 a3)) (fun a3 => ?_), bsplit_both (fun a3 => stay 4 (by decide) (f4 a3)) (fun a3 => ?_)⟩
        all_goals
          have k2 := hk2 (f0 a3)
          refine ALoop.invg (ps := []) (ts := [0, 1, 5]) (nx := 2) (fun i : Nat => j_df m w q t fr ak l c room xs id (i : Nat)) (fun i => i ≤ l ∧ ∀ j, (h : j < i) → (hx : j < xs.length) → (xs[j]).i 0 < id) (fun i => l - i) ?_ (by kernel_rfl) 0 (by kernel_rfl) ⟨Nat.zero_le _, fun j h => absurd h (Nat.not_lt_zero _)⟩
          rintro i ⟨g1, g2⟩
          have tail : (i = l ∨ ∃ h : i < l, ¬ (xs[i]'(by omega)).i 0 < id) → ∀ c', K (.int .i64 0) (newD hp n nx m w q t ak fr g xs room (List.take (0 + i + 1) (List.take (0 + i) (([] : List Rw) ++ List.take i xs) ++ [iR id]) ++ List.take (l - i) (List.drop i xs)) (0 + i + 1 + (l - i)) c' (c' * 1)) (nx + 1) := fun he c' => by
            have := tk_dr (p := fun x : Rw => decide (x.i 0 < id)) (L := xs.take l) (i := i) (by omega) (fun j hj => by rw [List.getElem_take]; exact decide_eq_true (g2 j hj (by omega))) (by
              rcases he with he | ⟨he, hn⟩
              · exact .inl (by omega)
              · exact .inr ⟨by omega, by rw [List.getElem_take]; exact decide_eq_false hn⟩)
            have hk := k2 c' (c' * 1)
            rw [show tkD id (xs.take l) = (xs.take l).take i from this.1, show drD id (xs.take l) = (xs.take l).drop i from this.2] at hk
            have e1 : List.take (0 + i + 1) (List.take (0 + i) (([] : List Rw) ++ List.take i xs) ++ [iR id]) = List.take i xs ++ [iR id] := by
              rw [Nat.zero_add, List.nil_append, List.take_take, Nat.min_self]
              exact List.take_of_length_le (by simp; omega)
            have e2 : (xs.take l).take i = xs.take i := by rw [List.take_take, Nat.min_eq_left g1]
            rw [e1, take_at, show 0 + i + 1 + (l - i) = l + 1 by omega, List.append_assoc]
            rw [e2] at hk
            exact hk
          refine (t_dfoundR I _ _ m w q t fr ak l c room xs id (i : Nat)).mpr (bsplit_both (fun hx => ?_) (fun hx => ?_))
          · have hx := of_decide_eq_true hx
            refine must_mk (decide_eq_true ⟨by omega, hx⟩) (xget_mk (by rw [Int.toNat_natCast]; exact List.getElem?_eq_getElem (show i < xs.length by omega)) (bsplit_both (fun hy => ⟨i + 1, ⟨by omega, fun j hj hq => ?_⟩, by omega, ?_⟩) (fun hy => ?_)))
            · by_cases e : j = i
              · subst e; exact of_decide_eq_true hy
              · exact g2 j (by omega) hq
            · rw [w_id (n := (i : Int) + 1) (by omega) (by omega)]; rfl
            · have hy := of_decide_eq_false hy
              have tl := tail (.inr ⟨by omega, hy⟩)
              have hi2 : i ≤ xs.length := by omega
              clear tail hk1 hk2 k2 h g2 ho hr hy stay f4 f0 a1 a2 a3
              simp only [Int.toNat_natCast]
              repeat' (first
                | exact ⟨[(6, nx)], nx + 1, uniq3 hu hfr hnb (by rw [hg]; simp) (by rw [hg2]; simp) rfl, ⟨hfr, trivial⟩, rfl, rfl, tl _⟩
                | refine must_mk ?_ ?_
                | refine And.intro ?_ ?_
                | intro _)
              all_goals first
                | omega
                | rfl
                | exact decide_eq_true ⟨by omega, by omega⟩
                | (rw [ty3]; simp [Nat.ble_eq]; done)
                | (rw [ty3]; simp [Nat.ble_eq]; omega)
                | (simp [Nat.ble_eq]; done)
                | (simp [Nat.ble_eq]; omega)
          · have hx := of_decide_eq_false hx
            have tl := tail (.inl (by omega))
            have hi2 : i ≤ xs.length := by omega
            clear tail hk1 hk2 k2 h g2 ho hr stay f4 f0 a1 a2 a3
            simp only [Int.toNat_natCast]
            repeat' (first
              | exact ⟨[(6, nx)], nx + 1, uniq3 hu hfr hnb (by rw [hg]; simp) (by rw [hg2]; simp) rfl, ⟨hfr, trivial⟩, rfl, rfl, tl _⟩
              | refine must_mk ?_ ?_
              | refine And.intro ?_ ?_
              | intro _)
            all_goals first
              | omega
              | rfl
              | exact decide_eq_true ⟨by omega, by omega⟩
              | (rw [ty3]; simp [Nat.ble_eq]; done)
              | (rw [ty3]; simp [Nat.ble_eq]; omega)
              | (simp [Nat.ble_eq]; done)
              | (simp [Nat.ble_eq]; omega)
    · have hb' : 0 ≤ t ∧ t ≤ 1000 ∧ 1 ≤ w ∧ w ≤ 1099511627776 ∧ 1 ≤ m ∧ m ≤ 255 := ⟨bd.t0, bd.t1, bd.w0, bd.w1, bd.m0, bd.m1⟩
      refine hcallG mix gD2 (fn := Try.f17) (by kernel_rfl) (by kernel_rfl) (by kernel_rfl) [n] [dO m w q .nils t ak fr] [.ptr 0 0, .int .i64 id] rfl (uniq1 hb) rfl ⟨hg, trivial⟩ rfl rfl (fun hr ho => (t_dfound0 I _ m w q t fr ak id).mpr ?_)
      have stay : ∀ e, e ≠ 0 → foundD id [] 0 q = e → AllBack hp [n] K (.int .i64 e) (Tr.ofList 0 [dO m w q .nils t ak fr] .leaf) := fun e he hf => by
        subst hf; exact ⟨[], nx, uniq1 hb, trivial, rfl, rfl, hk1 he⟩
      refine bsplit_both (fun a1 => stay 1 (by decide) ?_) (fun a1 => ⟨hb', bsplit_both (fun a3 => stay 4 (by decide) ?_) (fun a3 => ?_), bsplit_both (fun a3 => stay 4 (by decide) ?_) (fun a3 => ?_)⟩)
      · unfold foundD; rw [if_pos (of_decide_eq_true a1)]
      · unfold foundD; rw [if_neg (of_decide_eq_false a1), if_neg (show ¬ (0 : Int) ≤ placeD id [] from (show ¬ (0 : Int) ≤ -1 by omega)), if_pos (by have := of_decide_eq_true a3; exact this)]
      rotate_left
      · unfold foundD; rw [if_neg (of_decide_eq_false a1), if_neg (show ¬ (0 : Int) ≤ placeD id [] from (show ¬ (0 : Int) ≤ -1 by omega)), if_pos (by have := of_decide_eq_true a3; exact this)]
      all_goals
        have a3' := of_decide_eq_false a3
        have k2 := hk2 (by unfold foundD; rw [if_neg (of_decide_eq_false a1), if_neg (show ¬ (0 : Int) ≤ placeD id [] from (show ¬ (0 : Int) ≤ -1 by omega)), if_neg (by exact a3')])
        refine ALoop.start [] [0, 1, 5] 1 (j_df0 m w q t fr ak id 0) (by kernel_rfl) (by kernel_rfl) ?_
        refine ALoop.stepg [] [0, 1, 5] 1 ?_
        refine (t_dfound0R I _ _ m w q t fr ak id 0).mpr (bs_f (by decide) ?_)
        clear hk1 hk2 h ho hr stay a1 a3 a3'
        repeat' (first
          | exact ⟨[(5, nx)], nx + 1, uniq2n (uniq1 hb) hfr hnb (by rw [hg]; simp) rfl, ⟨hfr, trivial⟩, rfl, rfl, k2 _ (_ * 1)⟩
          | refine must_mk ?_ ?_
          | refine And.intro ?_ ?_
          | intro _)
        all_goals first
          | omega
          | rfl
          | exact decide_eq_true ⟨by omega, by omega⟩
          | (simp [Nat.ble_eq]; done)
          | (simp [Nat.ble_eq]; omega)
  · exact h.elim
end Go.Tb.W
