/- Claims: the small functions, proved. -/
import Derived.Test.YtnljoapmieepeaaK2
set_option linter.all false
set_option maxRecDepth 100000
set_option maxHeartbeats 2000000
namespace Go.Tb.W
open Go Go.Proofs
variable {I : Interp O}
theorem mix : P.follows .mixedOrders = true := by kernel_rfl
theorem bs_t {b : Bool} {K : Bool → Prop} (hb : b = true) (h : K true) : bsplit b K := bsplit_both (fun _ => h) (fun hx => by rw [hb] at hx; cases hx)
theorem bs_f {b : Bool} {K : Bool → Prop} (hb : b = false) (h : K false) : bsplit b K := bsplit_both (fun hx => by rw [hb] at hx; cases hx) (fun _ => h)
theorem w_id {n : Int} (h : -9223372036854775808 ≤ n) (k : n ≤ 9223372036854775807) : IntKind.i64.wrap n = n := by rw [w_i64]; omega
theorem both_iff {n m : Nat} (h : both n m = true) : uniq (pairs 0 [n, m]) = true ∧ Nat.blt n 16777215 = true ∧ Nat.blt m 16777215 = true ∧ n ≠ m := by
  simp only [both, Bool.and_eq_true, Bool.not_eq_true'] at h
  obtain ⟨h1, h2, h3⟩ := h
  have hne := Nat.ne_of_beq_eq_false h3
  refine ⟨?_, h1, h2, hne⟩
  have : Nat.beq m n = false := by
    cases hb : Nat.beq m n with
    | false => rfl
    | true => exact absurd (Nat.eq_of_beq_eq_true hb).symm hne
  simp [pairs, uniq, lk, lkr, h1, h2, this, h3]
theorem uniq2n {hp : Tr (AO O)} {n nx j : Nat} (hu : uniq (pairs 0 [n]) = true) (hn : hp.get nx = none) (hb : Nat.blt nx 16777215 = true) (h1 : hp.get n ≠ none) (hj : lk (pairs 0 [n]) j = none) : uniq (pairs 0 [n] ++ [(j, nx)]) = true :=
  uniq_new hn hb hu hj fun p hp' => by
    simp [pairs] at hp'
    rcases hp' with rfl
    exact h1
theorem k_may : ∀ (args : List AV) (K : AV → Prop), c_may args K → ∀ hp, ACall I P 12 args hp (fun v hp' => K v ∧ hp' = hp) := by
  intro args K h hp
  unfold c_may at h; split at h
  · rename_i id lo hi
    refine pcall mix Gm.nil (fn := Try.f12) (by kernel_rfl) (by kernel_rfl) (by kernel_rfl) rfl rfl (fun hr => ?_) hp
    have fin : ∀ b, mayC id lo hi = b → K (.bool b) ∧ cl (AV.bool b) = true := fun b hb => by rw [← hb]; exact ⟨h, rfl⟩
    refine (t_may I (fun v => K v ∧ cl v = true) id lo hi).mpr (bsplit_both (fun a1 => bsplit_both (fun a2 => bsplit_both (fun a3 => fin _ ?_) (fun a3 => fin _ ?_)) (fun a2 => fin _ ?_)) (fun a1 => fin _ ?_))
    · have a1 := of_decide_eq_true a1; have a2 := of_decide_eq_true a2; have a3 := of_decide_eq_true a3
      unfold mayC
      by_cases h4 : hi ≤ 1152921504606846976
      · rw [decide_eq_true h4]; exact decide_eq_true ⟨a1, a2, a3, h4⟩
      · rw [decide_eq_false h4]; exact decide_eq_false fun hx => h4 hx.2.2.2
    · have a3 := of_decide_eq_false a3; exact decide_eq_false fun hx => a3 hx.2.2.1
    · have a2 := of_decide_eq_false a2; exact decide_eq_false fun hx => a2 hx.2.1
    · have a1 := of_decide_eq_false a1; exact decide_eq_false fun hx => a1 hx.1
  · exact h.elim
theorem gA1 : GOk I P (Gm A1) := Gm.consP Gm.nil k_may
theorem k_not : ∀ (args : List AV) (K : AV → Prop), c_not args K → ∀ hp, ACall I P 14 args hp (fun v hp' => K v ∧ hp' = hp) := by
  intro args K h hp
  unfold c_not at h; split at h
  · rename_i id lo hi
    exact pcall mix gA1 (fn := Try.f14) (by kernel_rfl) (by kernel_rfl) (by kernel_rfl) rfl rfl (fun hr => (t_not I (fun v => K v ∧ cl v = true) id lo hi).mpr ⟨h, rfl⟩) hp
  · exact h.elim
theorem gA2 : GOk I P (Gm A2) := Gm.consP gA1 k_not
/-- What a slice of claims may be. -/
theorem slC_spec {hp : Tr (AO O)} {v : AV} {K : List Rw → (Tr (AO O) → Tr (AO O)) → Prop} (h : slC hp v K) : (v = .nils ∧ K [] (fun hp => hp)) ∨ ∃ n l c, v = .sl n 0 l c ∧ Nat.blt n 16777215 = true ∧
    ((∃ xs room, hp.get n = some (cO xs room) ∧ l ≤ xs.length ∧ K (xs.take l) (fun hp => hp.set n (some (cO xs room)))) ∨ (∃ ob xs, hp.get n = some (oO ob xs) ∧ l ≤ xs.length ∧ K (xs.take l) (fun hp => hp.set n (some (oO ob xs))))) := by
  unfold slC at h
  split at h
  · exact .inl ⟨rfl, h⟩
  · rename_i n l c
    split at h
    · rename_i xs room hb hg
      exact .inr ⟨n, l, c, rfl, hb, .inl ⟨xs, room, hg, h.1, h.2⟩⟩
    · rename_i ob xs hb hg
      exact .inr ⟨n, l, c, rfl, hb, .inr ⟨ob, xs, hg, h.1, h.2⟩⟩
    · exact h.elim
  · exact h.elim
theorem bad_hit {L : List Rw} {i : Nat} (hi : i < L.length) (h : mayR L[i] = false) (hb : ∀ j, (hj : j < i) → mayR (L[j]'(by omega)) = true) : badI L = i := by
  unfold badI
  have : L.findIdx? (fun x => !mayR x) = some i := List.findIdx?_eq_some_iff_getElem.2 ⟨hi, by simp [h], fun j hj => by simp [hb j hj]⟩
  rw [this]
theorem bad_none {L : List Rw} (hb : ∀ x ∈ L, mayR x = true) : badI L = -1 := by
  unfold badI
  have : L.findIdx? (fun x => !mayR x) = none := List.findIdx?_eq_none_iff.2 fun x hx => by simp [hb x hx]
  rw [this]
theorem bad_neg {L : List Rw} (h : ¬ badI L ≥ 0) : ∀ x ∈ L, mayR x = true := by
  unfold badI at h
  cases hf : L.findIdx? (fun x => !mayR x) with
  | none => intro x hx; have := List.findIdx?_eq_none_iff.1 hf x hx; simpa using this
  | some i => rw [hf] at h; exact absurd (show (i : Int) ≥ 0 by omega) h
theorem rg_lc {n o l c : Nat} {r : List AV} (h : rgs (.sl n o l c :: r) = true) : l ≤ c ∧ c ≤ 9223372036854775807 := by
  simp only [rgs, rg, Bool.and_eq_true, Nat.ble_eq] at h
  exact h.1
theorem k_index : ∀ (args : List AV) (hp : Tr (AO O)) (nx : Nat) (K : AV → Tr (AO O) → Nat → Prop), c_index args hp nx K → ACall I P 19 args hp (fun v hp' => ∃ nx', K v hp' nx') := by
  intro args hp nx K h
  unfold c_index at h; split at h
  · rename_i v
    rcases slC_spec h with ⟨rfl, hk⟩ | ⟨n, l, c, rfl, hb, ⟨xs, room, hg, hl, hk⟩ | ⟨ob, xs, hg, hl, hk⟩⟩
    · refine hcallG mix gA2 (fn := Try.f19) (by kernel_rfl) (by kernel_rfl) (by kernel_rfl) [] [] [.nils, fnA] rfl rfl rfl trivial rfl rfl (fun hr ho => (t_indexN I _).mpr ?_)
      refine ALoop.start [] [0, 1, 7, 8] 0 j_ixN (by kernel_rfl) (by kernel_rfl) ?_
      refine ALoop.stepg [] [0, 1, 7, 8] 0 ?_
      exact (t_ixN I _ _).mpr ⟨[], nx, rfl, trivial, rfl, rfl, hk⟩
    · refine hcallG mix gA2 (fn := Try.f19) (by kernel_rfl) (by kernel_rfl) (by kernel_rfl) [n] [cO xs room] [.sl 0 0 l c, fnA] rfl (uniq1 hb) rfl ⟨hg, trivial⟩ rfl rfl (fun hr ho => (t_indexR I _ l c room xs).mpr ?_)
      have hlc := rg_lc hr
      have out : ∀ e, badI (xs.take l) = e → AllBack hp [n] K (.int .i64 e) (Tr.ofList 0 [cO xs room] .leaf) := fun e he => by subst he; exact ⟨[], nx, uniq1 hb, trivial, rfl, rfl, hk⟩
      have hlen : (xs.take l).length = l := by simp; omega
      refine ALoop.invg (ps := []) (ts := [0, 1, 7, 8]) (nx := 1) (fun i : Nat => j_ixR l c room xs (i : Nat)) (fun i => i ≤ l ∧ ∀ j, (h : j < i) → (hx : j < xs.length) → mayR (xs[j]) = true) (fun i => l - i) ?_ (by kernel_rfl) 0 (by kernel_rfl) ⟨Nat.zero_le _, fun j h => absurd h (Nat.not_lt_zero _)⟩
      rintro i ⟨g1, g2⟩
      refine (t_ixR I _ _ l c room xs (i : Nat)).mpr (bsplit_both (fun hx => ?_) (fun hx => out _ (bad_none fun x hx' => ?_)))
      · have hx := of_decide_eq_true hx
        refine must_mk (decide_eq_true ⟨by omega, hx⟩) (xget_mk (by rw [Int.toNat_natCast]; exact List.getElem?_eq_getElem (show i < xs.length by omega)) (bsplit_both (fun hy => out _ ?_) (fun hy => ⟨i + 1, ⟨by omega, fun j hj hq => ?_⟩, by omega, ?_⟩)))
        · have hy : mayR (xs[i]'(by omega)) = false := by simpa [mayR] using hy
          exact bad_hit (by omega) (by rw [List.getElem_take]; exact hy) (fun j hj => by rw [List.getElem_take]; exact g2 j hj (by omega))
        · by_cases e : j = i
          · subst e; simpa [mayR] using hy
          · exact g2 j (by omega) hq
        · rw [w_id (n := (i : Int) + 1) (by omega) (by omega)]; rfl
      · have hx := of_decide_eq_false hx
        obtain ⟨j, hj, rfl⟩ := List.getElem_of_mem hx'
        rw [List.getElem_take]
        exact g2 j (by omega) (by omega)
    · refine hcallG mix gA2 (fn := Try.f19) (by kernel_rfl) (by kernel_rfl) (by kernel_rfl) [n] [oO ob xs] [.sl 0 0 l c, fnA] rfl (uniq1 hb) rfl ⟨hg, trivial⟩ rfl rfl (fun hr ho => (t_indexO I _ l c ob xs).mpr ?_)
      have hlc := rg_lc hr
      have out : ∀ e, badI (xs.take l) = e → AllBack hp [n] K (.int .i64 e) (Tr.ofList 0 [oO ob xs] .leaf) := fun e he => by subst he; exact ⟨[], nx, uniq1 hb, trivial, rfl, rfl, hk⟩
      have hlen : (xs.take l).length = l := by simp; omega
      refine ALoop.invg (ps := []) (ts := [0, 1, 7, 8]) (nx := 1) (fun i : Nat => j_ixO l c ob xs (i : Nat)) (fun i => i ≤ l ∧ ∀ j, (h : j < i) → (hx : j < xs.length) → mayR (xs[j]) = true) (fun i => l - i) ?_ (by kernel_rfl) 0 (by kernel_rfl) ⟨Nat.zero_le _, fun j h => absurd h (Nat.not_lt_zero _)⟩
      rintro i ⟨g1, g2⟩
      refine (t_ixO I _ _ l c ob xs (i : Nat)).mpr (bsplit_both (fun hx => ?_) (fun hx => out _ (bad_none fun x hx' => ?_)))
      · have hx := of_decide_eq_true hx
        refine must_mk (decide_eq_true ⟨by omega, hx⟩) (xget_mk (by rw [Int.toNat_natCast]; exact List.getElem?_eq_getElem (show i < xs.length by omega)) (bsplit_both (fun hy => out _ ?_) (fun hy => ⟨i + 1, ⟨by omega, fun j hj hq => ?_⟩, by omega, ?_⟩)))
        · have hy : mayR (xs[i]'(by omega)) = false := by simpa [mayR] using hy
          exact bad_hit (by omega) (by rw [List.getElem_take]; exact hy) (fun j hj => by rw [List.getElem_take]; exact g2 j hj (by omega))
        · by_cases e : j = i
          · subst e; simpa [mayR] using hy
          · exact g2 j (by omega) hq
        · rw [w_id (n := (i : Int) + 1) (by omega) (by omega)]; rfl
      · have hx := of_decide_eq_false hx
        obtain ⟨j, hj, rfl⟩ := List.getElem_of_mem hx'
        rw [List.getElem_take]
        exact g2 j (by omega) (by omega)
  · exact h.elim
theorem gA3 : GOk I P (Gm A3) := Gm.consH gA2 k_index
theorem k_contains : ∀ (args : List AV) (hp : Tr (AO O)) (nx : Nat) (K : AV → Tr (AO O) → Nat → Prop), c_contains args hp nx K → ACall I P 13 args hp (fun v hp' => ∃ nx', K v hp' nx') := by
  intro args hp nx K h
  unfold c_contains at h; split at h
  · rename_i v
    rcases slC_spec h with ⟨rfl, hk⟩ | ⟨n, l, c, rfl, hb, ⟨xs, room, hg, hl, hk⟩ | ⟨ob, xs, hg, hl, hk⟩⟩
    · exact hcallG mix gA3 (fn := Try.f13) (by kernel_rfl) (by kernel_rfl) (by kernel_rfl) [] [] [.nils, fnA] rfl rfl rfl trivial rfl rfl (fun hr ho => (t_containsN I _).mpr ⟨[], nx, rfl, trivial, rfl, rfl, hk⟩)
    · exact hcallG mix gA3 (fn := Try.f13) (by kernel_rfl) (by kernel_rfl) (by kernel_rfl) [n] [cO xs room] [.sl 0 0 l c, fnA] rfl (uniq1 hb) rfl ⟨hg, trivial⟩ rfl rfl (fun hr ho => (t_containsR I _ l c room xs).mpr ⟨hl, ⟨[], nx, uniq1 hb, trivial, rfl, rfl, hk⟩⟩)
    · exact hcallG mix gA3 (fn := Try.f13) (by kernel_rfl) (by kernel_rfl) (by kernel_rfl) [n] [oO ob xs] [.sl 0 0 l c, fnA] rfl (uniq1 hb) rfl ⟨hg, trivial⟩ rfl rfl (fun hr ho => (t_containsO I _ l c ob xs).mpr ⟨hl, ⟨[], nx, uniq1 hb, trivial, rfl, rfl, hk⟩⟩)
  · exact h.elim
theorem last_step {xs : List Rw} {i : Nat} (hi : i < xs.length) : lastF (xs.take (i + 1)) = lastS (lastF (xs.take i)) (xs[i]) := by
  unfold lastF
  rw [List.take_succ_eq_append_getElem hi, List.foldl_append]; rfl
theorem k_last : ∀ (args : List AV) (hp : Tr (AO O)) (nx : Nat) (K : AV → Tr (AO O) → Nat → Prop), c_last args hp nx K → ACall I P 15 args hp (fun v hp' => ∃ nx', K v hp' nx') := by
  intro args hp nx K h
  unfold c_last at h; split at h
  · rename_i v
    rcases slC_spec h with ⟨rfl, hk⟩ | ⟨n, l, c, rfl, hb, ⟨xs, room, hg, hl, hk⟩ | ⟨ob, xs, hg, hl, hk⟩⟩ <;> split at hk
    · rename_i hnb hfr
      refine hcallG mix Gm.nil (fn := Try.f15) (by kernel_rfl) (by kernel_rfl) (by kernel_rfl) [] [] [.nils] rfl rfl rfl trivial rfl rfl (fun hr ho => (t_lastN I _).mpr ?_)
      refine ALoop.start [(0, 0)] [3, 7, 8, 9] 1 j_laN (by kernel_rfl) (by kernel_rfl) ?_
      refine ALoop.stepg [(0, 0)] [3, 7, 8, 9] 1 ?_
      exact (t_laN I _ _).mpr ⟨[(0, nx)], nx + 1, uniq1 hnb, ⟨hfr, trivial⟩, rfl, rfl, hk⟩
    · exact hk.elim
    · rename_i hnb hfr
      refine hcallG mix Gm.nil (fn := Try.f15) (by kernel_rfl) (by kernel_rfl) (by kernel_rfl) [n] [cO xs room] [.sl 0 0 l c] rfl (uniq1 hb) rfl ⟨hg, trivial⟩ rfl rfl (fun hr ho => (t_lastR I _ l c room xs).mpr ?_)
      have hlc := rg_lc hr
      refine ALoop.invg (ps := [(1, 1)]) (ts := [3, 7, 8, 9]) (nx := 2) (fun i : Nat => j_laR l c room xs (lastF (xs.take i)).1 (lastF (xs.take i)).2 (i : Nat)) (fun i => i ≤ l) (fun i => l - i) ?_ (by kernel_rfl) 0 (by kernel_rfl) (Nat.zero_le _)
      intro i hi
      refine (t_laR I _ _ l c room xs _ _ (i : Nat)).mpr (bsplit_both (fun hx => ?_) (fun hx => ?_))
      · have hx := of_decide_eq_true hx
        refine must_mk (decide_eq_true ⟨by omega, hx⟩) (xget_mk (by rw [Int.toNat_natCast]; exact List.getElem?_eq_getElem (show i < xs.length by omega)) ⟨i + 1, by omega, by omega, ?_⟩)
        rw [w_id (n := (i : Int) + 1) (by omega) (by omega)]
        show _ = j_laR l c room xs (lastF (xs.take (i + 1))).1 (lastF (xs.take (i + 1))).2 ((i + 1 : Nat) : Int)
        rw [last_step (show i < xs.length by omega)]; rfl
      · have hx := of_decide_eq_false hx
        have : i = l := by omega
        subst this
        exact ⟨[(1, nx)], nx + 1, uniq2n (uniq1 hb) hfr hnb (by rw [hg]; simp) rfl, ⟨hfr, trivial⟩, rfl, rfl, hk⟩
    · exact hk.elim
    · rename_i hnb hfr
      refine hcallG mix Gm.nil (fn := Try.f15) (by kernel_rfl) (by kernel_rfl) (by kernel_rfl) [n] [oO ob xs] [.sl 0 0 l c] rfl (uniq1 hb) rfl ⟨hg, trivial⟩ rfl rfl (fun hr ho => (t_lastO I _ l c ob xs).mpr ?_)
      have hlc := rg_lc hr
      refine ALoop.invg (ps := [(1, 1)]) (ts := [3, 7, 8, 9]) (nx := 2) (fun i : Nat => j_laO l c ob xs (lastF (xs.take i)).1 (lastF (xs.take i)).2 (i : Nat)) (fun i => i ≤ l) (fun i => l - i) ?_ (by kernel_rfl) 0 (by kernel_rfl) (Nat.zero_le _)
      intro i hi
      refine (t_laO I _ _ l c ob xs _ _ (i : Nat)).mpr (bsplit_both (fun hx => ?_) (fun hx => ?_))
      · have hx := of_decide_eq_true hx
        refine must_mk (decide_eq_true ⟨by omega, hx⟩) (xget_mk (by rw [Int.toNat_natCast]; exact List.getElem?_eq_getElem (show i < xs.length by omega)) ⟨i + 1, by omega, by omega, ?_⟩)
        rw [w_id (n := (i : Int) + 1) (by omega) (by omega)]
        show _ = j_laO l c ob xs (lastF (xs.take (i + 1))).1 (lastF (xs.take (i + 1))).2 ((i + 1 : Nat) : Int)
        rw [last_step (show i < xs.length by omega)]; rfl
      · have hx := of_decide_eq_false hx
        have : i = l := by omega
        subst this
        exact ⟨[(1, nx)], nx + 1, uniq2n (uniq1 hb) hfr hnb (by rw [hg]; simp) rfl, ⟨hfr, trivial⟩, rfl, rfl, hk⟩
    · exact hk.elim
  · exact h.elim
theorem gA4 : GOk I P (Gm A4) := Gm.consH (Gm.consH Gm.nil k_last) k_contains
end Go.Tb.W
