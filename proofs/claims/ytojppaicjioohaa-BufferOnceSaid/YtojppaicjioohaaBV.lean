/- Buffers: the laws' helpers, and awake, proved. -/
import Derived.Test.YtojppaicjioohaaB6
import Derived.Test.YtojppaicjioohaaBU
set_option linter.all false
set_option maxRecDepth 100000
namespace Go.Tb.W
open Go Go.Proofs
variable {I : Interp O}
theorem both_iff {n m : Nat} (h : both n m = true) : uniq (pairs 0 [n, m]) = true ∧ Nat.blt n 16777215 = true ∧ Nat.blt m 16777215 = true ∧ n ≠ m := by
  simp only [both, Bool.and_eq_true, Bool.not_eq_true'] at h
  obtain ⟨h1, h2, h3⟩ := h
  have hne := Nat.ne_of_beq_eq_false h3
  refine ⟨?_, h1, h2, hne⟩
  have : Nat.beq m n = false := by
    cases hb : Nat.beq m n with
    | false => rfl
    | true => exact absurd (Nat.eq_of_beq_eq_true hb).symm hne
  simp [pairs, uniq, lk, lkr, h1, h2, this, h3]
theorem k_large : ∀ (args : List AV) (K : AV → Prop), c_large args K → ∀ hp, ACall I P 13 args hp (fun v hp' => K v ∧ hp' = hp) := by
  intro args K h hp
  unfold c_large at h; split at h
  · rename_i a b t
    exact pcall mix Gm.nil (fn := Try.f13) (by kernel_rfl) (by kernel_rfl) (by kernel_rfl) rfl rfl (fun hr => (t_large I _ a b t).mpr ⟨h, rfl⟩) hp
  · exact h.elim
theorem strs_get {xs : List Rw} {l i : Nat} (hi : i < l) (hl : l ≤ xs.length) : (strsOf xs l)[i]? = some (xs[i].s 0) := by
  unfold strsOf
  rw [List.getElem?_map, List.getElem?_take, if_pos hi, List.getElem?_eq_getElem (by omega)]; rfl
theorem strs_rowT (l : List ByteArray) : strsOf (l.map rowT) l.length = l := by
  unfold strsOf
  rw [List.take_of_length_le (by simp), List.map_map]
  exact (List.map_congr_left (fun x _ => rfl)).trans (List.map_id l)
theorem k_texts : ∀ (args : List AV) (hp : Tr (AO O)) (nx : Nat) (K : AV → Tr (AO O) → Nat → Prop), c_texts args hp nx K → ACall I P 16 args hp (fun v hp' => ∃ nx', K v hp' nx') := by
  intro args hp nx K h
  unfold c_texts at h; split at h
  · refine (pcall mix Gm.nil (fn := Try.f16) (by kernel_rfl) (by kernel_rfl) (by kernel_rfl) (args := [.nils, .nils]) (K := fun v => K v hp nx) rfl rfl (fun hr => (t_tx00 I _).mpr ?_) hp).mono fun v hp' hh => ⟨nx, hh.2 ▸ hh.1⟩
    refine ALoop.start [] [0, 1, 12, 13] 0 j_tx00 (by kernel_rfl) (by kernel_rfl) ?_
    refine ALoop.stepg [] [0, 1, 12, 13] 0 ?_
    exact (t_ltx00 I _ _).mpr ⟨h, rfl⟩
  · rename_i k l c
    split at h
    · rename_i xs room hb hg
      obtain ⟨rfl, h⟩ := h
      refine hrows mix Gm.nil (fn := Try.f16) (by kernel_rfl) (by kernel_rfl) (by kernel_rfl) [k] [sO xs room] [.nils, .sl 0 0 0 c] (nx := nx) rfl (uniq1 hb) rfl ⟨hg, trivial⟩ rfl rfl (fun hr ho => (t_tx01 I _ 0 c room xs).mpr (bs_f rfl ?_))
      refine ALoop.start [] [0, 1, 12, 13] 1 (j_tx01 0 c room xs) (by kernel_rfl) (by kernel_rfl) ?_
      refine ALoop.stepg [] [0, 1, 12, 13] 1 ?_
      exact (t_ltx01 I _ _ 0 c room xs).mpr ⟨⟨rfl, trivial⟩, .inl ⟨rfl, h⟩⟩
    · exact h.elim
  · rename_i m k d
    split at h
    · rename_i ys room hb hg
      obtain ⟨rfl, h⟩ := h
      refine hrows mix Gm.nil (fn := Try.f16) (by kernel_rfl) (by kernel_rfl) (by kernel_rfl) [m] [sO ys room] [.sl 0 0 0 d, .nils] (nx := nx) rfl (uniq1 hb) rfl ⟨hg, trivial⟩ rfl rfl (fun hr ho => (t_tx10 I _ 0 d room ys).mpr (bs_f rfl ?_))
      refine ALoop.start [] [0, 1, 12, 13] 1 (j_tx10 d room ys) (by kernel_rfl) (by kernel_rfl) ?_
      refine ALoop.stepg [] [0, 1, 12, 13] 1 ?_
      exact (t_ltx10 I _ _ d room ys).mpr ⟨⟨rfl, trivial⟩, .inl ⟨rfl, h⟩⟩
    · exact h.elim
  · rename_i m k d n l c
    split at h
    · rename_i ys r1 xs r2 hb hg hg2
      obtain ⟨⟨h1, h2, h3⟩, h⟩ := h
      obtain ⟨hu, _⟩ := both_iff hb
      have hkl : k = l := by
        have := congrArg List.length h3
        simp only [List.length_map, List.length_take] at this
        omega
      subst hkl
      refine hrows mix Gm.nil (fn := Try.f16) (by kernel_rfl) (by kernel_rfl) (by kernel_rfl) [m, n] [sO ys r1, sO xs r2] [.sl 0 0 k d, .sl 1 0 k c] (nx := nx) rfl hu rfl ⟨hg, hg2, trivial⟩ rfl rfl (fun hr ho => (t_tx11 I _ k d k c r1 r2 ys xs).mpr (bs_f (by simp) ?_))
      have hk : k ≤ 9223372036854775807 := by
        simp only [rgs, rg, Bool.and_eq_true, Nat.ble_eq] at hr
        omega
      refine ALoop.invg (ps := []) (ts := [0, 1, 12, 13]) (nx := 2) (fun i : Nat => j_tx11 k d k c r1 r2 ys xs (i : Nat)) (fun i => i ≤ k) (fun i => k - i) ?_ (by kernel_rfl) 0 (by kernel_rfl) (Nat.zero_le _)
      intro i hi
      refine (t_ltx11 I _ _ k d k c r1 r2 ys xs (i : Nat)).mpr (bsplit_both (fun hx => ?_) (fun hx => ⟨⟨rfl, rfl, trivial⟩, .inl ⟨rfl, h⟩⟩))
      have hx := of_decide_eq_true hx
      have hik : i < k := by omega
      have hb' : decide ((0 : Int) ≤ (i : Int) ∧ (i : Int) < (k : Int)) = true := decide_eq_true ⟨by omega, hx⟩
      have heq : ys[i].s 0 = xs[i].s 0 := by
        have e1 := strs_get hik h1
        have e2 := strs_get hik h2
        rw [h3, e2] at e1
        exact (Option.some.inj e1).symm
      refine must_mk hb' (must_mk hb' (xget_mk (by rw [Int.toNat_natCast]; exact List.getElem?_eq_getElem (show i < ys.length by omega)) (xget_mk (by rw [Int.toNat_natCast]; exact List.getElem?_eq_getElem (show i < xs.length by omega)) (bs_f ?_ ⟨i + 1, hik, by omega, ?_⟩))))
      · rw [heq]; simp
      · rw [w_id (n := (i : Int) + 1) (by omega) (by omega)]; rfl
    · rename_i ys r1 t hb hg hg2
      obtain ⟨⟨rfl, rfl, h3⟩, h⟩ := h
      obtain ⟨hu, _⟩ := both_iff hb
      refine hcallK mix Gm.nil (fn := Try.f16) (by kernel_rfl) (by kernel_rfl) (by kernel_rfl) [m, n] [sO ys r1, strO t] [.sl 0 0 1 d, .sl 1 0 1 c] (fun v lh => v = .bool true ∧ lh.get 0 = some (sO ys r1) ∧ lh.get 1 = some (strO t)) rfl hu rfl ⟨hg, hg2, trivial⟩ rfl rfl (fun hr ho => (t_tx1c I _ 1 d 1 c r1 ys t).mpr (bs_f (by simp) ?_)) ?_
      · cases ys with
        | nil => cases h3
        | cons y ys =>
          have hy : y.s 0 = t := (List.cons.inj h3).1
          refine ALoop.start [] [0, 1, 12, 13] 2 (j_tx1c d c r1 (y :: ys) t 0) (by kernel_rfl) (by kernel_rfl) ?_
          refine ALoop.stepg [] [0, 1, 12, 13] 2 ?_
          refine (t_ltx1c I _ _ d c r1 (y :: ys) t).mpr (xget_mk rfl (bs_f (by rw [hy]; simp) ?_))
          refine ALoop.stepg (s := j_tx1c d c r1 (y :: ys) t 1) [] [0, 1, 12, 13] 2 ?_
          exact (t_ltx1d I _ _ d c r1 (y :: ys) t).mpr ⟨rfl, rfl, rfl⟩
      · rintro v lh ⟨rfl, h0, h1⟩
        refine ⟨[], [], hu, trivial, rfl, fun j g hj => (by cases hj), ⟨?_, ?_, trivial⟩, ?_, rfl, ⟨nx, h⟩⟩
        · show hp.get m = (lh.get 0).map _; rw [hg, h0]; rfl
        · show hp.get n = (lh.get 1).map _; rw [hg2, h1]; rfl
        · simp [pairs, nmAll, h0, h1, nmO, nms, nm]
    · exact h.elim
  · exact h.elim
variable (hI : I.R = pk.R)
include hI
theorem k_awake : ∀ (args : List AV) (K : AV → Prop), c_awake args K → ∀ hp, ACall I P 10 args hp (fun v hp' => K v ∧ hp' = hp) := by
  intro args K h hp
  unfold c_awake at h; split at h
  · refine pcall mix (gB1 hI) (fn := Try.f10) (by kernel_rfl) (by kernel_rfl) (by kernel_rfl) rfl rfl (fun hr => ?_) hp
    refine (t_awake I (fun v _ _ => K v ∧ cl v = true)).mpr ⟨fun h => absurd h (by decide), fun _ _ => ⟨fun _ => ⟨by decide +kernel, by decide +kernel, by decide +kernel, by decide +kernel, by decide +kernel, fun hok => ⟨fun e => absurd e (by decide +kernel), fun _ c rm => ⟨fun e => absurd e (by decide +kernel), fun _ c' rm' => ⟨by decide +kernel, by decide +kernel, fun _ => ⟨h, rfl⟩, fun e => absurd e (by decide +kernel)⟩⟩⟩⟩, fun h => absurd h (by decide)⟩⟩
  · exact h.elim
theorem gB2 : GOk I P (Gm B2) := Gm.consP (Gm.consP (Gm.consH (gB1 hI) k_texts) k_large) (k_awake hI)
omit hI in
theorem isB_mono {hp : Tr (AO O)} {n : Nat} {K K' : Bf → Prop} (h : isB hp n K) (hk : ∀ s, K s → K' s) : isB hp n K' := by
  unfold isB at *
  split at h
  · exact hk _ h
  · exact h.elim
theorem q_newK : ∀ (args : List AV) (hp : Tr (AO O)) (nx : Nat) (K : AV → Tr (AO O) → Nat → Prop), q_new args hp nx K → ACall I P 11 args hp (fun v hp' => ∃ nx', K v hp' nx') := by
  intro args hp nx K h
  refine k_new hI args hp nx K ?_
  unfold q_new at h; split at h
  · split at h
    · rename_i h1 h2
      simp only [c_new, h1, h2]
      exact ⟨h.1, fun hb => h.2 hb _ rfl⟩
    · exact h.elim
  · exact h.elim
theorem q_putK : ∀ (args : List AV) (hp : Tr (AO O)) (nx : Nat) (K : AV → Tr (AO O) → Nat → Prop), q_put args hp nx K → ACall I P 14 args hp (fun v hp' => ∃ nx', K v hp' nx') := by
  intro args hp nx K h
  refine k_put hI args hp nx K ?_
  unfold q_put at h; split at h
  · exact isB_mono h fun s hs => ⟨hs.1, hs.2 _ _ rfl rfl⟩
  · exact h.elim
theorem q_dropK : ∀ (args : List AV) (hp : Tr (AO O)) (nx : Nat) (K : AV → Tr (AO O) → Nat → Prop), q_drop args hp nx K → ACall I P 19 args hp (fun v hp' => ∃ nx', K v hp' nx') := by
  intro args hp nx K h
  refine k_drop hI args hp nx K ?_
  unfold q_drop at h; split at h
  · exact isB_mono h fun s hs => hs _ _ rfl rfl
  · exact h.elim
theorem q_hasK : ∀ (args : List AV) (hp : Tr (AO O)) (nx : Nat) (K : AV → Tr (AO O) → Nat → Prop), q_has args hp nx K → ACall I P 25 args hp (fun v hp' => ∃ nx', K v hp' nx') := by
  intro args hp nx K h
  refine k_has hI args hp nx K ?_
  unfold q_has at h; split at h
  · exact isB_mono h fun s hs => hs _ rfl
  · exact h.elim
theorem q_takeK : ∀ (args : List AV) (hp : Tr (AO O)) (nx : Nat) (K : AV → Tr (AO O) → Nat → Prop), q_take args hp nx K → ACall I P 17 args hp (fun v hp' => ∃ nx', K v hp' nx') := by
  intro args hp nx K h
  refine k_take hI args hp nx K ?_
  unfold q_take at h; split at h
  · refine isB_mono h fun s hs => ?_
    split at hs
    · rename_i e1 e2
      simp only [e1, e2]
      exact hs _ _ rfl rfl
    · exact hs.elim
  · exact h.elim
theorem q_ivsK : ∀ (args : List AV) (hp : Tr (AO O)) (nx : Nat) (K : AV → Tr (AO O) → Nat → Prop), q_ivs args hp nx K → ACall I P 21 args hp (fun v hp' => ∃ nx', K v hp' nx') := by
  intro args hp nx K h
  refine k_ivs hI args hp nx K ?_
  unfold q_ivs at h; split at h
  · refine isB_mono h fun s hs => ?_
    split at hs
    · rename_i e1 e2
      simp only [e1, e2]
      intro hok
      obtain ⟨h1, h2⟩ := hs hok _ rfl
      have hl : (srt (keysOf s.th)).length = (keysOf s.th).length := List.length_mergeSort _
      refine ⟨fun e => h1 (List.eq_nil_of_length_eq_zero (by rw [hl, e]; rfl)), fun h0 c room => ?_⟩
      have := h2 (by rw [hl]; exact h0) c room
      rw [hl] at this
      exact this
    · exact hs.elim
  · exact h.elim
theorem gQ2 : GOk I P (Gm Q2) := Gm.consP (Gm.consP (Gm.consH (Gm.consH (Gm.consH (Gm.consH (Gm.consH (Gm.consH (Gm.consH (Gm.consH (Gm.consH Gm.nil (q_ivsK hI)) (q_takeK hI)) (q_hasK hI)) (k_dropped hI)) (k_size hI)) (q_dropK hI)) (q_putK hI)) (q_newK hI)) k_texts) k_large) (k_awake hI)
end Go.Tb.W
