/- Queues: the functions of a line, proved. -/
import Derived.Test.YtcabackgkjhmeaaQ2
import Derived.Test.YtcabackgkjhmeaaQ3
set_option linter.all false
set_option maxRecDepth 100000
namespace Go.Tb.W
open Go Go.Proofs
variable {I : Interp O}
theorem mix : P.follows .mixedOrders = true := by kernel_rfl
theorem k_nan64 : ∀ (args : List AV) (K : AV → Prop), c_nan args K → ∀ hp, ACall I P 51 args hp (fun v hp' => K v ∧ hp' = hp) := by
  intro args K h hp
  unfold c_nan at h; split at h
  · rename_i a
    refine pcall mix Gm.nil (fn := Try.f51) (by kernel_rfl) (by kernel_rfl) (by kernel_rfl) rfl rfl (fun hr => ?_) hp
    refine (t_nan64 I (fun v => K v ∧ cl v = true) a).mpr ⟨?_, rfl⟩
    rw [bne_self_eq_false]; exact h
  · exact h.elim
theorem k_nan : ∀ (args : List AV) (K : AV → Prop), c_nan args K → ∀ hp, ACall I P 52 args hp (fun v hp' => K v ∧ hp' = hp) := by
  intro args K h hp
  unfold c_nan at h; split at h
  · rename_i a
    refine pcall mix Gm.nil (fn := Try.f52) (by kernel_rfl) (by kernel_rfl) (by kernel_rfl) rfl rfl (fun hr => ?_) hp
    refine (t_nan I (fun v => K v ∧ cl v = true) a).mpr ⟨?_, rfl⟩
    rw [bne_self_eq_false]; exact h
  · exact h.elim
theorem gA0 : GOk I P (Gm A0) := Gm.consP (Gm.consP Gm.nil k_nan) k_nan64
theorem k_cmp64 : ∀ (args : List AV) (K : AV → Prop), c_cmp args K → ∀ hp, ACall I P 49 args hp (fun v hp' => K v ∧ hp' = hp) := by
  intro args K h hp
  unfold c_cmp at h; split at h
  · rename_i a b
    refine pcall mix gA0 (fn := Try.f49) (by kernel_rfl) (by kernel_rfl) (by kernel_rfl) rfl rfl (fun hr => ?_) hp
    refine (t_cmp64 I (fun v => K v ∧ cl v = true) a b).mpr ?_
    refine bsplit_both (fun hx => ⟨?_, rfl⟩) (fun hx => bsplit_both (fun hy => ⟨?_, rfl⟩) (fun hy => ⟨?_, rfl⟩))
    · have hx := of_decide_eq_true hx
      rw [cmpI, if_pos hx] at h; exact h
    · have hx := of_decide_eq_false hx; have hy := of_decide_eq_true hy
      rw [cmpI, if_neg hx, if_pos hy] at h; exact h
    · have hx := of_decide_eq_false hx; have hy := of_decide_eq_false hy
      rw [cmpI, if_neg hx, if_neg hy] at h; exact h
  · exact h.elim
theorem k_cmpi : ∀ (args : List AV) (K : AV → Prop), c_cmp args K → ∀ hp, ACall I P 50 args hp (fun v hp' => K v ∧ hp' = hp) := by
  intro args K h hp
  unfold c_cmp at h; split at h
  · rename_i a b
    refine pcall mix gA0 (fn := Try.f50) (by kernel_rfl) (by kernel_rfl) (by kernel_rfl) rfl rfl (fun hr => ?_) hp
    refine (t_cmpi I (fun v => K v ∧ cl v = true) a b).mpr ?_
    refine bsplit_both (fun hx => ⟨?_, rfl⟩) (fun hx => bsplit_both (fun hy => ⟨?_, rfl⟩) (fun hy => ⟨?_, rfl⟩))
    · have hx := of_decide_eq_true hx
      rw [cmpI, if_pos hx] at h; exact h
    · have hx := of_decide_eq_false hx; have hy := of_decide_eq_true hy
      rw [cmpI, if_neg hx, if_pos hy] at h; exact h
    · have hx := of_decide_eq_false hx; have hy := of_decide_eq_false hy
      rw [cmpI, if_neg hx, if_neg hy] at h; exact h
  · exact h.elim
theorem k_or : ∀ (args : List AV) (hp : Tr (AO O)) (nx : Nat) (K : AV → Tr (AO O) → Nat → Prop), c_or args hp nx K → ACall I P 48 args hp (fun v hp' => ∃ nx', K v hp' nx') := by
  intro args hp nx K h
  unfold c_or at h; split at h
  · rename_i n
    split at h
    · rename_i a b hb hg
      refine hcall1g mix gA0 (fn := Try.f48) (by kernel_rfl) (by kernel_rfl) (by kernel_rfl) (fun n => .sl n 0 2 2) (fun _ => rfl) (fun _ h => h) (n := n) (nx := nx) rfl hb hg rfl rfl (fun _ _ => ?_)
      refine (t_or I _ a b).mpr ?_
      refine ALoop.start [] [3, 6, 7, 8] 1 (j_or a b 0) (by kernel_rfl) (by kernel_rfl) ?_
      refine ALoop.stepg [] [3, 6, 7, 8] 1 ?_
      refine (t_or0 I _ _ a b).mpr (bsplit_both (fun hx => ⟨rfl, .inl ⟨rfl, ?_⟩⟩) (fun hx => ?_))
      · have hx : a ≠ 0 := by simpa using hx
        rw [orI, if_neg hx] at h; exact h
      · have hx : a = 0 := by simpa using hx
        rw [orI, if_pos hx] at h
        refine ALoop.stepg (s := j_or a b 1) [] [3, 6, 7, 8] 1 ?_
        refine (t_or1 I _ _ a b).mpr (bsplit_both (fun hy => ⟨rfl, .inl ⟨rfl, h⟩⟩) (fun hy => ?_))
        have hy : b = 0 := by simpa using hy
        subst hy
        refine ALoop.stepg (s := j_or a 0 2) [] [3, 6, 7, 8] 1 ?_
        exact (t_or2 I _ _ a 0).mpr ⟨rfl, .inl ⟨rfl, h⟩⟩
    · exact h.elim
  · exact h.elim
theorem gA1 : GOk I P (Gm A1) := Gm.consP (Gm.consP (Gm.consH Gm.nil k_or) k_cmpi) k_cmp64
theorem k_llen : ∀ (args : List AV) (hp : Tr (AO O)) (nx : Nat) (K : AV → Tr (AO O) → Nat → Prop), c_len args hp nx K → ACall I P 45 args hp (fun v hp' => ∃ nx', K v hp' nx') := by
  intro args hp nx K h
  unfold c_len at h; split at h
  · rename_i n l c
    split at h
    · rename_i xs room hb hg
      exact hrows mix gA1 (fn := Try.f45) (by kernel_rfl) (by kernel_rfl) (by kernel_rfl) [n] [eO xs room] [.sl 0 0 l c] (nx := nx) rfl (uniq1 hb) rfl ⟨hg, trivial⟩ rfl rfl (fun hr ho => (t_llen I _ l c room xs).mpr ⟨⟨rfl, trivial⟩, .inl ⟨rfl, h⟩⟩)
    · exact h.elim
  · exact (pcall mix gA1 (fn := Try.f45) (by kernel_rfl) (by kernel_rfl) (by kernel_rfl) (args := [.nils]) (K := fun v => K v hp nx) rfl rfl (fun hr => (t_llen0 I _).mpr ⟨h, rfl⟩) hp).mono fun v hp' hh => ⟨nx, hh.2 ▸ hh.1⟩
  · exact h.elim
theorem inL_iff {i : Int} {l : Nat} : inL i l = true ↔ 0 ≤ i ∧ i < (l : Int) := by simp [inL]
theorem k_lless : ∀ (args : List AV) (hp : Tr (AO O)) (nx : Nat) (K : AV → Tr (AO O) → Nat → Prop), c_less args hp nx K → ACall I P 46 args hp (fun v hp' => ∃ nx', K v hp' nx') := by
  intro args hp nx K h
  unfold c_less at h; split at h
  · rename_i n l c i k
    split at h
    · rename_i xs room hb hg
      obtain ⟨hik, h⟩ := must_spec h
      simp only [Bool.and_eq_true, inL_iff] at hik
      obtain ⟨x, hx, h⟩ := xget_spec h
      obtain ⟨y, hy, h⟩ := xget_spec h
      refine hrows mix gA1 (fn := Try.f46) (by kernel_rfl) (by kernel_rfl) (by kernel_rfl) [n] [eO xs room] [.sl 0 0 l c, .int .i64 i, .int .i64 k] (nx := nx) rfl (uniq1 hb) rfl ⟨hg, trivial⟩ rfl rfl (fun hr ho => (t_lless I _ l c room xs i k).mpr ?_)
      have d1 := decide_eq_true hik.1
      have d2 := decide_eq_true hik.2
      exact must_mk d1 (must_mk d2 (must_mk d1 (must_mk d2 (xget_mk hx (xget_mk hy (xget_mk hx (xget_mk hy ⟨⟨rfl, trivial⟩, .inl ⟨rfl, h⟩⟩)))))))
    · exact h.elim
  · exact h.elim
theorem k_lswap : ∀ (args : List AV) (hp : Tr (AO O)) (nx : Nat) (K : AV → Tr (AO O) → Nat → Prop), c_swap args hp nx K → ACall I P 47 args hp (fun v hp' => ∃ nx', K v hp' nx') := by
  intro args hp nx K h
  unfold c_swap at h; split at h
  · rename_i n l c i k
    split at h
    · rename_i xs room hb hg
      obtain ⟨hl, h⟩ := h
      obtain ⟨hik, h⟩ := must_spec h
      simp only [Bool.and_eq_true, inL_iff] at hik
      have gi : i.toNat < xs.length := by omega
      have gk : k.toNat < xs.length := by omega
      have hx := List.getElem?_eq_getElem gi
      have hy := List.getElem?_eq_getElem gk
      refine hcallG mix gA1 (fn := Try.f47) (by kernel_rfl) (by kernel_rfl) (by kernel_rfl) [n] [eO xs room] [.sl 0 0 l c, .int .i64 i, .int .i64 k] rfl (uniq1 hb) rfl ⟨hg, trivial⟩ rfl rfl (fun hr ho => (t_lswap I _ l c room xs i k).mpr ?_)
      have d1 := decide_eq_true hik.1
      have d2 := decide_eq_true hik.2
      have e : swapL xs i.toNat k.toNat = (xs.set i.toNat (nE xs[k.toNat])).set k.toNat (nE xs[i.toNat]) := by unfold swapL; rw [hx, hy]
      rw [e] at h
      refine must_mk d2 (must_mk d1 (xget_mk hy (xget_mk hx (must_mk d1 (xget_mk hx (must_mk d2 (xget_mk (List.getElem?_eq_getElem (by simpa using gk)) ?_)))))))
      exact ⟨[], nx, uniq1 hb, trivial, rfl, rfl, h⟩
    · exact h.elim
  · exact h.elim
theorem both_iff {n m : Nat} (h : both n m = true) : uniq (pairs 0 [n, m]) = true ∧ Nat.blt n 16777215 = true ∧ Nat.blt m 16777215 = true ∧ n ≠ m := by
  simp only [both, Bool.and_eq_true, Bool.not_eq_true'] at h
  obtain ⟨h1, h2, h3⟩ := h
  have hne := Nat.ne_of_beq_eq_false h3
  refine ⟨?_, h1, h2, hne⟩
  have : Nat.beq m n = false := by
    cases hb : Nat.beq m n with
    | false => rfl
    | true => exact absurd (Nat.eq_of_beq_eq_true hb).symm hne
  simp [pairs, uniq, h1, h2, lk, lkr, this]
theorem k_lpop : ∀ (args : List AV) (hp : Tr (AO O)) (nx : Nat) (K : AV → Tr (AO O) → Nat → Prop), c_lpop args hp nx K → ACall I P 53 args hp (fun v hp' => ∃ nx', K v hp' nx') := by
  intro args hp nx K h
  unfold c_lpop at h; split at h
  · rename_i n
    split at h
    · rename_i m l c sq hg
      split at h
      · rename_i xs room hb hg2
        obtain ⟨⟨h1, h2⟩, h⟩ := h
        obtain ⟨hu, _⟩ := both_iff hb
        refine hcallG mix gA1 (fn := Try.f53) (by kernel_rfl) (by kernel_rfl) (by kernel_rfl) [n, m] [qO (.sl 1 0 l c) sq, eO xs room] [.ptr 0 0] rfl hu rfl ⟨hg, hg2, trivial⟩ rfl rfl (fun hr ho => (t_lpop I _ l c room xs sq).mpr ?_)
        have hr := ho.1.1
        simp only [rgs, rg, Bool.and_eq_true, decide_eq_true_eq] at hr
        have hlc : l ≤ c ∧ c ≤ 9223372036854775807 := by
          have := hr.1; simp [blt_iff, Nat.ble_eq] at this; omega
        have e : IntKind.i64.wrap ((l : Int) - 1) = ((l - 1 : Nat) : Int) := by rw [w_i64]; omega
        rw [e]
        have e2 : (((l - 1 : Nat) : Int)).toNat = l - 1 := by omega
        rw [e2]
        refine must_mk (by simp; omega) (xget_mk (List.getElem?_eq_getElem (by omega)) (must_mk (by simp; omega) ?_))
        exact ⟨[], nx, hu, trivial, rfl, rfl, h _ _ _ _⟩
      · exact h.elim
    · exact h.elim
  · exact h.elim
theorem uniq3 {hp : Tr (AO O)} {n m nx j : Nat} (hu : uniq (pairs 0 [n, m]) = true) (hn : hp.get nx = none) (hb : Nat.blt nx 16777215 = true) (h1 : hp.get n ≠ none) (h2 : hp.get m ≠ none) (hj : lk (pairs 0 [n, m]) j = none) : uniq (pairs 0 [n, m] ++ [(j, nx)]) = true :=
  uniq_new hn hb hu hj fun p hp' => by
    simp [pairs] at hp'
    rcases hp' with rfl | rfl
    · exact h1
    · exact h2
theorem uniq2n {hp : Tr (AO O)} {n nx j : Nat} (hu : uniq (pairs 0 [n]) = true) (hn : hp.get nx = none) (hb : Nat.blt nx 16777215 = true) (h1 : hp.get n ≠ none) (hj : lk (pairs 0 [n]) j = none) : uniq (pairs 0 [n] ++ [(j, nx)]) = true :=
  uniq_new hn hb hu hj fun p hp' => by
    simp [pairs] at hp'
    rcases hp' with rfl
    exact h1
theorem k_lpush : ∀ (args : List AV) (hp : Tr (AO O)) (nx : Nat) (K : AV → Tr (AO O) → Nat → Prop), c_lpush args hp nx K → ACall I P 54 args hp (fun v hp' => ∃ nx', K v hp' nx') := by
  intro args hp nx K h
  unfold c_lpush at h; split at h
  · rename_i n a b s d
    split at h
    · rename_i m l c sq hg hfr hnb
      split at h
      · rename_i xs room hb hg2
        obtain ⟨⟨h1, h2, h3⟩, h⟩ := h
        obtain ⟨hu, _⟩ := both_iff hb
        refine hcallG mix gA1 (fn := Try.f54) (by kernel_rfl) (by kernel_rfl) (by kernel_rfl) [n, m] [qO (.sl 1 0 l c) sq, eO xs room] [.ptr 0 0, .iface 66 (.agg [.int .i64 a, .int .i64 b, .str s, .int .i64 d])] rfl hu rfl ⟨hg, hg2, trivial⟩ rfl rfl (fun hr ho => (t_lpush I _ l c room xs sq a b d s).mpr ?_)
        have hm : (l.ble xs.length && (c * [Sh.i IntKind.i64, Sh.i IntKind.i64, Sh.s, Sh.i IntKind.i64].length).ble room && Nat.blt 1 16777215) = true := by
          simp [Nat.ble_eq]; exact ⟨h1, h2⟩
        refine ⟨must_mk hm ⟨by omega, (fun c' h4 h5 => ⟨[(4, nx)], nx + 1, uniq3 hu hfr hnb (by rw [hg]; simp) (by rw [hg2]; simp) rfl, ⟨hfr, trivial⟩, rfl, rfl, h c' h4 h5⟩)⟩, must_mk hm ⟨by omega, (fun c' h4 h5 => ⟨[(4, nx)], nx + 1, uniq3 hu hfr hnb (by rw [hg]; simp) (by rw [hg2]; simp) rfl, ⟨hfr, trivial⟩, rfl, rfl, h c' h4 h5⟩)⟩⟩
      · exact h.elim
    · rename_i sq hg hfr hnb
      split at h
      · rename_i hb
        refine hcallG mix gA1 (fn := Try.f54) (by kernel_rfl) (by kernel_rfl) (by kernel_rfl) [n] [qO .nils sq] [.ptr 0 0, .iface 66 (.agg [.int .i64 a, .int .i64 b, .str s, .int .i64 d])] rfl (uniq1 hb) rfl ⟨hg, trivial⟩ rfl rfl (fun hr ho => (t_lpush0 I _ sq a b d s).mpr ?_)
        refine ⟨⟨by omega, (fun c' h4 h5 => ⟨[(3, nx)], nx + 1, uniq2n (uniq1 hb) hfr hnb (by rw [hg]; simp) rfl, ⟨hfr, trivial⟩, rfl, rfl, h c' h4 h5⟩)⟩, ⟨by omega, (fun c' h4 h5 => ⟨[(3, nx)], nx + 1, uniq2n (uniq1 hb) hfr hnb (by rw [hg]; simp) rfl, ⟨hfr, trivial⟩, rfl, rfl, h c' h4 h5⟩)⟩⟩
      · exact h.elim
    · exact h.elim
  · exact h.elim
theorem gA2 : GOk I P (Gm A2) := Gm.consH (Gm.consH (Gm.consH (Gm.consH (Gm.consH Gm.nil k_lpush) k_lpop) k_lswap) k_lless) k_llen
end Go.Tb.W
