/- Claims: blocks of cells told as rows; the functions, and awake. -/
import Derived.Test.YtnljoapmieepeaaKD
import Derived.Test.YtnljoapmieepeaaKI
import Derived.Test.YtnljoapmieepeaaKJ
set_option linter.all false
set_option maxRecDepth 100000
set_option maxHeartbeats 1000000
namespace Go.Tb
open Go
namespace Tr
variable {α : Type}
theorem setF_same (f : Nat) : ∀ (t : Tr α) (i : Nat) (x y : Option α), setF f (setF f t i x) i y = setF f t i y := by
  induction f with
  | zero => intros; rfl
  | succ f ih =>
    intro t i x y
    cases i with
    | zero => rfl
    | succ k =>
      simp only [setF]
      cases Nat.beq (Nat.mod k 2) 0 <;> simp only [setF, left, right, val, ih]
theorem setF_comm (f : Nat) : ∀ (t : Tr α) (i j : Nat) (x y : Option α), i ≠ j → setF f (setF f t i x) j y = setF f (setF f t j y) i x := by
  induction f with
  | zero => intros; rfl
  | succ f ih =>
    intro t i j x y h
    cases i with
    | zero =>
      cases j with
      | zero => exact absurd rfl h
      | succ j => simp only [setF]; cases Nat.beq (Nat.mod j 2) 0 <;> simp only [setF, left, right, val]
    | succ i =>
      cases j with
      | zero => simp only [setF]; cases Nat.beq (Nat.mod i 2) 0 <;> simp only [setF, left, right, val]
      | succ j =>
        simp only [setF]
        cases hi : Nat.beq (Nat.mod i 2) 0 <;> cases hj : Nat.beq (Nat.mod j 2) 0 <;> simp only [setF, left, right, val, hi, hj]
        · rw [ih _ _ _ _ _ (half_ne h (by rw [hi, hj]))]
        · rw [ih _ _ _ _ _ (half_ne h (by rw [hi, hj]))]
theorem set_same (t : Tr α) (i : Nat) (x y : Option α) : (t.set i x).set i y = t.set i y := setF_same 24 t i x y
theorem set_comm (t : Tr α) {i j : Nat} (x y : Option α) (h : i ≠ j) : (t.set i x).set j y = (t.set j y).set i x := setF_comm 24 t i j x y h
end Tr
end Go.Tb
namespace Go.Tb.W
open Go Go.Proofs
variable {I : Interp O}
theorem chk_spec : ∀ {L : List AV} {xs : List Rw}, chk L = some xs → encL cS xs = L ∧ xs.length * 3 = L.length
  | [], xs, h => by simp [chk] at h; subst h; exact ⟨rfl, rfl⟩
  | .int .i64 a :: .int .i64 b :: .int .i64 c :: l, xs, h => by
    simp only [chk] at h
    cases hr : chk l with
    | none => rw [hr] at h; cases h
    | some r =>
      rw [hr] at h; cases h
      obtain ⟨h1, h2⟩ := chk_spec hr
      refine ⟨?_, by simp; omega⟩
      have : encL cS (rwA [.int .i64 a, .int .i64 b, .int .i64 c] :: r) = [.int .i64 a, .int .i64 b, .int .i64 c] ++ encL cS r := rfl
      rw [this, h1]; rfl
/-- Cells that are claims, told as rows. -/
theorem ACall.asRows {f : FuncId} {args : List AV} {hp : Tr (AO O)} {K : AV → Tr (AO O) → Prop} {n : Nat} {L : List AV} {room : Nat} {xs : List Rw} (hn : Nat.blt n 16777215 = true) (hg : hp.get n = some (.cells 31 L room)) (hc : chk L = some xs)
    (h : ACall I P f args (hp.set n (some (cO xs room))) K) : ACall I P f args hp K := by
  refine ⟨h.1, fun ρ fp w args' hs hd => h.2 ρ fp w args' ?_ hd⟩
  refine hs.update hn (by rw [hg]; simp) (fun _ _ => rfl) ?_
  obtain ⟨k1, k2⟩ := chk_spec hc
  obtain ⟨b, z, arr, g1, g2, g3, g4, g5, g6⟩ := hs.ok _ _ hg
  exact ⟨b, z, arr, g1, g2, g3, g4, by show xs.length * 3 ≤ room; omega, by rw [k1]; exact g6⟩
theorem slD_lift {f : FuncId} {hp : Tr (AO O)} {v : AV} {K : AV → Tr (AO O) → Prop} {Q : List Rw → (Tr (AO O) → Tr (AO O)) → Prop} (h : slD hp v Q)
    (h1 : ∀ n l c room (xs : List Rw), Nat.blt n 16777215 = true → hp.get n ≠ none → v = .sl n 0 l c → l ≤ xs.length → Q (xs.take l) (fun hp => hp.set n (some (cO xs room))) → (hp.set n (some (cO xs room))).get n = some (cO xs room) → ACall I P f [v] (hp.set n (some (cO xs room))) K)
    (h2 : slC hp v Q → ACall I P f [v] hp K) : ACall I P f [v] hp K := by
  unfold slD at h; split at h
  · rename_i n l c
    split at h
    · rename_i L room hb hg
      split at h
      · rename_i xs hc
        exact ACall.asRows hb hg hc (h1 n l c room xs hb (by rw [hg]; simp) rfl h.1 h.2 (Tr.get_set_eq hb))
      · exact h.elim
    · exact h2 h
  · exact h2 h
theorem k_agree : ∀ (args : List AV) (hp : Tr (AO O)) (nx : Nat) (K : AV → Tr (AO O) → Nat → Prop), c_agree args hp nx K → ACall I P 10 args hp (fun v hp' => ∃ nx', K v hp' nx') := by
  intro args hp nx K h
  unfold c_agree at h; split at h
  · rename_i v
    refine slD_lift h (fun n l c room xs hb h0 e hl hq hg => ?_) (fun hc => k_agreeC _ hp nx K hc)
    subst e
    refine k_agreeC _ _ nx K ?_
    unfold c_agreeC slC
    simp only [hb, hg]
    exact ⟨hl, hq.1, by rw [Tr.set_same]; exact hq.2⟩
  · exact h.elim
theorem k_true : ∀ (args : List AV) (hp : Tr (AO O)) (nx : Nat) (K : AV → Tr (AO O) → Nat → Prop), c_true args hp nx K → ACall I P 11 args hp (fun v hp' => ∃ nx', K v hp' nx') := by
  intro args hp nx K h
  unfold c_true at h; split at h
  · rename_i v
    refine slD_lift h (fun n l c room xs hb h0 e hl hq hg => ?_) (fun hc => k_trueC _ hp nx K hc)
    subst e
    refine k_trueC _ _ nx K ?_
    unfold c_trueC slC
    simp only [hb, hg]
    refine ⟨hl, ?_⟩
    split at hq
    · rename_i hnb hfr
      have hne : n ≠ nx := fun e => by subst e; exact h0 hfr
      have hfr' : (hp.set n (some (cO xs room))).get nx = none := by rw [Tr.get_set_ne hne]; exact hfr
      simp only [hnb, hfr']
      refine ⟨hq.1, fun e => by rw [Tr.set_same]; exact hq.2.1 e, fun e => ⟨fun e' => by rw [Tr.set_same]; exact (hq.2.2 e).1 e', fun e' c2 r2 => ?_⟩⟩
      have := (hq.2.2 e).2 e' c2 r2
      rw [Tr.set_comm _ _ _ hne, Tr.set_same]
      exact this
    · exact hq.elim
  · exact h.elim
theorem k_mid : ∀ (args : List AV) (K : AV → Prop), c_mid args K → ∀ hp, ACall I P 8 args hp (fun v hp' => K v ∧ hp' = hp) := by
  intro args K h hp
  unfold c_mid at h; split at h
  · rename_i a b
    refine pcall mix Gm.nil (fn := Try.f8) (by kernel_rfl) (by kernel_rfl) (by kernel_rfl) rfl rfl (fun hr => ?_) hp
    simp only [rgs, rg, Bool.and_eq_true] at hr
    refine (t_mid I (fun v => K v ∧ cl v = true) a b).mpr ⟨?_, rfl⟩
    rw [mid_own (r_i64 hr.1) (r_i64 hr.2.1)]; exact h
  · exact h.elim
theorem k_rmid : ∀ (args : List AV) (K : AV → Prop), c_mid args K → ∀ hp, ACall I P 9 args hp (fun v hp' => K v ∧ hp' = hp) := by
  intro args K h hp
  unfold c_mid at h; split at h
  · rename_i a b
    refine pcall mix Gm.nil (fn := Try.f9) (by kernel_rfl) (by kernel_rfl) (by kernel_rfl) rfl rfl (fun hr => ?_) hp
    simp only [rgs, rg, Bool.and_eq_true] at hr
    refine (t_rmid I (fun v => K v ∧ cl v = true) a b).mpr ⟨?_, rfl⟩
    rw [mid_ref (r_i64 hr.1) (r_i64 hr.2.1)]; exact h
  · exact h.elim
theorem gB1 : GOk I P (Gm B1) := Gm.consH (Gm.consH (Gm.consP (Gm.consP Gm.nil k_may) k_mid) k_true) k_agree
theorem k_awake : ∀ (args : List AV) (K : AV → Prop), c_awake args K → ∀ hp, ACall I P 7 args hp (fun v hp' => K v ∧ hp' = hp) := by
  intro args K h hp
  unfold c_awake at h; split at h
  · refine pcall mix gB1 (fn := Try.f7) (by kernel_rfl) (by kernel_rfl) (by kernel_rfl) rfl rfl (fun hr => ?_) hp
    refine (t_awake I (fun v => K v ∧ cl v = true)).mpr ⟨by decide, by decide, by decide, by decide, by decide, by decide, by decide, fun e => absurd (by kernel_rfl) e, fun _ => ⟨fun e => ?_, fun _ _ _ => ⟨h, rfl⟩⟩⟩
    have : (trueF (List.take 3 [rwA [AV.int IntKind.i64 1, AV.int IntKind.i64 0, AV.int IntKind.i64 10], rwA [AV.int IntKind.i64 2, AV.int IntKind.i64 5, AV.int IntKind.i64 15], rwA [AV.int IntKind.i64 3, AV.int IntKind.i64 8, AV.int IntKind.i64 20]])).length = 3 := by kernel_rfl
    rw [e] at this
    cases this
  · exact h.elim
theorem gB2 : GOk I P (Gm B2) := Gm.consP (Gm.consP gB1 k_rmid) k_awake
end Go.Tb.W
