/- Functions that are handed rows to read, and make two new rows. -/
import Derived.Test.YtojppaicjioohaaM19
set_option linter.all false
set_option linter.constructorNameAsVariable false
namespace Go.Tb
open Go
variable {O : Type} {P : Program} {I : Interp O}
theorem uniq_snoc {j g : Nat} (hg : Nat.blt g 16777215 = true) : ∀ {a : List (Nat × Nat)}, uniq a = true → lk a j = none → lkr a g = none → uniq (a ++ [(j, g)]) = true
  | [], _, _, _ => by simp [uniq, hg, lk, lkr]
  | (j', g') :: a, h, h1, h2 => by
    simp only [uniq, Bool.and_eq_true, List.cons_append] at h ⊢
    obtain ⟨k1, k2, k3, k4⟩ := h
    simp only [lk] at h1
    simp only [lkr] at h2
    have hj : Nat.beq j' j = false := by cases hb : Nat.beq j' j with | true => rw [hb] at h1; cases h1 | false => rfl
    have hgg : Nat.beq g' g = false := by cases hb : Nat.beq g' g with | true => rw [hb] at h2; cases h2 | false => rfl
    rw [hj] at h1; rw [hgg] at h2
    refine ⟨k1, ?_, ?_, uniq_snoc hg k4 h1 h2⟩
    · rw [lk_append]
      cases hl : lk a j' with
      | some x => rw [hl] at k2; simp at k2
      | none =>
        have : Nat.beq j j' = false := beq_no (fun e => by subst e; rw [Nat.beq_refl] at hj; cases hj)
        simp [lk, this]
    · rw [lkr_append]
      cases hl : lkr a g' with
      | some x => rw [hl] at k3; simp at k3
      | none =>
        have : Nat.beq g g' = false := beq_no (fun e => by subst e; rw [Nat.beq_refl] at hgg; cases hgg)
        simp [lkr, this]
theorem lkr_free {hp : Tr (AO O)} {nx : Nat} (hn : hp.get nx = none) : ∀ {gs : List Nat} {os : List (AO O)} {k : Nat}, heldR hp gs os → lkr (pairs k gs) nx = none
  | [], [], _, _ => rfl
  | [], _ :: _, _, h => h.elim
  | _ :: _, [], _, h => h.elim
  | g :: gs, o :: os, k, h => by
    simp only [pairs, lkr]
    have : Nat.beq g nx = false := beq_no (fun e => by subst e; rw [h.1] at hn; cases hn)
    rw [this]; exact lkr_free hn h.2
theorem hrows2 (hmix : P.follows .mixedOrders = true) {Γ : Gam O} (hΓ : GOk I P Γ) {f : FuncId} {fn : Func} (hf : P.funcs[f]? = some fn) (hname : (fn.name == "runtime.NumGoroutine") = false) (hb : fn.body.isSome = true)
    (gs : List Nat) (os : List (AO O)) (largs : List AV) {hp : Tr (AO O)} {nx : Nat} {K : AV → Tr (AO O) → Nat → Prop}
    (hn : Nat.blt largs.length 16777215 = true) (hu0 : uniq (pairs 0 gs) = true) (hlen : Nat.blt os.length 16777215 = true) (hheld : heldR hp gs os) (ha : allRows os = true) (hna : nms (pd (pairs 0 gs)) largs = true)
    (h1 : hp.get nx = none) (h2 : hp.get (nx + 1) = none) (h3 : Nat.blt (nx + 1) 16777215 = true)
    (h : rgs largs = true → RgOs os → abody I P Γ (adraw P Γ) os.length fn largs (Tr.ofList 0 os .leaf) os.length (fun v lh _ => keeps lh 0 os ∧
      ∃ j t sh zs room j' t' sh' zs' room', gs.length ≤ j ∧ gs.length ≤ j' ∧ j ≠ j' ∧ lh.get j = some (.rows t sh zs room) ∧ lh.get j' = some (.rows t' sh' zs' room') ∧ nm (pd (pairs 0 gs ++ [(j', nx + 1), (j, nx)])) v = true ∧
        K (rn (pι (pairs 0 gs ++ [(j', nx + 1), (j, nx)])) v) ((hp.set nx (some (.rows t sh zs room))).set (nx + 1) (some (.rows t' sh' zs' room'))) (nx + 2))) :
    ACall I P f (rns (pι (pairs 0 gs)) largs) hp (fun v hp' => ∃ nx', K v hp' nx') := by
  refine hcallK hmix hΓ hf hname hb gs os largs _ hn hu0 hlen (heldR_held _ hheld ha) (nmOs_rows _ ha) hna h ?_
  rintro v lh ⟨hk, j, t, sh, zs, room, j', t', sh', zs', room', hj, hj', hjj, hl, hl', hv, h⟩
  have h4 : Nat.blt nx 16777215 = true := blt_iff.2 (by have := blt_iff.1 h3; omega)
  have e1 : (lh.get j).map (rnO (pι (pairs 0 gs ++ [(j', nx + 1), (j, nx)]))) = some (.rows t sh zs room) := by rw [hl]; rfl
  have e2 : (lh.get j').map (rnO (pι (pairs 0 gs ++ [(j', nx + 1), (j, nx)]))) = some (.rows t' sh' zs' room') := by rw [hl']; rfl
  have hs : sets (fun i => (lh.get i).map (rnO (pι (pairs 0 gs ++ [(j', nx + 1), (j, nx)])))) [(j', nx + 1), (j, nx)] hp = (hp.set nx (some (.rows t sh zs room))).set (nx + 1) (some (.rows t' sh' zs' room')) := by simp only [sets]; rw [e1, e2]
  have l1 : ∀ i, gs.length ≤ i → lk (pairs 0 gs) i = none := fun i hi => by rw [lk_pairs]; simp; omega
  have hb1 : Nat.beq j' j = false := beq_no (Ne.symm hjj)
  have hb2 : Nat.beq j j' = false := beq_no hjj
  have hb3 : Nat.beq (nx + 1) nx = false := beq_no (by omega)
  have u1 := uniq_snoc (j := j') h3 hu0 (l1 j' hj') (lkr_free h2 hheld)
  have u2 : uniq ((pairs 0 gs ++ [(j', nx + 1)]) ++ [(j, nx)]) = true := uniq_snoc (j := j) h4 u1 (by rw [lk_append, l1 j hj]; simp [lk, hb1]) (by rw [lkr_append, lkr_free h1 hheld]; simp [lkr, hb3])
  have u3 : uniq (pairs 0 gs ++ [(j', nx + 1), (j, nx)]) = true := by rw [← u2]; simp
  refine ⟨[(j', nx + 1), (j, nx)], [(j', nx + 1), (j, nx)], u3, ⟨h2, h1, trivial⟩, by simp [uniq, h3, h4, lk, lkr, hb2, beq_no (show ¬ nx = nx + 1 by omega)], fun i g hi => ?_, ?_, nmAll_rows (heldR_len hheld) ha hk (by simp [nmAll, hl, hl', nmO]), hv, ⟨nx + 2, ?_⟩⟩
  · simp only [lk] at hi
    rw [lk_append]
    cases hbq : Nat.beq j' i with
    | true =>
      have := Nat.eq_of_beq_eq_true hbq
      subst this
      rw [hbq] at hi; cases hi
      rw [l1 _ hj']; simp [lk]
    | false =>
      rw [hbq] at hi
      cases hbr : Nat.beq j i with
      | false => rw [hbr] at hi; cases hi
      | true =>
        have := Nat.eq_of_beq_eq_true hbr
        subst this
        rw [hbr] at hi; cases hi
        rw [l1 _ hj]; simp [lk, hb1]
  · rw [hs]
    refine agree_rows (heldR_set (by rw [Tr.get_set_ne (by omega)]; exact h2) (heldR_set h1 hheld)) ha hk ⟨?_, ?_, trivial⟩
    · rw [Tr.get_set_eq h3, e2]
    · rw [Tr.get_set_ne (by omega), Tr.get_set_eq h4, e1]
  · rw [hs]; exact h
end Go.Tb
