/- Functions that are handed rows to read, and may make one new row. -/
import Derived.Test.YtojppaicjioohaaM18
set_option linter.all false
set_option linter.constructorNameAsVariable false
namespace Go.Tb
open Go
variable {O : Type} {P : Program} {I : Interp O}
/-- A loop whose first state is told as it stands. -/
theorem ALoop.invj {m : Nat} {b : Code} {body : St O → Kt O → Prop} {K : Kt O} {ps : List (Nat × Nat)} {ts : List Nat} {nx : Nat} {α : Type} (J : α → St O) (G : α → Prop) (μ : α → Nat)
    (round : ∀ x, G x → body (J x) (lpg m ps ts nx (fun s => ∃ y, G y ∧ μ y < μ x ∧ s = J y) K)) (x : α) (hx : G x) : ALoop I m b body K (J x) := by
  refine ⟨_, Weak.refl m _, fun X hX => ?_⟩
  have : ∀ n x, μ x = n → G x → X (J x) := by
    intro n
    induction n using Nat.strongRecOn with
    | _ n ih =>
      intro x hn hx
      refine hX _ _ (round x hx) fun e s' hk => ?_
      cases e with
      | normal =>
        obtain ⟨hg, y, hy, hlt, he⟩ := must_spec hk
        exact ⟨_, Weak.gc hg, he ▸ ih (μ y) (hn ▸ hlt) y rfl hy⟩
      | _ => exact hk
  exact this _ x rfl hx
def isRows : AO O → Bool | .rows _ _ _ _ => true | _ => false
def allRows : List (AO O) → Bool | [] => true | o :: l => isRows o && allRows l
def heldR (hp : Tr (AO O)) : List Nat → List (AO O) → Prop
  | [], [] => True
  | g :: gs, o :: os => hp.get g = some o ∧ heldR hp gs os
  | _, _ => False
theorem rnO_rows (ι : Nat → Nat) {o : AO O} (h : isRows o = true) : rnO ι o = o := by cases o <;> simp [isRows] at h; rfl
theorem heldR_held {hp : Tr (AO O)} (ι : Nat → Nat) : ∀ {gs : List Nat} {os : List (AO O)}, heldR hp gs os → allRows os = true → held hp ι gs os
  | [], [], _, _ => trivial
  | [], _ :: _, h, _ => h.elim
  | _ :: _, [], h, _ => h.elim
  | g :: gs, o :: os, h, k => by
    simp only [allRows, Bool.and_eq_true] at k
    exact ⟨by rw [rnO_rows ι k.1]; exact h.1, heldR_held ι h.2 k.2⟩
theorem nmOs_rows (d : Nat → Bool) : ∀ {os : List (AO O)}, allRows os = true → nmOs d os = true
  | [], _ => rfl
  | o :: os, k => by
    simp only [allRows, Bool.and_eq_true] at k
    simp only [nmOs, Bool.and_eq_true]
    exact ⟨by cases o <;> simp [isRows] at k; rfl, nmOs_rows d k.2⟩
/-- What lies at the names from k on. -/
def keeps (lh : Tr (AO O)) : Nat → List (AO O) → Prop
  | _, [] => True
  | k, o :: os => lh.get k = some o ∧ keeps lh (k + 1) os
theorem agree_rows {hp lh : Tr (AO O)} {ι : Nat → Nat} {rest : List (Nat × Nat)} : ∀ {gs : List Nat} {os : List (AO O)} {k : Nat}, heldR hp gs os → allRows os = true → keeps lh k os → agree hp lh ι rest → agree hp lh ι (pairs k gs ++ rest)
  | [], [], _, _, _, _, hr => hr
  | [], _ :: _, _, h, _, _, _ => h.elim
  | _ :: _, [], _, h, _, _, _ => h.elim
  | g :: gs, o :: os, k, h, ha, hk, hr => by
    simp only [allRows, Bool.and_eq_true] at ha
    exact ⟨by rw [h.1, hk.1, Option.map_some, rnO_rows ι ha.1], agree_rows h.2 ha.2 hk.2 hr⟩
theorem nmAll_rows {lh : Tr (AO O)} {d : Nat → Bool} {rest : List (Nat × Nat)} : ∀ {gs : List Nat} {os : List (AO O)} {k : Nat}, gs.length = os.length → allRows os = true → keeps lh k os → nmAll lh d rest = true → nmAll lh d (pairs k gs ++ rest) = true
  | [], [], _, _, _, _, hr => hr
  | [], _ :: _, _, h, _, _, _ => by simp at h
  | _ :: _, [], _, h, _, _, _ => by simp at h
  | g :: gs, o :: os, k, h, ha, hk, hr => by
    simp only [allRows, Bool.and_eq_true] at ha
    simp only [pairs, List.cons_append, nmAll, hk.1, Bool.and_eq_true]
    exact ⟨by cases o <;> simp [isRows] at ha; rfl, nmAll_rows (by simpa using h) ha.2 hk.2 hr⟩
theorem heldR_len {hp : Tr (AO O)} : ∀ {gs : List Nat} {os : List (AO O)}, heldR hp gs os → gs.length = os.length
  | [], [], _ => rfl
  | [], _ :: _, h => h.elim
  | _ :: _, [], h => h.elim
  | g :: gs, o :: os, h => by simp [heldR_len h.2]
theorem heldR_set {hp : Tr (AO O)} {n : Nat} {o' : Option (AO O)} (hn : hp.get n = none) : ∀ {gs : List Nat} {os : List (AO O)}, heldR hp gs os → heldR (hp.set n o') gs os
  | [], [], _ => trivial
  | [], _ :: _, h => h.elim
  | _ :: _, [], h => h.elim
  | g :: gs, o :: os, h => ⟨by rw [Tr.get_set_ne (fun e => by subst e; rw [h.1] at hn; cases hn)]; exact h.1, heldR_set hn h.2⟩
theorem uniq_app {hp : Tr (AO O)} {nx : Nat} (hn : hp.get nx = none) (hb : Nat.blt nx 16777215 = true) : ∀ {gs : List Nat} {os : List (AO O)} {k j : Nat}, heldR hp gs os → k + gs.length ≤ j → uniq (pairs k gs) = true → uniq (pairs k gs ++ [(j, nx)]) = true
  | [], [], k, j, _, _, _ => by simp [pairs, uniq, hb, lk, lkr]
  | [], _ :: _, _, _, h, _, _ => h.elim
  | _ :: _, [], _, _, h, _, _ => h.elim
  | g :: gs, o :: os, k, j, h, hj, hu => by
    simp only [pairs, uniq, Bool.and_eq_true, List.cons_append, List.length_cons] at hu hj ⊢
    obtain ⟨h1, h2, h3, h4⟩ := hu
    have hg : g ≠ nx := fun e => by subst e; rw [h.1] at hn; cases hn
    refine ⟨h1, ?_, ?_, uniq_app hn hb h.2 (by omega) h4⟩
    · rw [lk_append]
      cases hl : lk (pairs (k + 1) gs) k with
      | some x => rw [hl] at h2; simp at h2
      | none =>
        have : Nat.beq j k = false := beq_no (by omega)
        simp [lk, this]
    · rw [lkr_append]
      cases hl : lkr (pairs (k + 1) gs) g with
      | some x => rw [hl] at h3; simp at h3
      | none =>
        have : Nat.beq nx g = false := beq_no (Ne.symm hg)
        simp [lkr, this]
/-- A function that is handed rows to read, and makes no new thing, or one new row. -/
theorem hrows (hmix : P.follows .mixedOrders = true) {Γ : Gam O} (hΓ : GOk I P Γ) {f : FuncId} {fn : Func} (hf : P.funcs[f]? = some fn) (hname : (fn.name == "runtime.NumGoroutine") = false) (hb : fn.body.isSome = true)
    (gs : List Nat) (os : List (AO O)) (largs : List AV) {hp : Tr (AO O)} {nx : Nat} {K : AV → Tr (AO O) → Nat → Prop}
    (hn : Nat.blt largs.length 16777215 = true) (hu0 : uniq (pairs 0 gs) = true) (hlen : Nat.blt os.length 16777215 = true) (hheld : heldR hp gs os) (ha : allRows os = true) (hna : nms (pd (pairs 0 gs)) largs = true)
    (h : rgs largs = true → RgOs os → abody I P Γ (adraw P Γ) os.length fn largs (Tr.ofList 0 os .leaf) os.length (fun v lh _ => keeps lh 0 os ∧ ((nm (pd (pairs 0 gs)) v = true ∧ K (rn (pι (pairs 0 gs)) v) hp nx) ∨
      ∃ j t sh zs room, Nat.blt nx 16777215 = true ∧ hp.get nx = none ∧ gs.length ≤ j ∧ lh.get j = some (.rows t sh zs room) ∧ nm (pd (pairs 0 gs ++ [(j, nx)])) v = true ∧ K (rn (pι (pairs 0 gs ++ [(j, nx)])) v) (hp.set nx (some (.rows t sh zs room))) (nx + 1)))) :
    ACall I P f (rns (pι (pairs 0 gs)) largs) hp (fun v hp' => ∃ nx', K v hp' nx') := by
  refine hcallK hmix hΓ hf hname hb gs os largs _ hn hu0 hlen (heldR_held _ hheld ha) (nmOs_rows _ ha) hna h ?_
  rintro v lh ⟨hk, h⟩
  rcases h with ⟨hv, h⟩ | ⟨j, t, sh, zs, room, hb, hg, hj, hl, hv, h⟩
  · refine ⟨[], [], by rw [List.append_nil]; exact hu0, trivial, rfl, fun j g hj => (by cases hj), agree_rows (by simpa [sets] using hheld) ha hk trivial, nmAll_rows (heldR_len hheld) ha hk rfl, ?_, ⟨nx, ?_⟩⟩
    · rw [List.append_nil]; exact hv
    · rw [List.append_nil]; exact h
  · have e1 : (lh.get j).map (rnO (pι (pairs 0 gs ++ [(j, nx)]))) = some (.rows t sh zs room) := by rw [hl]; rfl
    have hs : sets (fun j' => (lh.get j').map (rnO (pι (pairs 0 gs ++ [(j, nx)])))) [(j, nx)] hp = hp.set nx (some (.rows t sh zs room)) := by simp only [sets]; rw [e1]
    have hlj : lk (pairs 0 gs) j = none := by rw [lk_pairs]; simp; omega
    refine ⟨[(j, nx)], [(j, nx)], uniq_app hg hb hheld (by omega) hu0, ⟨hg, trivial⟩, by simp [uniq, hb, lk, lkr], fun i g hi => ?_, ?_, nmAll_rows (heldR_len hheld) ha hk (by simp [nmAll, hl, nmO]), hv, ⟨nx + 1, ?_⟩⟩
    · simp only [lk] at hi
      cases hbq : Nat.beq j i with
      | false => rw [hbq] at hi; cases hi
      | true =>
        have := Nat.eq_of_beq_eq_true hbq
        subst this
        rw [hbq] at hi; cases hi
        rw [lk_append, hlj]
        simp [lk, hbq]
    · rw [hs]
      refine agree_rows (heldR_set hg hheld) ha hk ⟨?_, trivial⟩
      rw [Tr.get_set_eq hb, e1]
    · rw [hs]; exact h
end Go.Tb
