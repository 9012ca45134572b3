/- Functions that are handed memory, and may change all of it. -/
import Derived.Test.YtojppaicjioohaaM21
set_option linter.all false
namespace Go.Tb
open Go
variable {O : Type} {P : Program} {I : Interp O}
theorem agree_sets {f : Nat → Option (AO O)} {hp lh : Tr (AO O)} {ι : Nat → Nat} (hf : ∀ j, f j = (lh.get j).map (rnO ι)) {ms : List (Nat × Nat)} (hu : uniq ms = true) : ∀ {l : List (Nat × Nat)}, (∀ p ∈ l, lk ms p.1 = some p.2) → agree (sets f ms hp) lh ι l
  | [], _ => trivial
  | (j, g) :: l, h => by
    refine ⟨?_, agree_sets hf hu (fun p hp => h p (List.mem_cons_of_mem _ hp))⟩
    rw [sets_get hu, lk_lkr hu (h (j, g) (List.mem_cons_self ..))]
    exact hf j
theorem lk_mem {l : List (Nat × Nat)} (hu : uniq l = true) : ∀ p ∈ l, lk l p.1 = some p.2 := by
  induction l with
  | nil => intro p h; simp at h
  | cons a l ih =>
    intro p h
    obtain ⟨j, g⟩ := a
    simp only [uniq, Bool.and_eq_true] at hu
    rcases List.mem_cons.1 h with rfl | h
    · simp [lk]
    · have hp := ih hu.2.2.2 p h
      simp only [lk]
      cases hb : Nat.beq j p.1 with
      | true =>
        have := Nat.eq_of_beq_eq_true hb
        subst this
        rw [hp] at hu; simp at hu
      | false => exact hp
/-- The names that a body leaves, told to the caller: those that it was handed, and new ones. -/
def AllBack (hp : Tr (AO O)) (gs : List Nat) (K : AV → Tr (AO O) → Nat → Prop) (v : AV) (lh : Tr (AO O)) : Prop :=
  ∃ news nx', uniq (pairs 0 gs ++ news) = true ∧ free hp news ∧ nmAll lh (pd (pairs 0 gs ++ news)) (pairs 0 gs ++ news) = true ∧ nm (pd (pairs 0 gs ++ news)) v = true ∧
    K (rn (pι (pairs 0 gs ++ news)) v) (sets (fun j => (lh.get j).map (rnO (pι (pairs 0 gs ++ news)))) (pairs 0 gs ++ news) hp) nx'
theorem hcallG (hmix : P.follows .mixedOrders = true) {Γ : Gam O} (hΓ : GOk I P Γ) {f : FuncId} {fn : Func} (hf : P.funcs[f]? = some fn) (hname : (fn.name == "runtime.NumGoroutine") = false) (hb : fn.body.isSome = true)
    (gs : List Nat) (os : List (AO O)) (largs : List AV) {hp : Tr (AO O)} {K : AV → Tr (AO O) → Nat → Prop}
    (hn : Nat.blt largs.length 16777215 = true) (hu0 : uniq (pairs 0 gs) = true) (hlen : Nat.blt os.length 16777215 = true) (hheld : held hp (pι (pairs 0 gs)) gs os) (hno : nmOs (pd (pairs 0 gs)) os = true) (hna : nms (pd (pairs 0 gs)) largs = true)
    (h : rgs largs = true → RgOs os → abody I P Γ (adraw P Γ) os.length fn largs (Tr.ofList 0 os .leaf) os.length (fun v lh _ => AllBack hp gs K v lh)) : ACall I P f (rns (pι (pairs 0 gs)) largs) hp (fun v hp' => ∃ nx', K v hp' nx') := by
  refine hcallK hmix hΓ hf hname hb gs os largs _ hn hu0 hlen hheld hno hna h ?_
  rintro v lh ⟨news, nx', h1, h2, h3, h4, h5⟩
  exact ⟨news, pairs 0 gs ++ news, h1, h2, h1, fun j g hj => hj, agree_sets (fun j => rfl) h1 (lk_mem h1), h3, h4, nx', h5⟩
theorem uniq_new {hp : Tr (AO O)} {nx j : Nat} (hn : hp.get nx = none) (hb : Nat.blt nx 16777215 = true) {l : List (Nat × Nat)} (hu : uniq l = true) (hj : lk l j = none) (hl : ∀ p ∈ l, hp.get p.2 ≠ none) : uniq (l ++ [(j, nx)]) = true :=
  uniq_snoc hb hu hj (by
    cases h : lkr l nx with
    | none => rfl
    | some i =>
      exfalso
      have : (i, nx) ∈ l := by
        clear hu hj hl
        induction l with
        | nil => cases h
        | cons a l ih =>
          obtain ⟨a, b⟩ := a
          simp only [lkr] at h
          cases hb : Nat.beq b nx with
          | true => rw [hb] at h; cases h; have := Nat.eq_of_beq_eq_true hb; subst this; exact List.mem_cons_self ..
          | false => rw [hb] at h; exact List.mem_cons_of_mem _ (ih h)
      exact hl _ this hn)
end Go.Tb
