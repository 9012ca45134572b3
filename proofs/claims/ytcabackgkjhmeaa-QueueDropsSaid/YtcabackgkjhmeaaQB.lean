/- Queues: what heaps are; plain. -/
import Derived.Test.YtcabackgkjhmeaaQA
set_option linter.all false
set_option maxRecDepth 100000
namespace Go.Tb.W
open Go Go.Proofs
def gE (xs : List Rw) (j : Nat) : Rw := (xs[j]?).getD (mkE 0 0 ByteArray.empty 0)
theorem gE_get {xs : List Rw} {j : Nat} (h : j < xs.length) : xs[j]? = some (gE xs j) := by
  unfold gE; rw [List.getElem?_eq_getElem h]; rfl
theorem less_iff {x y : Rw} : lessE x y = true ↔ x.i 0 < y.i 0 ∨ (x.i 0 = y.i 0 ∧ x.i 3 < y.i 3) := by
  unfold lessE orI cmpI
  rw [decide_eq_true_iff]
  by_cases h1 : x.i 0 < y.i 0
  · rw [if_pos h1]; simp [h1]
  · by_cases h2 : y.i 0 < x.i 0
    · rw [if_neg h1, if_pos h2]; simp; omega
    · rw [if_neg h1, if_neg h2, if_pos rfl]
      by_cases h3 : x.i 3 < y.i 3
      · rw [if_pos h3]; omega
      · rw [if_neg h3]; by_cases h4 : y.i 3 < x.i 3
        · rw [if_pos h4]; omega
        · rw [if_neg h4]; omega
/-- Not behind. -/
def leE (x y : Rw) : Prop := x.i 0 < y.i 0 ∨ (x.i 0 = y.i 0 ∧ x.i 3 ≤ y.i 3)
theorem leE_of_not {x y : Rw} (h : lessE x y = false) : leE y x := by
  have : ¬ (lessE x y = true) := by rw [h]; decide
  rw [less_iff] at this
  unfold leE; omega
theorem leE_of_less {x y : Rw} (h : lessE x y = true) : leE x y := by
  rw [less_iff] at h
  unfold leE; omega
theorem leE_trans {x y z : Rw} (h : leE x y) (k : leE y z) : leE x z := by unfold leE at *; omega
theorem not_less {x y : Rw} (h : leE x y) : lessE y x = false := by
  cases hb : lessE y x with
  | false => rfl
  | true => rw [less_iff] at hb; unfold leE at h; omega
theorem gE_swap {xs : List Rw} {i k : Nat} (hi : i < xs.length) (hk : k < xs.length) (hn : nE (gE xs i) = gE xs i) (hm : nE (gE xs k) = gE xs k) (j : Nat) : gE (swapL xs i k) j = if j = k then gE xs i else if j = i then gE xs k else gE xs j := by
  unfold swapL
  rw [gE_get hi, gE_get hk]
  simp only [hn, hm]
  unfold gE
  by_cases e : j = k
  · subst e; rw [if_pos rfl, List.getElem?_set_self (by simpa using hk)]; rfl
  · rw [if_neg e, List.getElem?_set_ne (fun h => e h.symm)]
    by_cases e2 : j = i
    · subst e2; rw [if_pos rfl, List.getElem?_set_self hi]; rfl
    · rw [if_neg e2, List.getElem?_set_ne (fun h => e2 h.symm)]
theorem swap_perm {xs : List Rw} {i k : Nat} (hi : i < xs.length) (hk : k < xs.length) : ((xs.set i (gE xs k)).set k (gE xs i)).Perm xs := by
  have h := Array.swap_perm (xs := xs.toArray) (i := i) (j := k) (by simpa using hi) (by simpa using hk)
  have h := Array.perm_iff_toList_perm.1 h
  have e : (xs.toArray.swap i k (by simpa using hi) (by simpa using hk)).toList = (xs.set i (gE xs k)).set k (gE xs i) := by
    have a : gE xs i = xs[i] := by unfold gE; rw [List.getElem?_eq_getElem hi]; rfl
    have b : gE xs k = xs[k] := by unfold gE; rw [List.getElem?_eq_getElem hk]; rfl
    rw [a, b]
    simp [Array.swap]
  rw [e] at h
  exact h
/-- The first n put about; the others as they were. -/
structure Abt (n : Nat) (xs ys : List Rw) : Prop where
  l : ys.length = xs.length
  p : (ys.take n).Perm (xs.take n)
  d : ys.drop n = xs.drop n
theorem Abt.refl (n : Nat) (xs : List Rw) : Abt n xs xs := ⟨rfl, .refl _, rfl⟩
theorem Abt.trans {n : Nat} {xs ys zs : List Rw} (h : Abt n xs ys) (k : Abt n ys zs) : Abt n xs zs := ⟨k.l.trans h.l, k.p.trans h.p, k.d.trans h.d⟩
theorem Abt.nr {n : Nat} {xs ys : List Rw} (h : Abt n xs ys) (k : NR (xs.take n)) : NR (ys.take n) := fun x hx => k x (h.p.mem_iff.1 hx)
theorem nr_g {n : Nat} {xs : List Rw} (k : NR (xs.take n)) {j : Nat} (hj : j < n) (hl : n ≤ xs.length) : nE (gE xs j) = gE xs j := k _ (by
  rw [List.mem_iff_getElem?]
  exact ⟨j, by rw [List.getElem?_take, if_pos hj, gE_get (by omega)]⟩)
theorem gE_take {n : Nat} {xs : List Rw} {j : Nat} (hj : j < n) : gE (xs.take n) j = gE xs j := by unfold gE; rw [List.getElem?_take, if_pos hj]
theorem Abt.swap {n : Nat} {xs : List Rw} {i k : Nat} (hn : NR (xs.take n)) (hl : n ≤ xs.length) (hi : i < n) (hk : k < n) : Abt n xs (swapL xs i k) := by
  have e : swapL xs i k = (xs.set i (gE xs k)).set k (gE xs i) := by
    unfold swapL; rw [gE_get (by omega), gE_get (by omega)]; simp only; rw [nr_g hn hi hl, nr_g hn hk hl]
  refine ⟨swapL_length .., ?_, ?_⟩
  · rw [e, List.take_set, List.take_set]
    have := swap_perm (xs := xs.take n) (i := i) (k := k) (by simp; omega) (by simp; omega)
    rwa [gE_take hi, gE_take hk] at this
  · rw [e, List.drop_set_of_lt hk, List.drop_set_of_lt hi]
theorem Abt.up : ∀ (f : Nat) {n : Nat} {xs : List Rw} {j : Nat}, NR (xs.take n) → n ≤ xs.length → j < n → Abt n xs (upF f xs j)
  | 0, _, _, _, _, _, _ => Abt.refl _ _
  | f + 1, n, xs, j, hn, hl, hj => by
    rw [upF, gE_get (show j < xs.length by omega), gE_get (show (j - 1) / 2 < xs.length by omega)]
    simp only
    split
    · exact Abt.refl _ _
    · split
      · have a := Abt.swap hn hl (show (j - 1) / 2 < n by omega) hj
        exact a.trans (Abt.up f (a.nr hn) (by rw [a.l]; exact hl) (by omega))
      · exact Abt.refl _ _
theorem childF_lt {xs : List Rw} {i n : Nat} (h : 2 * i + 1 < n) : childF xs i n < n := by
  have := (childF_gt xs i n).2; omega
theorem Abt.down : ∀ (f : Nat) {n : Nat} {xs : List Rw} {i : Nat}, NR (xs.take n) → n ≤ xs.length → Abt n xs (downF f xs i n)
  | 0, _, _, _, _, _ => Abt.refl _ _
  | f + 1, n, xs, i, hn, hl => by
    rw [downF]
    split
    · exact Abt.refl _ _
    · have hc := childF_lt (xs := xs) (i := i) (n := n) (by omega)
      rw [gE_get (show childF xs i n < xs.length by omega), gE_get (show i < xs.length by omega)]
      simp only
      split
      · have a := Abt.swap hn hl (show i < n by omega) hc
        exact a.trans (Abt.down f (a.nr hn) (by rw [a.l]; exact hl))
      · exact Abt.refl _ _
theorem Abt.init : ∀ (i : Nat) {n : Nat} {xs : List Rw}, NR (xs.take n) → n ≤ xs.length → Abt n xs (initF i xs n)
  | 0, _, _, _, _ => Abt.refl _ _
  | i + 1, n, xs, hn, hl => by
    have a := Abt.down (n + 1) (i := i) hn hl
    exact a.trans (Abt.init i (a.nr hn) (by rw [a.l]; exact hl))
/-- Of the first n, those whose parents are lo or behind it are not ahead of these. -/
def Hp (xs : List Rw) (lo n : Nat) : Prop := ∀ j, 0 < j → j < n → lo ≤ (j - 1) / 2 → leE (gE xs ((j - 1) / 2)) (gE xs j)
theorem childF_le {xs : List Rw} {i n j : Nat} (hl : n ≤ xs.length) (hj : 0 < j) (hn : j < n) (hp : (j - 1) / 2 = i) : leE (gE xs (childF xs i n)) (gE xs j) := by
  have h1 := gE_get (show 2 * i + 1 < xs.length by omega)
  have hjj : j = 2 * i + 1 ∨ j = 2 * i + 2 := by omega
  have rf : ∀ x, leE x x := fun x => .inr ⟨rfl, Int.le_refl _⟩
  unfold childF
  rw [h1]
  by_cases h2 : 2 * i + 2 < n
  · rw [gE_get (show 2 * i + 2 < xs.length by omega)]
    simp only
    split
    · rename_i hc
      rcases hjj with rfl | rfl
      · exact leE_of_less hc.2
      · exact rf _
    · rename_i hc
      rcases hjj with rfl | rfl
      · exact rf _
      · exact leE_of_not (by cases hb : lessE (gE xs (2 * i + 2)) (gE xs (2 * i + 1)) with | false => rfl | true => exact absurd ⟨h2, hb⟩ hc)
  · have : j = 2 * i + 1 := by omega
    subst this
    split
    · rw [if_neg (fun h => h2 h.1)]; exact rf _
    · exact rf _
theorem Hp.down : ∀ (f : Nat) {xs : List Rw} {i n lo : Nat}, n - i < f → n ≤ xs.length → NR (xs.take n) → lo ≤ i →
    (∀ j, 0 < j → j < n → lo ≤ (j - 1) / 2 → (j - 1) / 2 ≠ i → leE (gE xs ((j - 1) / 2)) (gE xs j)) →
    (∀ j, 0 < j → j < n → (j - 1) / 2 = i → 0 < i → lo ≤ (i - 1) / 2 → leE (gE xs ((i - 1) / 2)) (gE xs j)) → Hp (downF f xs i n) lo n
  | 0, _, _, _, _, h, _, _, _, _, _ => absurd h (Nat.not_lt_zero _)
  | f + 1, xs, i, n, lo, hf, hl, hn, hlo, ha, hb => by
    rw [downF]
    split
    · exact fun j h1 h2 h3 => ha j h1 h2 h3 (by omega)
    · have hc := childF_lt (xs := xs) (i := i) (n := n) (by omega)
      have hcg := childF_gt xs i n
      have hpc : (childF xs i n - 1) / 2 = i := by omega
      have hm := fun {j} h1 h2 h3 => childF_le (xs := xs) (i := i) (n := n) (j := j) hl h1 h2 h3
      rw [gE_get (show childF xs i n < xs.length by omega), gE_get (show i < xs.length by omega)]
      simp only
      generalize childF xs i n = c at *
      split
      · rename_i hls
        have hi : i < n := by omega
        have g := gE_swap (xs := xs) (i := i) (k := c) (by omega) (by omega) (nr_g hn hi hl) (nr_g hn hc hl)
        have a := Abt.swap hn hl hi hc
        have hic : i ≠ c := by omega
        refine Hp.down f (by omega) (by rw [a.l]; exact hl) (a.nr hn) (by omega) (fun j h1 h2 h3 h4 => ?_) (fun j h1 h2 h3 h4 h5 => ?_)
        · rw [g, g]
          rw [if_neg h4]
          by_cases ej : j = c
          · subst ej
            rw [if_pos hpc, if_pos rfl]
            exact leE_of_less hls
          · rw [if_neg ej]
            by_cases ei : j = i
            · subst ei
              rw [if_pos rfl, if_neg (by omega)]
              exact hb c (by omega) hc hpc h1 h3
            · rw [if_neg ei]
              by_cases ep : (j - 1) / 2 = i
              · rw [if_pos ep]; exact hm h1 h2 ep
              · rw [if_neg ep]; exact ha j h1 h2 h3 ep
        · rw [g, g, hpc, if_neg hic, if_pos rfl, if_neg (by omega), if_neg (by omega)]
          have := ha j h1 h2 (by omega) (by omega)
          rwa [h3] at this
      · rename_i hls
        have hls : lessE (gE xs c) (gE xs i) = false := by simpa using hls
        intro j h1 h2 h3
        by_cases ep : (j - 1) / 2 = i
        · rw [ep]; exact leE_trans (leE_of_not hls) (hm h1 h2 ep)
        · exact ha j h1 h2 h3 ep
theorem Hp.init : ∀ (i : Nat) {xs : List Rw} {n : Nat}, n ≤ xs.length → NR (xs.take n) → Hp xs i n → Hp (initF i xs n) 0 n
  | 0, _, _, _, _, h => h
  | i + 1, xs, n, hl, hn, h => by
    have a := Abt.down (n + 1) (i := i) hn hl
    refine Hp.init i (by rw [a.l]; exact hl) (a.nr hn) (Hp.down (n + 1) (by omega) hl hn (Nat.le_refl _) (fun j h1 h2 h3 h4 => h j h1 h2 (by omega)) (fun j h1 h2 h3 h4 h5 => by omega))
theorem Hp.up : ∀ (f : Nat) {xs : List Rw} {j n : Nat}, j < f → j < n → n ≤ xs.length → NR (xs.take n) →
    (∀ k, 0 < k → k < n → k ≠ j → leE (gE xs ((k - 1) / 2)) (gE xs k)) →
    (∀ k, 0 < k → k < n → (k - 1) / 2 = j → 0 < j → leE (gE xs ((j - 1) / 2)) (gE xs k)) → Hp (upF f xs j) 0 n
  | 0, _, _, _, h, _, _, _, _, _ => absurd h (Nat.not_lt_zero _)
  | f + 1, xs, j, n, hf, hj, hl, hn, ha, hb => by
    rw [upF, gE_get (show j < xs.length by omega), gE_get (show (j - 1) / 2 < xs.length by omega)]
    simp only
    split
    · exact fun k h1 h2 _ => ha k h1 h2 (by omega)
    · rename_i hne
      split
      · rename_i hls
        have hp : (j - 1) / 2 < n := by omega
        have g := gE_swap (xs := xs) (i := (j - 1) / 2) (k := j) (by omega) (by omega) (nr_g hn hp hl) (nr_g hn hj hl)
        have a := Abt.swap hn hl hp hj
        refine Hp.up f (by omega) hp (by rw [a.l]; exact hl) (a.nr hn) (fun k h1 h2 h3 => ?_) (fun k h1 h2 h3 h4 => ?_)
        · rw [g, g]
          by_cases ek : k = j
          · subst ek
            rw [if_neg (by omega), if_pos rfl, if_pos rfl]
            exact leE_of_less hls
          · rw [if_neg ek, if_neg h3]
            by_cases ep : (k - 1) / 2 = j
            · rw [if_pos ep]; exact hb k h1 h2 ep (by omega)
            · rw [if_neg ep]
              by_cases eq : (k - 1) / 2 = (j - 1) / 2
              · rw [if_pos eq]
                have := ha k h1 h2 ek
                rw [eq] at this
                exact leE_trans (leE_of_less hls) this
              · rw [if_neg eq]; exact ha k h1 h2 ek
        · have h5 := ha ((j - 1) / 2) h4 hp (by omega)
          rw [g, g, if_neg (by omega), if_neg (by omega)]
          by_cases ek : k = j
          · subst ek; rw [if_pos rfl]; exact h5
          · rw [if_neg ek, if_neg (by omega)]
            have := ha k h1 h2 ek
            rw [h3] at this
            exact leE_trans h5 this
      · rename_i hls
        have hls : lessE (gE xs j) (gE xs ((j - 1) / 2)) = false := by simpa using hls
        intro k h1 h2 _
        by_cases ek : k = j
        · subst ek; exact leE_of_not hls
        · exact ha k h1 h2 ek
/-- The first one is none the later. -/
theorem Hp.root {xs : List Rw} {n : Nat} (h : Hp xs 0 n) : ∀ (j : Nat), j < n → leE (gE xs 0) (gE xs j) := by
  intro j
  induction j using Nat.strongRecOn with
  | _ j ih =>
    intro hj
    by_cases e : j = 0
    · subst e; exact .inr ⟨rfl, Int.le_refl _⟩
    · exact leE_trans (ih ((j - 1) / 2) (by omega) (by omega)) (h j (by omega) hj (Nat.zero_le _))
end Go.Tb.W
