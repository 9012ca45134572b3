/- Claims: edges put together; plain law. -/
import Derived.Test.YtnljoapmieepeaaK4
import Derived.Test.YtnljoapmieepeaaK5
set_option linter.all false
set_option maxRecDepth 100000
namespace Go.Tb.W
open Go Go.Proofs
def sumAt (l : List (Int × Int)) (p : Int) : Int := ((l.filter (fun x => x.1 == p)).map (·.2)).sum
theorem sumAt_app (a b : List (Int × Int)) (p : Int) : sumAt (a ++ b) p = sumAt a p + sumAt b p := by
  unfold sumAt; rw [List.filter_append, List.map_append, List.sum_append]
theorem sumAt_one (x : Int × Int) (p : Int) : sumAt [x] p = if x.1 = p then x.2 else 0 := by
  unfold sumAt
  by_cases h : x.1 = p <;> simp [h]
theorem perm_sum {a b : List Int} (h : a.Perm b) : a.sum = b.sum := by
  induction h with
  | nil => rfl
  | cons x _ ih => simp [ih]
  | swap x y l => simp; omega
  | trans _ _ h1 h2 => exact h1.trans h2
theorem sumAt_perm {a b : List (Int × Int)} (h : a.Perm b) (p : Int) : sumAt a p = sumAt b p := by
  unfold sumAt
  exact perm_sum ((h.filter _).map _)
/-- What edges put together are: rising strictly, of just those places, with the sums. -/
structure Jn (l out : List (Int × Int)) : Prop where
  st : out.Pairwise (fun x y => x.1 < y.1)
  pl : ∀ p, (∃ x ∈ out, x.1 = p) ↔ ∃ x ∈ l, x.1 = p
  sm : ∀ x ∈ out, x.2 = sumAt l x.1
theorem Jn.nil : Jn [] [] := ⟨.nil, fun p => Iff.rfl, fun x h => by cases h⟩
theorem last_split {out : List (Int × Int)} {y : Int × Int} (h : out.getLast? = some y) : out = out.dropLast ++ [y] := by
  obtain ⟨ys, rfl⟩ := List.getLast?_eq_some_iff.1 h
  simp
theorem sum_no {l : List (Int × Int)} {p : Int} (h : ∀ x ∈ l, x.1 ≠ p) : sumAt l p = 0 := by
  unfold sumAt
  rw [List.filter_eq_nil_iff.2 fun x hx => by simpa using h x hx]; rfl
theorem Jn.put {l out : List (Int × Int)} (h : Jn l out) {x : Int × Int} (hx : ∀ y ∈ l, y.1 ≤ x.1) : Jn (l ++ [x]) (putE out x) := by
  unfold putE
  cases hl : out.getLast? with
  | none =>
    have ho : out = [] := List.getLast?_eq_none_iff.1 hl
    have hn : ∀ y ∈ l, False := fun y hy => by
      obtain ⟨z, hz, _⟩ := (h.pl y.1).2 ⟨y, hy, rfl⟩
      rw [ho] at hz; cases hz
    have hl0 : l = [] := List.eq_nil_iff_forall_not_mem.2 hn
    subst hl0
    refine ⟨List.pairwise_singleton .., fun p => by simp, fun y hy => ?_⟩
    simp at hy; subst hy
    rw [List.nil_append, sumAt_one, if_pos rfl]
  | some y =>
    have hs := last_split hl
    have hym : y ∈ out := by rw [hs]; simp
    obtain ⟨z, hz, hzy⟩ := (h.pl y.1).1 ⟨y, hym, rfl⟩
    have hyx : y.1 ≤ x.1 := by rw [← hzy]; exact hx z hz
    have hst := h.st
    rw [hs] at hst
    obtain ⟨st1, _, st2⟩ := List.pairwise_append.1 hst
    have hlt : ∀ w ∈ out.dropLast, w.1 < y.1 := fun w hw => st2 w hw y (by simp)
    simp only
    by_cases he : y.1 = x.1
    · rw [if_pos he]
      refine ⟨List.pairwise_append.2 ⟨st1, List.pairwise_singleton .., fun a ha b hb => ?_⟩, fun p => ?_, fun w hw => ?_⟩
      · simp at hb; subst hb; exact hlt a ha
      · have hp := h.pl p
        rw [hs] at hp
        constructor
        · rintro ⟨w, hw, rfl⟩
          rcases List.mem_append.1 hw with hw | hw
          · obtain ⟨u, hu, he2⟩ := hp.1 ⟨w, List.mem_append_left _ hw, rfl⟩
            exact ⟨u, List.mem_append_left _ hu, he2⟩
          · simp at hw; subst hw
            exact ⟨x, by simp, he.symm⟩
        · rintro ⟨u, hu, rfl⟩
          rcases List.mem_append.1 hu with hu | hu
          · obtain ⟨w, hw, he2⟩ := hp.2 ⟨u, hu, rfl⟩
            rcases List.mem_append.1 hw with hw | hw
            · exact ⟨w, List.mem_append_left _ hw, he2⟩
            · simp at hw; subst hw
              exact ⟨(w.1, w.2 + x.2), by simp, he2⟩
          · simp at hu; subst hu
            exact ⟨(y.1, y.2 + u.2), by simp, he⟩
      · rcases List.mem_append.1 hw with hw | hw
        · have := hlt w hw
          rw [sumAt_app, sumAt_one, if_neg (by omega), h.sm w (by rw [hs]; exact List.mem_append_left _ hw)]
          omega
        · simp at hw; subst hw
          show y.2 + x.2 = sumAt (l ++ [x]) y.1
          rw [sumAt_app, sumAt_one, if_pos he.symm, h.sm y hym]
    · rw [if_neg he]
      have hlt2 : ∀ w ∈ out, w.1 < x.1 := fun w hw => by
        rw [hs] at hw
        rcases List.mem_append.1 hw with hw | hw
        · have := hlt w hw; omega
        · simp at hw; subst hw; omega
      refine ⟨List.pairwise_append.2 ⟨h.st, List.pairwise_singleton .., fun a ha b hb => ?_⟩, fun p => ?_, fun w hw => ?_⟩
      · simp at hb; subst hb; exact hlt2 a ha
      · have hp := h.pl p
        constructor
        · rintro ⟨w, hw, rfl⟩
          rcases List.mem_append.1 hw with hw | hw
          · obtain ⟨u, hu, he2⟩ := hp.1 ⟨w, hw, rfl⟩
            exact ⟨u, List.mem_append_left _ hu, he2⟩
          · exact ⟨w, List.mem_append_right _ hw, rfl⟩
        · rintro ⟨u, hu, rfl⟩
          rcases List.mem_append.1 hu with hu | hu
          · obtain ⟨w, hw, he2⟩ := hp.2 ⟨u, hu, rfl⟩
            exact ⟨w, List.mem_append_left _ hw, he2⟩
          · exact ⟨u, List.mem_append_right _ hu, rfl⟩
      · rcases List.mem_append.1 hw with hw | hw
        · have := hlt2 w hw
          rw [sumAt_app, sumAt_one, if_neg (by omega), h.sm w hw]; omega
        · simp at hw; subst hw
          have hno : ∀ y ∈ l, y.1 ≠ w.1 := fun y hy e => by
            obtain ⟨u, hu, he2⟩ := (h.pl y.1).2 ⟨y, hy, rfl⟩
            have := hlt2 u hu; omega
          rw [sumAt_app, sumAt_one, if_pos rfl, sum_no hno]; omega
theorem join_snoc (l : List (Int × Int)) (x : Int × Int) : joinE (l ++ [x]) = putE (joinE l) x := by unfold joinE; rw [List.foldl_append]; rfl
theorem Jn.joinR : ∀ (r : List (Int × Int)), r.reverse.Pairwise (fun x y => x.1 ≤ y.1) → Jn r.reverse (joinE r.reverse)
  | [], _ => Jn.nil
  | x :: r, h => by
    rw [List.reverse_cons] at h ⊢
    obtain ⟨h1, _, h2⟩ := List.pairwise_append.1 h
    rw [join_snoc]
    exact (Jn.joinR r h1).put fun y hy => h2 y hy x (by simp)
theorem Jn.join {l : List (Int × Int)} (h : l.Pairwise (fun x y => x.1 ≤ y.1)) : Jn l (joinE l) := by
  have := Jn.joinR l.reverse
  rw [List.reverse_reverse] at this
  exact this h
theorem Jn.uniq {l m a b : List (Int × Int)} (ha : Jn l a) (hb : Jn m b) (hp : l.Perm m) : a = b := by
  have nd : ∀ {c : List (Int × Int)}, c.Pairwise (fun x y => x.1 < y.1) → c.Nodup := fun h => h.imp fun {x y} hxy e => by rw [e] at hxy; omega
  have sub : ∀ {l m a b : List (Int × Int)}, Jn l a → Jn m b → l.Perm m → ∀ x ∈ a, x ∈ b := fun {l m a b} ha hb hp x hx => by
    obtain ⟨u, hu, hue⟩ := (ha.pl x.1).1 ⟨x, hx, rfl⟩
    obtain ⟨y, hy, hye⟩ := (hb.pl x.1).2 ⟨u, hp.mem_iff.1 hu, hue⟩
    have : y = x := by
      refine Prod.ext hye ?_
      rw [hb.sm y hy, ha.sm x hx, hye, sumAt_perm hp]
    rw [← this]; exact hy
  have hperm : a.Perm b := (List.perm_ext_iff_of_nodup (nd ha.st) (nd hb.st)).2 fun x => ⟨sub ha hb hp x, sub hb ha hp.symm x⟩
  exact List.Perm.eq_of_pairwise (le := fun x y : Int × Int => x.1 < y.1) (fun x y _ _ h1 h2 => by omega) ha.st hb.st hperm
theorem insP_perm (x : Int × Int) : ∀ l, (insP x l).Perm (x :: l)
  | [] => List.Perm.refl _
  | y :: l => by
    unfold insP
    split
    · exact List.Perm.refl _
    · exact ((insP_perm x l).cons y).trans (.swap ..)
theorem srtP_perm : ∀ l, (srtP l).Perm l
  | [] => List.Perm.refl _
  | x :: l => (insP_perm x (srtP l)).trans ((srtP_perm l).cons x)
theorem insP_so (x : Int × Int) : ∀ {l : List (Int × Int)}, l.Pairwise (fun x y => x.1 ≤ y.1) → (insP x l).Pairwise (fun x y => x.1 ≤ y.1)
  | [], _ => List.pairwise_singleton ..
  | y :: l, h => by
    obtain ⟨h1, h2⟩ := List.pairwise_cons.1 h
    unfold insP
    split
    · refine List.pairwise_cons.2 ⟨fun z hz => ?_, h⟩
      rcases List.mem_cons.1 hz with rfl | hz
      · assumption
      · have := h1 z hz; omega
    · refine List.pairwise_cons.2 ⟨fun z hz => ?_, insP_so x h2⟩
      rcases List.mem_cons.1 ((insP_perm x l).mem_iff.1 hz) with rfl | hz
      · omega
      · exact h1 z hz
theorem srtP_so : ∀ l, (srtP l).Pairwise (fun x y => x.1 ≤ y.1)
  | [] => .nil
  | x :: l => insP_so x (srtP_so l)
theorem edgeF_of {es : List (Rw × Nat)} {L : List (Int × Int)} (hp : L.Perm (rawE es)) (hs : L.Pairwise (fun x y => x.1 ≤ y.1)) : joinE L = edgeF es :=
  Jn.uniq (Jn.join hs) (Jn.join (srtP_so _)) (hp.trans (srtP_perm _).symm)
end Go.Tb.W
