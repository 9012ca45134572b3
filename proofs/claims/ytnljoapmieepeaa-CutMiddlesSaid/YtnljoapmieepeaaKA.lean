/- Claims: the library's sort, of a few. -/
import Derived.Test.YtnljoapmieepeaaK5
import Derived.Test.YtnljoapmieepeaaK9
set_option linter.all false
set_option maxRecDepth 100000
set_option maxHeartbeats 2000000
namespace Go.Tb.W
open Go Go.Proofs
variable {I : Interp O}
theorem k_nan : ∀ (args : List AV) (K : AV → Prop), c_nan args K → ∀ hp, ACall I P 40 args hp (fun v hp' => K v ∧ hp' = hp) := by
  intro args K h hp
  unfold c_nan at h; split at h
  · rename_i a
    refine pcall mix Gm.nil (fn := Try.f40) (by kernel_rfl) (by kernel_rfl) (by kernel_rfl) rfl rfl (fun hr => ?_) hp
    refine (t_nan I (fun v => K v ∧ cl v = true) a).mpr ⟨?_, rfl⟩
    rw [bne_self_eq_false]; exact h
  · exact h.elim
theorem gS1 : GOk I P (Gm S1) := Gm.consP Gm.nil k_nan
theorem k_cmp : ∀ (args : List AV) (K : AV → Prop), c_cmp args K → ∀ hp, ACall I P 27 args hp (fun v hp' => K v ∧ hp' = hp) := by
  intro args K h hp
  unfold c_cmp at h; split at h
  · rename_i a b
    refine pcall mix gS1 (fn := Try.f27) (by kernel_rfl) (by kernel_rfl) (by kernel_rfl) rfl rfl (fun hr => ?_) hp
    refine (t_cmp I (fun v => K v ∧ cl v = true) a b).mpr (bsplit_both (fun h1 => ?_) (fun h1 => bsplit_both (fun h2 => ?_) (fun h2 => ?_)))
    · rw [if_pos (of_decide_eq_true h1)] at h; exact ⟨h, rfl⟩
    · rw [if_neg (of_decide_eq_false h1), if_pos (of_decide_eq_true h2)] at h; exact ⟨h, rfl⟩
    · rw [if_neg (of_decide_eq_false h1), if_neg (of_decide_eq_false h2)] at h; exact ⟨h, rfl⟩
  · exact h.elim
theorem gS2 : GOk I P (Gm S2) := Gm.consP gS1 k_cmp
theorem k_of : ∀ (args : List AV) (K : AV → Prop), c_of args K → ∀ hp, ACall I P 21 args hp (fun v hp' => K v ∧ hp' = hp) := by
  intro args K h hp
  unfold c_of at h; split at h
  · rename_i a m b n
    exact pcall mix gS2 (fn := Try.f21) (by kernel_rfl) (by kernel_rfl) (by kernel_rfl) rfl rfl (fun hr => (t_of I (fun v => K v ∧ cl v = true) a m b n).mpr ⟨h, rfl⟩) hp
  · exact h.elim
theorem gS3 : GOk I P (Gm S3) := Gm.consP gS2 k_of
def gE (xs : List Rw) (j : Nat) : Rw := (xs[j]?).getD zrw
theorem gE_get {xs : List Rw} {j : Nat} (h : j < xs.length) : xs[j]? = some (gE xs j) := by
  unfold gE; rw [List.getElem?_eq_getElem h]; rfl
theorem swap_perm {xs : List Rw} {i k : Nat} (hi : i < xs.length) (hk : k < xs.length) : ((xs.set i (gE xs k)).set k (gE xs i)).Perm xs := by
  have h := Array.swap_perm (xs := xs.toArray) (i := i) (j := k) (by simpa using hi) (by simpa using hk)
  have h := Array.perm_iff_toList_perm.1 h
  have e : (xs.toArray.swap i k (by simpa using hi) (by simpa using hk)).toList = (xs.set i (gE xs k)).set k (gE xs i) := by
    have a : gE xs i = xs[i] := by unfold gE; rw [List.getElem?_eq_getElem hi]; rfl
    have b : gE xs k = xs[k] := by unfold gE; rw [List.getElem?_eq_getElem hk]; rfl
    rw [a, b]
    simp [Array.swap]
  rw [e] at h
  exact h
theorem gE_set {xs : List Rw} {i k : Nat} (hi : i < xs.length) (hk : k < xs.length) (a b : Rw) (j : Nat) : gE ((xs.set i a).set k b) j = if j = k then b else if j = i then a else gE xs j := by
  unfold gE
  by_cases e : j = k
  · subst e; rw [if_pos rfl, List.getElem?_set_self (by simpa using hk)]; rfl
  · rw [if_neg e, List.getElem?_set_ne (fun h => e h.symm)]
    by_cases e2 : j = i
    · subst e2; rw [if_pos rfl, List.getElem?_set_self hi]; rfl
    · rw [if_neg e2, List.getElem?_set_ne (fun h => e2 h.symm)]
theorem NE.perm {xs ys : List Rw} (h : NE xs) (hp : ys.Perm xs) : NE ys := fun y hy => h y (hp.mem_iff.1 hy)
/-- Put about, and in order but for one place. -/
structure Ins (xs0 xs : List Rw) (i : Nat) (j : Option Nat) : Prop where
  pm : xs.Perm xs0
  so : ∀ p q, p < q → q < i → j ≠ some q → (gE xs p).i 0 ≤ (gE xs q).i 0
theorem Ins.swap {xs0 xs : List Rw} {i j : Nat} (h : Ins xs0 xs i (some (j + 1))) (hl : j + 1 < xs.length) (hji : j + 1 < i) (hlt : (gE xs (j + 1)).i 0 < (gE xs j).i 0) :
    Ins xs0 ((xs.set (j + 1) (gE xs j)).set j (gE xs (j + 1))) i (some j) := by
  refine ⟨(swap_perm hl (by omega)).trans h.pm, fun p q hpq hqi hne => ?_⟩
  have hne : q ≠ j := fun e => hne (by rw [e])
  rw [gE_set hl (by omega), gE_set hl (by omega)]
  rw [if_neg hne]
  have so := h.so
  by_cases hq : q = j + 1
  · rw [if_pos hq]
    by_cases hp : p = j
    · rw [if_pos hp]; omega
    · rw [if_neg hp, if_neg (by omega)]
      exact so p j (by omega) (by omega) (by simp)
  · rw [if_neg hq]
    by_cases hp : p = j
    · rw [if_pos hp]; exact so (j + 1) q (by omega) hqi (by simp; omega)
    · rw [if_neg hp]
      by_cases hp2 : p = j + 1
      · rw [if_pos hp2]; exact so j q (by omega) hqi (by simp; omega)
      · rw [if_neg hp2]; exact so p q hpq hqi (by simp; omega)
theorem Ins.stop {xs0 xs : List Rw} {i j : Nat} (h : Ins xs0 xs i (some j)) (hj : j = 0 ∨ (gE xs (j - 1)).i 0 ≤ (gE xs j).i 0) : Ins xs0 xs i none := by
  refine ⟨h.pm, fun p q hpq hqi _ => ?_⟩
  by_cases hq : q = j
  · subst hq
    rcases hj with hj | hj
    · omega
    · by_cases hp : p = q - 1
      · rw [hp]; exact hj
      · have := h.so p (q - 1) (by omega) (by omega) (by simp; omega)
        omega
  · exact h.so p q hpq hqi (by simp; omega)
theorem Ins.done {xs0 xs : List Rw} (h : Ins xs0 xs xs.length none) : risE xs := by
  refine List.pairwise_iff_getElem.2 fun p q hp hq hpq => ?_
  have := h.so p q hpq hq (by simp)
  unfold gE at this
  rw [List.getElem?_eq_getElem hp, List.getElem?_eq_getElem hq] at this
  exact this
theorem edg_nf {x : Rw} (h : edg (x.i 0, x.i 1) = x) : rwA (acells (AV.agg [encS x 0 (.i .i64), encS x (0 + 1) (.i .i64)])) = x := h
theorem k_ins : ∀ (args : List AV) (hp : Tr (AO O)) (nx : Nat) (K : AV → Tr (AO O) → Nat → Prop), c_ins args hp nx K → ACall I P 30 args hp (fun v hp' => ∃ nx', K v hp' nx') := by
  intro args hp nx K h
  unfold c_ins at h; split at h
  · rename_i n l c a b
    split at h
    · rename_i xs0 room hb hg
      obtain ⟨⟨hl, ⟨ha1, ha2⟩, hbb, h12, hne⟩, hk⟩ := h
      obtain rfl : a = 0 := by omega
      subst hbb
      refine hcallG mix gS3 (fn := Try.f30) (by kernel_rfl) (by kernel_rfl) (by kernel_rfl) [n] [eO xs0 room] [.sl 0 0 l c, .int .i64 0, .int .i64 l, fnO] rfl (uniq1 hb) rfl ⟨hg, trivial⟩ rfl rfl (fun hr ho => (t_ins I _ l c room xs0).mpr ?_)
      refine ALoop.start [] [0, 1, 2, 3, 8] 1 (j_in1 l c room xs0 ((1 : Nat) : Int)) (by kernel_rfl) (by kernel_rfl) ?_
      refine ALoop.invj (ps := []) (ts := [0, 1, 2, 3, 8]) (nx := 1) (fun x : List Rw × Nat => j_in1 l c room x.1 (x.2 : Nat)) (fun x => Ins xs0 x.1 x.2 none ∧ 1 ≤ x.2) (fun x => l - x.2) ?_ (xs0, 1) ⟨⟨List.Perm.refl _, fun p q h1 h2 _ => by omega⟩, Nat.le_refl _⟩
      rintro ⟨xs, i⟩ ⟨g, g1⟩
      have g : Ins xs0 xs i none := g
      have g1 : 1 ≤ i := g1
      have hlen : xs.length = l := by rw [hl]; exact g.pm.length_eq
      refine (t_in1 I _ _ l c room xs (i : Nat)).mpr (bsplit_both (fun hx => ?_) (fun hx => ?_))
      · have hx : (i : Int) < (l : Int) := of_decide_eq_true hx
        refine ALoop.invg (ps := []) (ts := [0, 1, 2, 3, 8, 9]) (nx := 1) (fun x : List Rw × Nat => j_in2 l c room x.1 (i : Nat) (x.2 : Nat)) (fun x => Ins xs0 x.1 (i + 1) (some x.2) ∧ x.2 ≤ i) (fun x => x.2) ?_ (by kernel_rfl) (xs, i) (by kernel_rfl) ⟨⟨g.pm, fun p q h1 h2 h3 => g.so p q h1 (by
            have : q ≠ i := fun e => h3 (by rw [e])
            omega) (by simp)⟩, Nat.le_refl _⟩
        rintro ⟨ys, j⟩ ⟨w, w1⟩
        have w : Ins xs0 ys (i + 1) (some j) := w
        have w1 : j ≤ i := w1
        have hylen : ys.length = l := by rw [hl]; exact w.pm.length_eq
        have hny := hne.perm w.pm
        have fin : Ins xs0 ys (i + 1) none → ∃ y : List Rw × Nat, (Ins xs0 y.1 y.2 none ∧ 1 ≤ y.2) ∧ l - y.2 < l - i ∧ j_in1 l c room ys (IntKind.i64.wrap ((i : Int) + 1)) = j_in1 l c room y.1 (y.2 : Nat) := fun hh => ⟨(ys, i + 1), ⟨hh, by show 1 ≤ i + 1; omega⟩, by show l - (i + 1) < l - i; omega, by rw [w_id (n := (i : Int) + 1) (by omega) (by omega)]; rfl⟩
        refine (t_in2 I _ _ _ l c room ys (i : Nat) (j : Nat)).mpr (bsplit_both (fun hj => ?_) (fun hj => fin (w.stop (.inl ?_))))
        · have hj : (j : Int) > 0 := of_decide_eq_true hj
          obtain ⟨k, rfl⟩ : ∃ k, j = k + 1 := ⟨j - 1, by omega⟩
          have e1 : IntKind.i64.wrap (((k + 1 : Nat) : Int) - 1) = (k : Nat) := by rw [w_id (by omega) (by omega)]; omega
          rw [e1]
          simp only [Int.toNat_natCast]
          have b1 : decide ((0 : Int) ≤ ((k + 1 : Nat) : Int) ∧ ((k + 1 : Nat) : Int) < (l : Int)) = true := decide_eq_true ⟨by omega, by omega⟩
          have b2 : decide ((0 : Int) ≤ (k : Int) ∧ (k : Int) < (l : Int)) = true := decide_eq_true ⟨by omega, by omega⟩
          have hk1 := gE_get (xs := ys) (j := k + 1) (by omega)
          have hk0 := gE_get (xs := ys) (j := k) (by omega)
          have n1 := edg_nf (hny _ (List.mem_of_getElem? hk1))
          have n0 := edg_nf (hny _ (List.mem_of_getElem? hk0))
          refine must_mk b1 (must_mk b2 (xget_mk hk1 (xget_mk hk0 (bsplit_both (fun hc => ?_) (fun hc => fin (w.stop (.inr ?_)))))))
          · have hc := of_decide_eq_true hc
            have hlt : (gE ys (k + 1)).i 0 < (gE ys k).i 0 := by
              by_cases h1 : (gE ys (k + 1)).i 0 < (gE ys k).i 0
              · exact h1
              · rw [if_neg h1] at hc; split at hc <;> omega
            have hset : (ys.set (k + 1) (gE ys k))[k]? = some (gE ys k) := by rw [List.getElem?_set_ne (by omega)]; exact hk0
            refine must_mk b2 (must_mk b1 (xget_mk hk0 (xget_mk hk1 (must_mk b1 (xget_mk hk1 (must_mk b2 (xget_mk (v := gE ys k) ?_ ⟨((ys.set (k + 1) (gE ys k)).set k (gE ys (k + 1)), k), ⟨w.swap (by omega) (by omega) hlt, by show k ≤ i; omega⟩, by show k < k + 1; omega, ?_⟩)))))))
            · rw [n0]; exact hset
            · rw [n0, n1]; rfl
          · have hc := of_decide_eq_false hc
            show (gE ys k).i 0 ≤ (gE ys (k + 1)).i 0
            by_cases h1 : (gE ys (k + 1)).i 0 < (gE ys k).i 0
            · rw [if_pos h1] at hc; omega
            · omega
        · have hj := of_decide_eq_false hj; omega
      · have hx : ¬ (i : Int) < (l : Int) := of_decide_eq_false hx
        have hris : risE xs := Ins.done (xs0 := xs0) ⟨g.pm, fun p q h1 h2 h3 => g.so p q h1 (by omega) h3⟩
        exact ⟨[], nx, uniq1 hb, trivial, rfl, rfl, hk xs g.pm hris⟩
    · exact h.elim
  · rename_i a b
    obtain ⟨⟨⟨ha1, ha2⟩, hb1, hb2⟩, hk⟩ := h
    obtain rfl : a = 0 := by omega
    obtain rfl : b = 0 := by omega
    refine hcallG mix gS3 (fn := Try.f30) (by kernel_rfl) (by kernel_rfl) (by kernel_rfl) [] [] [.nils, .int .i64 0, .int .i64 0, fnO] rfl rfl rfl trivial rfl rfl (fun hr ho => (t_insN I _).mpr ?_)
    refine ALoop.start [] [0, 1, 2, 3, 8] 0 j_inN (by kernel_rfl) (by kernel_rfl) ?_
    refine ALoop.stepg [] [0, 1, 2, 3, 8] 0 ?_
    exact (t_in1N I _ _).mpr ⟨[], nx, rfl, trivial, rfl, rfl, hk⟩
  · exact h.elim
theorem gS4 : GOk I P (Gm S4) := Gm.consH gS3 k_ins
theorem k_pdq : ∀ (args : List AV) (hp : Tr (AO O)) (nx : Nat) (K : AV → Tr (AO O) → Nat → Prop), c_pdq args hp nx K → ACall I P 25 args hp (fun v hp' => ∃ nx', K v hp' nx') := by
  intro args hp nx K h
  unfold c_pdq at h; split at h
  · rename_i n l c a b m
    split at h
    · rename_i xs0 room hb hg
      obtain ⟨⟨hl, ⟨ha1, ha2⟩, hbb, h12, hne⟩, hk⟩ := h
      obtain rfl : a = 0 := by omega
      subst hbb
      refine hcallG mix gS4 (fn := Try.f25) (by kernel_rfl) (by kernel_rfl) (by kernel_rfl) [n] [eO xs0 room] [.sl 0 0 l c, .int .i64 0, .int .i64 l, .int .i64 m, fnO] rfl (uniq1 hb) rfl ⟨hg, trivial⟩ rfl rfl (fun hr ho => (t_pdq I _ l c room xs0 m).mpr ?_)
      refine ALoop.start [] [0, 1, 2, 3, 4, 10, 11] 1 (j_pd l c room xs0 m) (by kernel_rfl) (by kernel_rfl) ?_
      refine ALoop.stepg [] [0, 1, 2, 3, 4, 10, 11] 1 ?_
      refine (t_pd I _ _ l c room xs0 m).mpr (bs_t ?_ ⟨⟨hl, ⟨Int.le_refl _, Int.le_refl _⟩, rfl, h12, hne⟩, fun ys h1 h2 => ⟨[], nx, uniq1 hb, trivial, rfl, rfl, hk ys h1 h2⟩⟩)
      rw [w_id (by omega) (by omega)]
      exact decide_eq_true (by omega)
    · exact h.elim
  · rename_i a b m
    obtain ⟨⟨⟨ha1, ha2⟩, hb1, hb2⟩, hk⟩ := h
    obtain rfl : a = 0 := by omega
    obtain rfl : b = 0 := by omega
    refine hcallG mix gS4 (fn := Try.f25) (by kernel_rfl) (by kernel_rfl) (by kernel_rfl) [] [] [.nils, .int .i64 0, .int .i64 0, .int .i64 m, fnO] rfl rfl rfl trivial rfl rfl (fun hr ho => (t_pdN I _ m).mpr ?_)
    refine ALoop.start [] [0, 1, 2, 3, 4, 10, 11] 0 (j_pdN m) (by kernel_rfl) (by kernel_rfl) ?_
    refine ALoop.stepg [] [0, 1, 2, 3, 4, 10, 11] 0 ?_
    exact (t_pdNR I _ _ m).mpr ⟨⟨⟨Int.le_refl _, Int.le_refl _⟩, Int.le_refl _, Int.le_refl _⟩, ⟨[], nx, rfl, trivial, rfl, rfl, hk⟩⟩
  · exact h.elim
end Go.Tb.W
