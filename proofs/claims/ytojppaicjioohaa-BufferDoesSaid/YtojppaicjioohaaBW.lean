/- Buffers: the document's functions, proved (but for Put). -/
import Derived.Test.YtojppaicjioohaaBQ
import Derived.Test.YtojppaicjioohaaBS
import Derived.Laws.Strings
set_option linter.all false
set_option maxRecDepth 100000
set_option maxHeartbeats 0
namespace Go.Tb.W
open Go Go.Proofs
variable {I : Interp O}
theorem isR_spec {hp : Tr (AO O)} {n nx : Nat} {Kn : Int → Int → Int → Prop} {K : Int → Int → Int → Nat → Nat → Nat → List Rw → Nat → Prop} (h : isR hp n nx Kn K) : (Nat.blt nx 16777215 = true ∧ hp.get nx = none) ∧
    ((∃ e s d m l c xs room, hp.get n = some (rO e s d (.sl m 0 l c)) ∧ both n m = true ∧ hp.get m = some (dO xs room) ∧ (l ≤ xs.length ∧ l ≤ 1000) ∧ K e s d m l c xs room) ∨ (∃ e s d, hp.get n = some (rO e s d .nils) ∧ Nat.blt n 16777215 = true ∧ Kn e s d)) := by
  unfold isR at h
  split at h
  · rename_i e s d m l c hg hnb hfr
    split at h
    · rename_i xs room hb hg2
      exact ⟨⟨hnb, hfr⟩, .inl ⟨e, s, d, m, l, c, xs, room, hg, hb, hg2, h.1, h.2⟩⟩
    · exact h.elim
  · rename_i e s d hg hnb hfr
    split at h
    · rename_i hb
      exact ⟨⟨hnb, hfr⟩, .inr ⟨e, s, d, hg, hb, h⟩⟩
    · exact h.elim
  · exact h.elim
theorem uniq2 {hp : Tr (AO O)} {n nx j : Nat} (hu : Nat.blt n 16777215 = true) (hfr : hp.get nx = none) (hnb : Nat.blt nx 16777215 = true) (hn : hp.get n ≠ none) (hj : lk (pairs 0 [n]) j = none) : uniq (pairs 0 [n] ++ [(j, nx)]) = true :=
  uniq_new hfr hnb (uniq1 hu) hj (by intro p hp; simp [pairs] at hp; subst hp; exact hn)
theorem uniq3 {hp : Tr (AO O)} {n m nx j : Nat} (hu : uniq (pairs 0 [n, m]) = true) (hfr : hp.get nx = none) (hnb : Nat.blt nx 16777215 = true) (hn : hp.get n ≠ none) (hm : hp.get m ≠ none) (hj : lk (pairs 0 [n, m]) j = none) : uniq (pairs 0 [n, m] ++ [(j, nx)]) = true :=
  uniq_new hfr hnb hu hj (by intro p hp; simp [pairs] at hp; rcases hp with rfl | rfl <;> assumption)
theorem thR_succ {xs : List Rw} {k : Nat} (h : k < xs.length) : thR xs (k + 1) = thR xs k ++ [prT xs[k]] := by
  unfold thR
  rw [List.take_succ_eq_append_getElem h, List.map_append]; rfl
theorem thR_len {xs : List Rw} {k : Nat} (h : k ≤ xs.length) : (thR xs k).length = k := by
  unfold thR; simp; omega
theorem k_rnew : ∀ (args : List AV) (hp : Tr (AO O)) (nx : Nat) (K : AV → Tr (AO O) → Nat → Prop), c_rnew args hp nx K → ACall I P 12 args hp (fun v hp' => ∃ nx', K v hp' nx') := by
  intro args hp nx K h
  unfold c_rnew at h; split at h
  · rename_i e r
    split at h
    · rename_i hnb hfr
      obtain ⟨h1, h2⟩ := h
      refine hcallN mix Gm.nil (fn := Try.f12) (by kernel_rfl) (by kernel_rfl) (by kernel_rfl) rfl hnb hfr rfl (fun v => .tup [v, .int .i64 0]) (fun hr => (t_rnew I _ e r).mpr ?_) (fun ι j => rfl) (fun d j h => by simp [nm, nms, h])
      have bad : (e < 1 ∨ 64 < e ∨ r < 1 ∨ 64 < r) → K (.tup [.nilp, .int .i64 1]) hp nx := fun hx => h1 (decide_eq_true hx)
      refine bsplit_both (fun a1 => .inl ⟨rfl, bad ?_⟩) (fun a1 => bsplit_both (fun a2 => .inl ⟨rfl, bad ?_⟩) (fun a2 => bsplit_both (fun a3 => .inl ⟨rfl, bad ?_⟩) (fun a3 => bsplit_both (fun a4 => .inl ⟨rfl, bad ?_⟩) (fun a4 => ?_))))
      · have := of_decide_eq_true a1; omega
      · have := of_decide_eq_true a2; omega
      · have := of_decide_eq_true a3; omega
      · have := of_decide_eq_true a4; omega
      · have a1 := of_decide_eq_false a1; have a2 := of_decide_eq_false a2; have a3 := of_decide_eq_false a3; have a4 := of_decide_eq_false a4
        exact .inr ⟨0, _, _, _, rfl, rfl, rfl, h2 (decide_eq_false (by omega))⟩
    · exact h.elim
  · exact h.elim
theorem eqb {x t : ByteArray} : (x.toList == t.toList) = decide (x = t) := by
  by_cases h : x = t
  · subst h; simp
  · rw [decide_eq_false h]
    have : x.toList ≠ t.toList := fun e => h (Go.WideShapes.bytes_inj (by rw [← ByteArray.toList_eq, ← ByteArray.toList_eq, e]))
    simpa using this
theorem k_rhas : ∀ (args : List AV) (hp : Tr (AO O)) (nx : Nat) (K : AV → Tr (AO O) → Nat → Prop), c_rhas args hp nx K → ACall I P 26 args hp (fun v hp' => ∃ nx', K v hp' nx') := by
  intro args hp nx K h
  unfold c_rhas at h; split at h
  · rename_i n i t
    obtain ⟨⟨hnb, hfr⟩, ⟨e, s, d, m, l, c, xs, room, hg, hb, hg2, ⟨h1, h2⟩, hk⟩ | ⟨e, s, d, hg, hb, hk⟩⟩ := isR_spec h
    · obtain ⟨hu, _⟩ := both_iff hb
      refine hcallG mix Gm.nil (fn := Try.f26) (by kernel_rfl) (by kernel_rfl) (by kernel_rfl) [n, m] [rO e s d (.sl 1 0 l c), dO xs room] [.ptr 0 0, .int .i64 i, .str t] rfl hu rfl ⟨hg, hg2, trivial⟩ rfl rfl (fun hr ho => (t_rhasA I _ e s d l c room xs i t).mpr ?_)
      refine ALoop.start [] [0, 1, 2, 7] 2 (j_rhA e s d l c room xs i t 0) (by kernel_rfl) (by kernel_rfl) ?_
      refine ALoop.invj (ps := []) (ts := [0, 1, 2, 7]) (nx := 2) (fun k : Nat => j_rhA e s d l c room xs i t (k : Nat)) (fun k => k ≤ l ∧ hasT (lineOf (thR xs k) i) t = false) (fun k => l - k) ?_ 0 ⟨Nat.zero_le _, rfl⟩
      rintro k ⟨g1, g2⟩
      refine (t_lrhA I _ _ e s d l c room xs i t (k : Nat)).mpr (bsplit_both (fun hx => ?_) (fun hx => ?_))
      · have hx := of_decide_eq_true hx
        have hkl : k < l := by omega
        have hkx : k < xs.length := by omega
        have hb' : decide ((0 : Int) ≤ (k : Int) ∧ (k : Int) < (l : Int)) = true := decide_eq_true ⟨by omega, hx⟩
        have hget : xs[((k : Nat) : Int).toNat]? = some xs[k] := by rw [Int.toNat_natCast]; exact List.getElem?_eq_getElem hkx
        have e3 : IntKind.i64.wrap ((k : Int) + 1) = ((k + 1 : Nat) : Int) := by rw [w_id (by omega) (by omega)]; omega
        rw [e3]
        refine must_mk hb' (xget_mk hget (bsplit_both (fun hi => must_mk hb' (xget_mk hget (bsplit_both (fun hy => ?_) (fun hy => ⟨k + 1, ⟨hkl, ?_⟩, by omega, rfl⟩)))) (fun hi => ⟨k + 1, ⟨hkl, ?_⟩, by omega, rfl⟩)))
        · have hi := eq_of_beq hi
          rw [eqb] at hy
          have hy := of_decide_eq_true hy
          have : hasT (lineOf (thR xs l) i) t = true := hasT_iff.2 (mem_line.2 (by
            unfold thR
            rw [← hi, ← hy]
            exact List.mem_map.2 ⟨xs[k], List.mem_take_iff_getElem.2 ⟨k, by omega, rfl⟩, rfl⟩))
          exact ⟨[], nx, hu, trivial, rfl, rfl, hk true this.symm⟩
        · have hi := eq_of_beq hi
          rw [eqb] at hy
          have hy := of_decide_eq_false hy
          rw [thR_succ hkx]
          show hasT (lineOf (thR xs k ++ [(xs[k].i 0, xs[k].s 1)]) i) t = false
          rw [line_snoc, if_pos hi, hasT_snoc, g2, decide_eq_false hy]; rfl
        · have hi := ne_of_beq_false hi
          rw [thR_succ hkx]
          show hasT (lineOf (thR xs k ++ [(xs[k].i 0, xs[k].s 1)]) i) t = false
          rw [line_snoc, if_neg hi]; exact g2
      · have hx := of_decide_eq_false hx
        have : k = l := by omega
        subst this
        exact ⟨[], nx, hu, trivial, rfl, rfl, hk false g2.symm⟩
    · refine hcallG mix Gm.nil (fn := Try.f26) (by kernel_rfl) (by kernel_rfl) (by kernel_rfl) [n] [rO e s d .nils] [.ptr 0 0, .int .i64 i, .str t] rfl (uniq1 hb) rfl ⟨hg, trivial⟩ rfl rfl (fun hr ho => (t_rhasN I _ e s d i t).mpr ?_)
      refine ALoop.start [] [0, 1, 2, 7] 1 (j_rhN e s d i t) (by kernel_rfl) (by kernel_rfl) ?_
      refine ALoop.stepg [] [0, 1, 2, 7] 1 ((t_lrhN I _ _ e s d i t).mpr ?_)
      exact ⟨[], nx, uniq1 hb, trivial, rfl, rfl, hk⟩
  · exact h.elim
theorem outR_snoc (lo hi : Int) (xs : List Rw) (x : Rw) : outR lo hi (xs ++ [x]) = outR lo hi xs ++ (if inI lo hi (x.i 0) = true then [x.s 1] else []) := by
  unfold outR
  rw [List.filter_append, List.map_append]
  cases h : inI lo hi (x.i 0) <;> simp [h]
theorem restR_snoc (lo hi : Int) (xs : List Rw) (x : Rw) : restR lo hi (xs ++ [x]) = restR lo hi xs ++ (if inI lo hi (x.i 0) = true then [] else [nT x]) := by
  unfold restR
  rw [List.filter_append, List.map_append]
  cases h : inI lo hi (x.i 0) <;> simp [h]
theorem out_le (lo hi : Int) (xs : List Rw) : (outR lo hi xs).length ≤ xs.length ∧ (restR lo hi xs).length ≤ xs.length := by
  unfold outR restR
  rw [List.length_map, List.length_map]
  exact ⟨List.length_filter_le .., List.length_filter_le ..⟩
theorem take_snoc {xs : List Rw} {k : Nat} (h : k < xs.length) : xs.take (k + 1) = xs.take k ++ [xs[k]] := List.take_succ_eq_append_getElem h
theorem rows_snoc (zs : List Rw) (x : Rw) : zs.take zs.length ++ (rwA [.int .i64 (x.i 0), .str (x.s 1)] :: []) = zs ++ [nT x] := by
  rw [List.take_length]; rfl
theorem uniq4 {hp : Tr (AO O)} {ps : List (Nat × Nat)} {nx j j' : Nat} (hu : uniq ps = true) (h1 : hp.get nx = none) (h2 : hp.get (nx + 1) = none) (b2 : Nat.blt (nx + 1) 16777215 = true) (hl : ∀ p ∈ ps, hp.get p.2 ≠ none) (hj : lk ps j = none) (hj' : lk ps j' = none) (hjj : j ≠ j') :
    uniq (ps ++ [(j, nx), (j', nx + 1)]) = true := by
  have b1 : Nat.blt nx 16777215 = true := blt_iff.2 (by have := blt_iff.1 b2; omega)
  have u1 := uniq_new h1 b1 hu hj hl
  have hh : lkr ps (nx + 1) = none := by
    cases h : lkr ps (nx + 1) with
    | none => rfl
    | some i =>
      exfalso
      have : (i, nx + 1) ∈ ps := by
        clear hu hj hj' u1 hl
        induction ps with
        | nil => cases h
        | cons a l ih =>
          obtain ⟨a, b⟩ := a
          simp only [lkr] at h
          cases hb : Nat.beq b (nx + 1) with
          | true => rw [hb] at h; cases h; have := Nat.eq_of_beq_eq_true hb; subst this; exact List.mem_cons_self ..
          | false => rw [hb] at h; exact List.mem_cons_of_mem _ (ih h)
      exact hl _ this h2
  have u2 : uniq ((ps ++ [(j, nx)]) ++ [(j', nx + 1)]) = true := uniq_snoc b2 u1 (by rw [lk_append, hj']; simp [lk, beq_no hjj]) (by rw [lkr_append, hh]; simp [lkr, beq_no (show ¬ nx = nx + 1 by omega)])
  rw [← u2]; simp
theorem free2_spec {hp : Tr (AO O)} {nx : Nat} {K : Prop} (h : free2 hp nx K) : Nat.blt (nx + 1) 16777215 = true ∧ hp.get (nx + 1) = none ∧ K := by
  unfold free2 at h
  split at h
  · rename_i a b; exact ⟨a, b, h⟩
  · exact h.elim
theorem k_rparted : ∀ (args : List AV) (hp : Tr (AO O)) (nx : Nat) (K : AV → Tr (AO O) → Nat → Prop), c_rparted args hp nx K → ACall I P 27 args hp (fun v hp' => ∃ nx', K v hp' nx') := by
  intro args hp nx K h
  unfold c_rparted at h; split at h
  · rename_i n lo hi
    obtain ⟨hnb2, hfr2, h⟩ := free2_spec h
    obtain ⟨⟨hnb, hfr⟩, ⟨e, s, d, m, l, c, xs, room, hg, hb, hg2, ⟨h1, h2⟩, hk⟩ | ⟨e, s, d, hg, hb, hk⟩⟩ := isR_spec h
    · obtain ⟨hu, _⟩ := both_iff hb
      have hk := hk _ _ rfl rfl
      refine hcallG mix Gm.nil (fn := Try.f27) (by kernel_rfl) (by kernel_rfl) (by kernel_rfl) [n, m] [rO e s d (.sl 1 0 l c), dO xs room] [.ptr 0 0, .int .i64 lo, .int .i64 hi] rfl hu rfl ⟨hg, hg2, trivial⟩ rfl rfl (fun hr ho => (t_rptA I _ e s d l c room xs lo hi).mpr ?_)
      refine ALoop.weak (Weak.asRows (n := 2) (l := 0) (sh := [.s]) (xs := []) rfl rfl rfl rfl) ?_
      refine ALoop.weak (Weak.asRows (n := 3) (l := 0) (sh := [.i .i64, .s]) (xs := []) rfl rfl rfl rfl) ?_
      refine ALoop.start [(2, 2), (3, 3)] [0, 1, 2, 8, 9, 10] 4 (j_rpA e s d l c room xs lo hi 0 0 [] 0 0 0 [] 0 0) (by kernel_rfl) (by kernel_rfl) ?_
      refine ALoop.invjL (pss := [[(2, 2), (3, 3)], [(4, 2), (3, 3)], [(5, 2), (3, 3)], [(6, 2), (3, 3)], [(2, 2), (4, 3)], [(2, 2), (5, 3)], [(2, 2), (6, 3)]]) (ts := [0, 1, 2, 8, 9, 10]) (nx := 4) (fun x : Nat × Nat × Nat × Nat × Nat => j_rpA e s d l c room xs lo hi (outR lo hi (xs.take x.1)).length x.2.1 ((outR lo hi (xs.take x.1)).map rowT) x.2.2.1 (restR lo hi (xs.take x.1)).length x.2.2.2.1 (restR lo hi (xs.take x.1)) x.2.2.2.2 (x.1 : Nat)) (fun x => x.1 ≤ l ∧ x.2.1 * 1 ≤ x.2.2.1 ∧ x.2.2.2.1 * 2 ≤ x.2.2.2.2) (fun x => l - x.1) ?_ (0, 0, 0, 0, 0) ⟨Nat.zero_le _, Nat.le_refl _, Nat.le_refl _⟩
      rintro ⟨k, c1, r1, c2, r2⟩ ⟨g1, g2, g3⟩
      simp only at g1 g2 g3 ⊢
      obtain ⟨o1, o2⟩ := out_le lo hi (xs.take k)
      have hlt : (xs.take k).length ≤ k := by simp; omega
      refine (t_lrpA I _ _ e s d l c room xs lo hi _ c1 _ r1 _ c2 _ r2 (k : Nat)).mpr (bsplit_both (fun hx => ?_) (fun hx => ?_))
      · have hx := of_decide_eq_true hx
        have hkl : k < l := by omega
        have hkx : k < xs.length := by omega
        have hb' : decide ((0 : Int) ≤ (k : Int) ∧ (k : Int) < (l : Int)) = true := decide_eq_true ⟨by omega, hx⟩
        have hget : xs[((k : Nat) : Int).toNat]? = some xs[k] := by rw [Int.toNat_natCast]; exact List.getElem?_eq_getElem hkx
        have e3 : IntKind.i64.wrap ((k : Int) + 1) = ((k + 1 : Nat) : Int) := by rw [w_id (by omega) (by omega)]; omega
        rw [e3]
        have m1 : ((outR lo hi (xs.take k)).length.ble ((outR lo hi (xs.take k)).map rowT).length && (c1 * [Sh.s].length).ble r1 && Nat.blt 2 16777215) = true := by
          simp [Nat.ble_eq]; omega
        have m2 : ((restR lo hi (xs.take k)).length.ble (restR lo hi (xs.take k)).length && (c2 * [Sh.i IntKind.i64, Sh.s].length).ble r2 && Nat.blt 3 16777215) = true := by
          simp [Nat.ble_eq]; omega
        have yes : inI lo hi (xs[k].i 0) = true → _ := fun hin => (show (List.take (outR lo hi (xs.take k)).length ((outR lo hi (xs.take k)).map rowT)) ++ ((rwA [(.str ((xs[k]).s 1))]) :: []) = (outR lo hi (xs.take (k + 1))).map rowT ∧ (outR lo hi (xs.take k)).length + 1 = (outR lo hi (xs.take (k + 1))).length ∧ restR lo hi (xs.take k) = restR lo hi (xs.take (k + 1)) from by
          rw [take_snoc hkx, outR_snoc, restR_snoc, hin, if_pos rfl, if_pos rfl]
          exact ⟨map_snoc _ _, by simp, by simp⟩)
        have no : inI lo hi (xs[k].i 0) = false → _ := fun hin => (show (List.take (restR lo hi (xs.take k)).length (restR lo hi (xs.take k))) ++ ((rwA [(.int IntKind.i64 ((xs[k]).i 0)), (.str ((xs[k]).s 1))]) :: []) = restR lo hi (xs.take (k + 1)) ∧ (restR lo hi (xs.take k)).length + 1 = (restR lo hi (xs.take (k + 1))).length ∧ outR lo hi (xs.take k) = outR lo hi (xs.take (k + 1)) from by
          rw [take_snoc hkx, outR_snoc, restR_snoc, hin, if_neg (by simp), if_neg (by simp)]
          exact ⟨rows_snoc _ _, by simp, by simp⟩)
        refine must_mk hb' (xget_mk hget (bsplit_both (fun hlo => must_mk hb' (xget_mk hget (bsplit_both (fun hhi => must_mk hb' (xget_mk hget (must_mk m1 ⟨by omega, fun c' q1 q2 => ?_⟩))) (fun hhi => must_mk hb' (xget_mk hget (must_mk m2 ⟨by omega, fun c' q1 q2 => ?_⟩)))))) (fun hlo => must_mk hb' (xget_mk hget (must_mk m2 ⟨by omega, fun c' q1 q2 => ?_⟩)))))
        · have hin : inI lo hi (xs[k].i 0) = true := by
            have a := of_decide_eq_true hlo; have b := of_decide_eq_true hhi
            simp [inI]; omega
          obtain ⟨y1, y2, y3⟩ := yes hin
          refine ⟨(k + 1, c', c' * 1, c2, r2), ⟨hkl, Nat.le_refl _, g3⟩, by show l - (k + 1) < l - k; omega, ?_⟩
          show _ = j_rpA e s d l c room xs lo hi (outR lo hi (xs.take (k + 1))).length c' ((outR lo hi (xs.take (k + 1))).map rowT) (c' * 1) (restR lo hi (xs.take (k + 1))).length c2 (restR lo hi (xs.take (k + 1))) r2 ((k + 1 : Nat) : Int)
          rw [y1, y2, y3]
          rfl
        · have hin : inI lo hi (xs[k].i 0) = false := by
            have b := of_decide_eq_false hhi
            simp [inI]; omega
          obtain ⟨y1, y2, y3⟩ := no hin
          refine ⟨(k + 1, c1, r1, c', c' * 2), ⟨hkl, g2, Nat.le_refl _⟩, by show l - (k + 1) < l - k; omega, ?_⟩
          show _ = j_rpA e s d l c room xs lo hi (outR lo hi (xs.take (k + 1))).length c1 ((outR lo hi (xs.take (k + 1))).map rowT) r1 (restR lo hi (xs.take (k + 1))).length c' (restR lo hi (xs.take (k + 1))) (c' * 2) ((k + 1 : Nat) : Int)
          rw [y1, y2, y3]
          rfl
        · have hin : inI lo hi (xs[k].i 0) = false := by
            have b := of_decide_eq_false hlo
            simp [inI]; omega
          obtain ⟨y1, y2, y3⟩ := no hin
          refine ⟨(k + 1, c1, r1, c', c' * 2), ⟨hkl, g2, Nat.le_refl _⟩, by show l - (k + 1) < l - k; omega, ?_⟩
          show _ = j_rpA e s d l c room xs lo hi (outR lo hi (xs.take (k + 1))).length c1 ((outR lo hi (xs.take (k + 1))).map rowT) r1 (restR lo hi (xs.take (k + 1))).length c' (restR lo hi (xs.take (k + 1))) (c' * 2) ((k + 1 : Nat) : Int)
          rw [y1, y2, y3]
          rfl
      · have hx := of_decide_eq_false hx
        have : k = l := by omega
        subst this
        exact ⟨[(2, nx), (3, nx + 1)], nx + 2, uniq4 hu hfr hfr2 hnb2 (by intro p hp; simp [pairs] at hp; rcases hp with rfl | rfl <;> simp [hg, hg2]) rfl rfl (by decide), ⟨hfr, hfr2, trivial⟩, rfl, rfl, hk c1 r1 c2 r2⟩
    · refine hcallG mix Gm.nil (fn := Try.f27) (by kernel_rfl) (by kernel_rfl) (by kernel_rfl) [n] [rO e s d .nils] [.ptr 0 0, .int .i64 lo, .int .i64 hi] rfl (uniq1 hb) rfl ⟨hg, trivial⟩ rfl rfl (fun hr ho => (t_rptN I _ e s d lo hi).mpr ?_)
      refine ALoop.weak (Weak.asRows (n := 1) (l := 0) (sh := [.s]) (xs := []) rfl rfl rfl rfl) ?_
      refine ALoop.weak (Weak.asRows (n := 2) (l := 0) (sh := [.i .i64, .s]) (xs := []) rfl rfl rfl rfl) ?_
      refine ALoop.start [(1, 1), (2, 2)] [0, 1, 2, 8, 9, 10] 3 (j_rpN e s d lo hi) (by kernel_rfl) (by kernel_rfl) ?_
      refine ALoop.stepg [(1, 1), (2, 2)] [0, 1, 2, 8, 9, 10] 3 ((t_lrpN I _ _ e s d lo hi).mpr ?_)
      exact ⟨[(1, nx), (2, nx + 1)], nx + 2, uniq4 (uniq1 hb) hfr hfr2 hnb2 (by intro p hp; simp [pairs] at hp; subst hp; simp [hg]) rfl rfl (by decide), ⟨hfr, hfr2, trivial⟩, rfl, rfl, hk 0 0 0 0⟩
  · exact h.elim
end Go.Tb.W
