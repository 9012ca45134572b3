/- Buffers: the document's Intervals, proved. -/
import Derived.Test.YtojppaicjioohaaBW
set_option linter.all false
set_option maxRecDepth 100000
set_option maxHeartbeats 0
namespace Go.Tb.W
open Go Go.Proofs
def insD (v : Int) (A : List Int) : List Int := A.filter (fun a => decide (a < v)) ++ v :: A.filter (fun a => decide (v < a))
theorem insD_mem {v a : Int} {A : List Int} : a ∈ insD v A ↔ a = v ∨ a ∈ A := by
  unfold insD
  simp only [List.mem_append, List.mem_cons, List.mem_filter, decide_eq_true_eq]
  constructor
  · rintro (⟨h, _⟩ | h | ⟨h, _⟩)
    · exact .inr h
    · exact .inl h
    · exact .inr h
  · rintro (h | h)
    · exact .inr (.inl h)
    · rcases Int.lt_trichotomy a v with h' | h' | h'
      · exact .inl ⟨h, h'⟩
      · exact .inr (.inl h')
      · exact .inr (.inr ⟨h, h'⟩)
theorem insD_so {v : Int} {A : List Int} (h : A.Pairwise (fun x y => x < y)) : (insD v A).Pairwise (fun x y => x < y) := by
  unfold insD
  refine List.pairwise_append.2 ⟨h.sublist (List.filter_sublist ..), List.pairwise_cons.2 ⟨fun y hy => of_decide_eq_true (List.mem_filter.1 hy).2, h.sublist (List.filter_sublist ..)⟩, fun x hx y hy => ?_⟩
  have hx := of_decide_eq_true (List.mem_filter.1 hx).2
  rcases List.mem_cons.1 hy with rfl | hy
  · exact hx
  · have := of_decide_eq_true (List.mem_filter.1 hy).2
    omega
theorem insD_len (v : Int) (A : List Int) (h : A.Pairwise (fun x y => x < y)) : (insD v A).length ≤ A.length + 1 := by
  have : (insD v A).length ≤ (v :: A).length := nd_len ((insD_so h).imp fun h e => by omega) fun a ha => by
    rcases insD_mem.1 ha with rfl | h
    · exact List.mem_cons_self ..
    · exact List.mem_cons_of_mem _ h
  simpa using this
theorem insD_all {v : Int} {A : List Int} (h : ∀ a ∈ A, a < v) : insD v A = A ++ [v] := by
  unfold insD
  rw [List.filter_eq_self.2 (fun a ha => decide_eq_true (h a ha)), List.filter_eq_nil_iff.2 (fun a ha => by have := h a ha; simp; omega)]
theorem insD_gt {v a : Int} {A : List Int} (h : v < a) : insD v (A ++ [a]) = insD v A ++ [a] := by
  unfold insD
  have h' : ¬ a < v := by omega
  simp [List.filter_append, h, h']
theorem insD_eq {v : Int} {A : List Int} (h : ∀ a ∈ A, a < v) : insD v (A ++ [v]) = A ++ [v] := by
  unfold insD
  rw [List.filter_append, List.filter_append, List.filter_eq_self.2 (fun a ha => decide_eq_true (h a ha)), (List.filter_eq_nil_iff (p := fun a => decide (v < a)) (l := A)).2 (fun a ha => by have := h a ha; simp; omega)]
  simp
theorem rowsI_snoc (Z : List Int) (x : Rw) : List.take Z.length (Z.map rowI) ++ (rwA [.int .i64 (x.i 0)] :: []) = (Z ++ [x.i 0]).map rowI := by
  rw [List.take_of_length_le (by simp), List.map_append]; rfl
theorem rowsI_two (Z : List Int) (x y : Rw) : List.take (Z.length + 1) (List.take Z.length (Z.map rowI) ++ [rwA [encS y 0 (Sh.i .i64)]]) ++ (rwA [.int .i64 (x.i 0)] :: []) = (Z ++ [y.i 0] ++ [x.i 0]).map rowI := by
  have h := rowsI_snoc Z y
  have h : List.take Z.length (Z.map rowI) ++ [rwA [encS y 0 (Sh.i .i64)]] = (Z ++ [y.i 0]).map rowI := h
  rw [h, show Z.length + 1 = (Z ++ [y.i 0]).length by simp, rowsI_snoc]
theorem so_eq {A : List Int} {th : Th} (h : A.Pairwise (fun x y => x < y)) (hm : ∀ a, a ∈ A ↔ a ∈ keysOf th) : srt (keysOf th) = A := by
  have hp : A.Perm (keysOf th) := (List.perm_ext_iff_of_nodup (h.imp fun h e => by omega) keys_nd).2 hm
  have e1 : srt A = srt (keysOf th) := mergeSort_of_perm_i hp
  rw [← e1]
  exact List.mergeSort_of_pairwise (h.imp fun h => decide_eq_true (Int.le_of_lt h))
variable {I : Interp O}
theorem k_rivs : ∀ (args : List AV) (hp : Tr (AO O)) (nx : Nat) (K : AV → Tr (AO O) → Nat → Prop), c_rivs args hp nx K → ACall I P 22 args hp (fun v hp' => ∃ nx', K v hp' nx') := by
  intro args hp nx K h
  unfold c_rivs at h; split at h
  · rename_i n
    obtain ⟨⟨hnb, hfr⟩, ⟨e, s, d, m, l, c, xs, room, hg, hb, hg2, ⟨h1, h2⟩, hk⟩ | ⟨e, s, d, hg, hb, hk⟩⟩ := isR_spec h
    · obtain ⟨hu, _⟩ := both_iff hb
      refine hcallG mix Gm.nil (fn := Try.f22) (by kernel_rfl) (by kernel_rfl) (by kernel_rfl) [n, m] [rO e s d (.sl 1 0 l c), dO xs room] [.ptr 0 0] rfl hu rfl ⟨hg, hg2, trivial⟩ rfl rfl (fun hr ho => (t_rivA I _ e s d l c room xs).mpr ?_)
      refine ALoop.weak (Weak.asRows (n := 2) (l := 0) (sh := [.i .i64]) (xs := []) rfl rfl rfl rfl) ?_
      refine ALoop.start [(2, 2)] [0, 3, 4] 3 (j_riA e s d l c room xs 0 0 [] 0 0) (by kernel_rfl) (by kernel_rfl) ?_
      refine ALoop.invjL (pss := [[(2, 2)], [(3, 2)], [(4, 2)], [(5, 2)], [(6, 2)]]) (ts := [0, 3, 4]) (nx := 3) (fun x : List Int × Nat × Nat × Nat => j_riA e s d l c room xs x.1.length x.2.1 (x.1.map rowI) x.2.2.1 (x.2.2.2 : Nat)) (fun x => (x.2.2.2 ≤ l ∧ x.2.1 * 1 ≤ x.2.2.1) ∧ x.1.Pairwise (fun x y => x < y) ∧ x.1.length ≤ x.2.2.2 ∧ ∀ a, a ∈ x.1 ↔ a ∈ keysOf (thR xs x.2.2.2)) (fun x => l - x.2.2.2) ?_ ([], 0, 0, 0) ⟨⟨Nat.zero_le _, Nat.le_refl _⟩, .nil, Nat.le_refl _, fun a => Iff.rfl⟩
      rintro ⟨A, d2, r2, i⟩ ⟨⟨g1, g2⟩, g3, g4, g5⟩
      simp only at g1 g2 g3 g4 g5 ⊢
      refine (t_lriA I _ _ e s d l c room xs A.length d2 (A.map rowI) r2 (i : Nat)).mpr (bsplit_both (fun hx => ?_) (fun hx => ?_))
      · have hx := of_decide_eq_true hx
        have hil : i < l := by omega
        have hix : i < xs.length := by omega
        have hbi : decide ((0 : Int) ≤ (i : Int) ∧ (i : Int) < (l : Int)) = true := decide_eq_true ⟨by omega, hx⟩
        have hgi : xs[((i : Nat) : Int).toNat]? = some xs[i] := by rw [Int.toNat_natCast]; exact List.getElem?_eq_getElem hix
        have e3 : IntKind.i64.wrap ((i : Int) + 1) = ((i + 1 : Nat) : Int) := by rw [w_id (by omega) (by omega)]; omega
        obtain ⟨v, hv⟩ : ∃ v, xs[i].i 0 = v := ⟨_, rfl⟩
        have gd : (insD v A).Pairwise (fun x y => x < y) := insD_so g3
        have gl := insD_len v A g3
        have gm : ∀ a, a ∈ insD v A ↔ a ∈ keysOf (thR xs (i + 1)) := fun a => by
          rw [thR_succ hix, insD_mem, g5, key_line, key_line]
          show _ ↔ lineOf (thR xs i ++ [(xs[i].i 0, xs[i].s 1)]) a ≠ []
          rw [line_snoc, hv]
          by_cases e : v = a
          · simp [e]
          · rw [if_neg e]
            exact ⟨fun h => h.resolve_left (fun h => e h.symm), .inr⟩
        refine ALoop.weak (Weak.asRows (n := 3) (l := 0) (sh := [.i .i64]) (xs := []) rfl rfl rfl rfl) ?_
        refine ALoop.start [(2, 2), (3, 3)] [0, 3, 4, 5, 6, 7] 4 (j_rj e s d l c room xs A.length d2 (A.map rowI) r2 (i : Nat) 0 0 [] 0 false 0) (by kernel_rfl) (by kernel_rfl) ?_
        refine ALoop.invjL (pss := [[(2, 2), (3, 3)], [(2, 2), (4, 3)], [(2, 2), (5, 3)], [(2, 2), (6, 3)], [(2, 2), (7, 3)], [(2, 2), (8, 3)]]) (ts := [0, 3, 4, 5, 6, 7]) (nx := 4) (fun x : List Int × Nat × Nat × Bool × Nat => j_rj e s d l c room xs A.length d2 (A.map rowI) r2 (i : Nat) x.1.length x.2.1 (x.1.map rowI) x.2.2.1 x.2.2.2.1 (x.2.2.2.2 : Nat))
          (fun x => (x.2.2.2.2 ≤ A.length ∧ x.2.1 * 1 ≤ x.2.2.1) ∧ ((x.2.2.2.1 = false ∧ x.1 = A.take x.2.2.2.2 ∧ ∀ a ∈ A.take x.2.2.2.2, a < v) ∨ (x.2.2.2.1 = true ∧ x.1 = insD v (A.take x.2.2.2.2) ∧ ∀ a ∈ A.drop x.2.2.2.2, v < a))) (fun x => A.length - x.2.2.2.2) ?_ ([], 0, 0, false, 0) ⟨⟨Nat.zero_le _, Nat.le_refl _⟩, .inl ⟨rfl, rfl, fun a ha => (by cases ha)⟩⟩
        rintro ⟨Z, c3, r3, dn, k⟩ ⟨⟨f1, f2⟩, f3⟩
        simp only at f1 f2 f3 ⊢
        have fl : Z.length ≤ k + 1 := by
          rcases f3 with ⟨_, h, _⟩ | ⟨_, h, _⟩
          · rw [h]; simp; omega
          · rw [h]
            have := insD_len v (A.take k) (g3.sublist (List.take_sublist ..))
            simp at this; omega
        have m3 : (Z.length.ble (Z.map rowI).length && (c3 * [Sh.i IntKind.i64].length).ble r3 && Nat.blt 3 16777215) = true := by
          simp [Nat.ble_eq]; omega
        refine (t_lrj I _ _ _ e s d l c room xs A.length d2 (A.map rowI) r2 (i : Nat) Z.length c3 (Z.map rowI) r3 dn (k : Nat)).mpr (bsplit_both (fun hy => ?_) (fun hy => ?_))
        · have hy := of_decide_eq_true hy
          have hkA : k < A.length := by omega
          have hbk : decide ((0 : Int) ≤ (k : Int) ∧ (k : Int) < (A.length : Int)) = true := decide_eq_true ⟨by omega, hy⟩
          have hgk : (A.map rowI)[((k : Nat) : Int).toNat]? = some (rowI A[k]) := by rw [Int.toNat_natCast, List.getElem?_map, List.getElem?_eq_getElem hkA]; rfl
          have e4 : IntKind.i64.wrap ((k : Int) + 1) = ((k + 1 : Nat) : Int) := by rw [w_id (by omega) (by omega)]; omega
          rw [e4]
          have tk : A.take (k + 1) = A.take k ++ [A[k]] := List.take_succ_eq_append_getElem hkA
          have dk : A.drop k = A[k] :: A.drop (k + 1) := List.drop_eq_getElem_cons hkA
          have gt : ∀ a ∈ A.drop (k + 1), A[k] < a := by
            have := g3.sublist (List.drop_sublist k A)
            rw [dk] at this
            exact (List.pairwise_cons.1 this).1
          rcases f3 with ⟨rfl, hZ, hlt⟩ | ⟨rfl, hZ, hgt⟩
          · refine bs_t rfl (must_mk hbk (xget_mk hgk (must_mk hbi (xget_mk hgi (bsplit_both (fun hle => must_mk hbk (xget_mk hgk (must_mk hbi (xget_mk hgi (bsplit_both (fun hl2 => must_mk hbi (xget_mk hgi (must_mk m3 ⟨by omega, fun c5 q1 q2 => must_mk hbk (xget_mk hgk (must_mk ?_ ⟨by omega, fun c7 q3 q4 => ?_⟩))⟩))) (fun hl2 => must_mk hbk (xget_mk hgk (must_mk m3 ⟨by omega, fun c5 q1 q2 => ?_⟩)))))))) (fun hle => must_mk hbk (xget_mk hgk (must_mk m3 ⟨by omega, fun c5 q1 q2 => ?_⟩))))))))
            · simp [Nat.ble_eq]
            · have hl2 : v < A[k] := by have := of_decide_eq_true hl2; rw [hv] at this; exact this
              rw [rowsI_two]
              refine ⟨(Z ++ [v] ++ [A[k]], c7, c7 * 1, true, k + 1), ⟨⟨hkA, Nat.le_refl _⟩, .inr ⟨rfl, ?_, fun a ha => Int.lt_trans hl2 (gt a ha)⟩⟩, by show A.length - (k + 1) < A.length - k; omega, ?_⟩
              · show Z ++ [v] ++ [A[k]] = insD v (A.take (k + 1))
                rw [tk, insD_gt hl2, insD_all hlt, hZ]
              · rw [hv, show Z.length + 1 + 1 = (Z ++ [v] ++ [A[k]]).length by simp]; rfl
            · have hle : v ≤ A[k] := by have := of_decide_eq_true hle; rw [hv] at this; exact this
              have hl2 : ¬ v < A[k] := by have := of_decide_eq_false hl2; rw [hv] at this; exact this
              have hve : A[k] = v := by omega
              rw [rowsI_snoc]
              refine ⟨(Z ++ [A[k]], c5, c5 * 1, true, k + 1), ⟨⟨hkA, Nat.le_refl _⟩, .inr ⟨rfl, ?_, fun a ha => by have := gt a ha; rw [hve] at this; exact this⟩⟩, by show A.length - (k + 1) < A.length - k; omega, ?_⟩
              · show Z ++ [A[k]] = insD v (A.take (k + 1))
                rw [tk, hve, insD_eq hlt, hZ]
              · rw [show Z.length + 1 = (Z ++ [A[k]]).length by simp]; rfl
            · have hle : A[k] < v := by have := of_decide_eq_false hle; rw [hv] at this; exact Int.not_le.1 this
              rw [rowsI_snoc]
              refine ⟨(Z ++ [A[k]], c5, c5 * 1, false, k + 1), ⟨⟨hkA, Nat.le_refl _⟩, .inl ⟨rfl, ?_, fun a ha => ?_⟩⟩, by show A.length - (k + 1) < A.length - k; omega, ?_⟩
              · show Z ++ [A[k]] = A.take (k + 1)
                rw [tk, hZ]
              · have ha : a ∈ A.take (k + 1) := ha
                rw [tk] at ha
                rcases List.mem_append.1 ha with ha | ha
                · exact hlt a ha
                · simp at ha; subst ha; exact hle
              · rw [show Z.length + 1 = (Z ++ [A[k]]).length by simp]; rfl
          · refine bs_f rfl (must_mk hbk (xget_mk hgk (must_mk m3 ⟨by omega, fun c5 q1 q2 => ?_⟩)))
            have hvk : v < A[k] := hgt _ (by rw [dk]; exact List.mem_cons_self ..)
            rw [rowsI_snoc]
            refine ⟨(Z ++ [A[k]], c5, c5 * 1, true, k + 1), ⟨⟨hkA, Nat.le_refl _⟩, .inr ⟨rfl, ?_, fun a ha => Int.lt_trans hvk (gt a ha)⟩⟩, by show A.length - (k + 1) < A.length - k; omega, ?_⟩
            · show Z ++ [A[k]] = insD v (A.take (k + 1))
              rw [tk, insD_gt hvk, hZ]
            · rw [show Z.length + 1 = (Z ++ [A[k]]).length by simp]; rfl
        · have hy := of_decide_eq_false hy
          have hkA : k = A.length := by omega
          subst hkA
          rw [e3]
          rcases f3 with ⟨rfl, hZ, hlt⟩ | ⟨rfl, hZ, hgt⟩
          · refine bs_t rfl (must_mk hbi (xget_mk hgi (must_mk m3 ⟨by omega, fun c5 q1 q2 => ?_⟩)))
            rw [rowsI_snoc]
            rw [List.take_length] at hZ hlt
            refine ⟨(insD v A, c5, c5 * 1, i + 1), ⟨⟨hil, Nat.le_refl _⟩, gd, by show (insD v A).length ≤ i + 1; omega, gm⟩, by show l - (i + 1) < l - i; omega, ?_⟩
            rw [hv, show Z.length + 1 = (Z ++ [v]).length by simp, hZ, ← insD_all hlt]; rfl
          · refine bs_f rfl ?_
            rw [List.take_length] at hZ
            refine ⟨(insD v A, c3, r3, i + 1), ⟨⟨hil, f2⟩, gd, by show (insD v A).length ≤ i + 1; omega, gm⟩, by show l - (i + 1) < l - i; omega, ?_⟩
            rw [hZ]; rfl
      · have hx := of_decide_eq_false hx
        have : i = l := by omega
        subst this
        have hk := hk A (so_eq g3 g5).symm d2 r2
        exact ⟨[(2, nx)], nx + 1, uniq3 hu hfr hnb (by rw [hg]; simp) (by rw [hg2]; simp) rfl, ⟨hfr, trivial⟩, rfl, rfl, hk⟩
    · refine hcallG mix Gm.nil (fn := Try.f22) (by kernel_rfl) (by kernel_rfl) (by kernel_rfl) [n] [rO e s d .nils] [.ptr 0 0] rfl (uniq1 hb) rfl ⟨hg, trivial⟩ rfl rfl (fun hr ho => (t_rivN I _ e s d).mpr ?_)
      refine ALoop.weak (Weak.asRows (n := 1) (l := 0) (sh := [.i .i64]) (xs := []) rfl rfl rfl rfl) ?_
      refine ALoop.start [(1, 1)] [0, 3, 4] 2 (j_riN e s d) (by kernel_rfl) (by kernel_rfl) ?_
      refine ALoop.stepg [(1, 1)] [0, 3, 4] 2 ((t_lriN I _ _ e s d).mpr ?_)
      exact ⟨[(1, nx)], nx + 1, uniq2 hb hfr hnb (by rw [hg]; simp) rfl, ⟨hfr, trivial⟩, rfl, rfl, hk 0 0⟩
  · exact h.elim
theorem gR1 : GOk I P (Gm R1) := Gm.consH (Gm.consH Gm.nil k_rparted) k_rivs
end Go.Tb.W
