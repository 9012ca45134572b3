/- Buffers: the document's Put, Take and Drop, proved. -/
import Derived.Test.YtojppaicjioohaaBX
import Derived.Test.YtojppaicjioohaaBR2
set_option linter.all false
set_option maxRecDepth 100000
set_option maxHeartbeats 0
namespace Go.Tb.W
open Go Go.Proofs
variable {I : Interp O}
theorem zero_add2 (l : Nat) : (0 : Nat) + l = l := Nat.zero_add l
theorem take_app (xs : List Rw) (l : Nat) (h : l ≤ xs.length) (r : Rw) : List.take (0 + l) (([] : List Rw) ++ List.take l xs) ++ (r :: []) = xs.take l ++ [r] := by
  rw [Nat.zero_add, List.nil_append, List.take_take, Nat.min_self]
theorem k_rput : ∀ (args : List AV) (hp : Tr (AO O)) (nx : Nat) (K : AV → Tr (AO O) → Nat → Prop), c_rput args hp nx K → ACall I P 15 args hp (fun v hp' => ∃ nx', K v hp' nx') := by
  intro args hp nx K h
  unfold c_rput at h; split at h
  · rename_i n i t
    obtain ⟨⟨hnb, hfr⟩, ⟨e, s, d, m, l, c, xs, room, hg, hb, hg2, ⟨h1, h2⟩, ⟨⟨d0, d1⟩, hks⟩, hk⟩ | ⟨e, s, d, hg, hb, ⟨⟨d0, d1⟩, hs0⟩, hk⟩⟩ := isR_spec h
    · obtain ⟨hu, _⟩ := both_iff hb
      obtain ⟨hk0, hk1⟩ := hk _ _ rfl rfl
      have hw : IntKind.i64.wrap (d + 1) = d + 1 := w_id (by omega) (by omega)
      have bads : ∀ cc, putC ⟨e, s, thR xs l, d⟩ i t = cc → cc ≠ 0 → cc ≠ 4 → K (.int .i64 cc) (sameR hp n m e s d l c xs room) nx := fun cc h1 h2 h3 => by
        have := hk1 (by rw [h1]; exact h2)
        have e2 : putS ⟨e, s, thR xs l, d⟩ i t = ⟨e, s, thR xs l, d⟩ := by unfold putS; rw [h1, if_neg h2, if_neg h3]
        rw [h1, e2] at this; exact this
      have many : putC ⟨e, s, thR xs l, d⟩ i t = 4 → K (.int .i64 4) (sameR hp n m e s (d + 1) l c xs room) nx := fun h1 => by
        have := hk1 (by rw [h1]; decide)
        have e2 : putS ⟨e, s, thR xs l, d⟩ i t = ⟨e, s, thR xs l, d + 1⟩ := by unfold putS; rw [h1]; rfl
        rw [h1, e2] at this; exact this
      refine hcallG mix gR1 (fn := Try.f15) (by kernel_rfl) (by kernel_rfl) (by kernel_rfl) [n, m] [rO e s d (.sl 1 0 l c), dO xs room] [.ptr 0 0, .int .i64 i, .str t] rfl hu rfl ⟨hg, hg2, trivial⟩ rfl rfl (fun hr ho => (t_rputA I _ e s d l c room xs i t).mpr (bsplit_both (fun hi => ?_) (fun hi => ?_)))
      · have hi := of_decide_eq_true hi
        exact ⟨[], nx, hu, trivial, rfl, rfl, bads 1 (put_bad hi).1 (by decide) (by decide)⟩
      have hi := of_decide_eq_false hi
      refine ALoop.start [] [0, 1, 2, 7, 8] 2 (j_ruA e s d l c room xs i t 0 0) (by kernel_rfl) (by kernel_rfl) ?_
      refine ALoop.invj (ps := []) (ts := [0, 1, 2, 7, 8]) (nx := 2) (fun k : Nat => j_ruA e s d l c room xs i t ((lineOf (thR xs k) i).length : Nat) (k : Nat)) (fun k => k ≤ l ∧ hasT (lineOf (thR xs k) i) t = false) (fun k => l - k) ?_ 0 ⟨Nat.zero_le _, rfl⟩
      rintro k ⟨g1, g2⟩
      have gl : (lineOf (thR xs k) i).length ≤ k := by
        have h3 := line_len (thR xs k) i
        have h4 := thR_len (xs := xs) (k := k) (by omega)
        omega
      refine (t_lruA I _ _ e s d l c room xs i t ((lineOf (thR xs k) i).length : Nat) (k : Nat)).mpr (bsplit_both (fun hx => ?_) (fun hx => ?_))
      · have hx := of_decide_eq_true hx
        have hkl : k < l := by omega
        have hkx : k < xs.length := by omega
        have hb' : decide ((0 : Int) ≤ (k : Int) ∧ (k : Int) < (l : Int)) = true := decide_eq_true ⟨by omega, hx⟩
        have hget : xs[((k : Nat) : Int).toNat]? = some xs[k] := by rw [Int.toNat_natCast]; exact List.getElem?_eq_getElem hkx
        have e3 : IntKind.i64.wrap ((k : Int) + 1) = ((k + 1 : Nat) : Int) := by rw [w_id (by omega) (by omega)]; omega
        have e4 : IntKind.i64.wrap (((lineOf (thR xs k) i).length : Int) + 1) = (((lineOf (thR xs k) i).length + 1 : Nat) : Int) := by rw [w_id (by omega) (by omega)]; omega
        rw [e3, e4]
        have snoc : lineOf (thR xs (k + 1)) i = if xs[k].i 0 = i then lineOf (thR xs k) i ++ [xs[k].s 1] else lineOf (thR xs k) i := by
          rw [thR_succ hkx]; exact line_snoc (thR xs k) (xs[k].i 0) (xs[k].s 1) i
        refine must_mk hb' (xget_mk hget (bsplit_both (fun hii => must_mk hb' (xget_mk hget (bsplit_both (fun hy => ?_) (fun hy => must_mk hb' (xget_mk hget (bs_t hii ⟨k + 1, ⟨hkl, ?_⟩, by omega, ?_⟩)))))) (fun hii => must_mk hb' (xget_mk hget (bs_f hii ⟨k + 1, ⟨hkl, ?_⟩, by omega, ?_⟩)))))
        · have hii := eq_of_beq hii
          rw [eqb] at hy
          have hy := of_decide_eq_true hy
          have : hasT (lineOf (thR xs l) i) t = true := hasT_iff.2 (mem_line.2 (by
            unfold thR
            rw [← hii, ← hy]
            exact List.mem_map.2 ⟨xs[k], List.mem_take_iff_getElem.2 ⟨k, by omega, rfl⟩, rfl⟩))
          exact ⟨[], nx, hu, trivial, rfl, rfl, bads 11 (put_twice (s := ⟨e, s, thR xs l, d⟩) (by omega) this).1 (by decide) (by decide)⟩
        · have hii := eq_of_beq hii
          rw [eqb] at hy
          have hy := of_decide_eq_false hy
          rw [snoc, if_pos hii, hasT_snoc, g2, decide_eq_false hy]; rfl
        · have hii := eq_of_beq hii
          rw [snoc, if_pos hii, List.length_append]; rfl
        · have hii := ne_of_beq_false hii
          rw [snoc, if_neg hii]; exact g2
        · have hii := ne_of_beq_false hii
          rw [snoc, if_neg hii]; rfl
      · have hx := of_decide_eq_false hx
        have : k = l := by omega
        subst this
        have hi1 : 1 ≤ i := by omega
        have fin4 : (lineOf (thR xs k) i = [] ∧ ((keysOf (thR xs k)).length : Int) = s) ∨ e ≤ ((lineOf (thR xs k) i).length : Int) → K (.int .i64 4) (sameR hp n m e s (d + 1) k c xs room) nx := fun h3 => many (put_many (s := ⟨e, s, thR xs k, d⟩) hi1 g2 h3).1
        refine bsplit_both (fun hne => ?_) (fun hne => ?_)
        · have hne := of_decide_eq_true hne
          have f := fin4 (.inr hne)
          rw [hw]
          exact ⟨⟨[], nx, hu, trivial, rfl, rfl, f⟩, ⟨[], nx, hu, trivial, rfl, rfl, f⟩⟩
        · have hne := of_decide_eq_false hne
          have hlt : ((lineOf (thR xs k) i).length : Int) < e := by omega
          have good : ¬ (lineOf (thR xs k) i = [] ∧ ((keysOf (thR xs k)).length : Int) = s) → ∀ c' r', K (.int .i64 0) (newR hp n m nx (dO (xs.take k ++ [mkT i t]) r') e s d (.sl nx 0 (k + 1) c') xs room) (nx + 1) := fun h3 =>
            hk0 (put_ok (s := ⟨e, s, thR xs k, d⟩) hi1 g2 h3 hlt).1
          have mm : k.ble xs.length = true := by simp [Nat.ble_eq]; omega
          have m2 : ∀ c' j, ((((0 : Nat) + k).ble (([] : List Rw) ++ List.take k xs).length && (c' * [Sh.i IntKind.i64, Sh.s].length).ble (c' * [Sh.i IntKind.i64, Sh.s].length) && Nat.blt (j + 1) 16777215)) = true ∨ ¬ j < 1000 := fun c' j => by
            by_cases hj : j < 1000
            · left; simp [Nat.ble_eq, blt_iff]; omega
            · exact .inr hj
          refine bsplit_both (fun hz => ?_) (fun hz => ?_)
          · have hz := eq_of_beq hz
            have hl0 : lineOf (thR xs k) i = [] := List.eq_nil_of_length_eq_zero (by omega)
            refine (fun x => And.intro x x) ⟨⟨h1, h2⟩, fun L4 hL c5 r6 => bsplit_both (fun hge => ?_) (fun hge => must_mk mm ⟨by omega, fun c7 q1 q2 => must_mk ((m2 c7 3).resolve_right (by decide)) ⟨by omega, fun c8 q3 q4 => ?_⟩⟩)⟩
            · have hge := of_decide_eq_true hge
              have hlen : L4.length = (keysOf (thR xs k)).length := by rw [hL]; exact List.length_mergeSort _
              have f := fin4 (.inl ⟨hl0, by omega⟩)
              rw [hw]
              exact ⟨[], nx, hu, trivial, rfl, rfl, f⟩
            · have hge := of_decide_eq_false hge
              have hlen : L4.length = (keysOf (thR xs k)).length := by rw [hL]; exact List.length_mergeSort _
              have f := good (fun h => by omega) c8 (c8 * 2)
              rw [take_app xs k h1, zero_add2]
              exact ⟨[(6, nx)], nx + 1, uniq3 hu hfr hnb (by rw [hg]; simp) (by rw [hg2]; simp) rfl, ⟨hfr, trivial⟩, rfl, rfl, f⟩
          · have hz := ne_of_beq_false hz
            have f := good (fun h => hz (by rw [h.1]; rfl))
            refine (fun x => And.intro x x) (must_mk mm ⟨by omega, fun c7 q1 q2 => must_mk ((m2 c7 2).resolve_right (by decide)) ⟨by omega, fun c8 q3 q4 => ?_⟩⟩)
            have f := f c8 (c8 * 2)
            rw [take_app xs k h1, zero_add2]
            exact ⟨[(5, nx)], nx + 1, uniq3 hu hfr hnb (by rw [hg]; simp) (by rw [hg2]; simp) rfl, ⟨hfr, trivial⟩, rfl, rfl, f⟩
    · obtain ⟨hk0, hk1⟩ := hk _ _ rfl rfl
      have hw : IntKind.i64.wrap (d + 1) = d + 1 := w_id (by omega) (by omega)
      refine hcallG mix gR1 (fn := Try.f15) (by kernel_rfl) (by kernel_rfl) (by kernel_rfl) [n] [rO e s d .nils] [.ptr 0 0, .int .i64 i, .str t] rfl (uniq1 hb) rfl ⟨hg, trivial⟩ rfl rfl (fun hr ho => (t_rputN I _ e s d i t).mpr (bsplit_both (fun hi => ?_) (fun hi => ?_)))
      · have hi := of_decide_eq_true hi
        obtain ⟨p1, p2⟩ := put_bad (s := ⟨e, s, [], d⟩) (t := t) hi
        have f := hk1 (by rw [p1]; decide)
        rw [p1, p2] at f
        exact ⟨[], nx, uniq1 hb, trivial, rfl, rfl, f⟩
      have hi := of_decide_eq_false hi
      refine ALoop.start [] [0, 1, 2, 7, 8] 1 (j_ruN e s d i t) (by kernel_rfl) (by kernel_rfl) ?_
      refine ALoop.stepg [] [0, 1, 2, 7, 8] 1 ((t_lruN I _ _ e s d i t).mpr ?_)
      have many : (lineOf ([] : Th) i = [] ∧ ((keysOf ([] : Th)).length : Int) = s) ∨ e ≤ ((lineOf ([] : Th) i).length : Int) → K (.int .i64 4) (hp.set n (some (rO e s (d + 1) .nils))) nx := fun h3 => by
        obtain ⟨p1, p2⟩ := put_many (s := ⟨e, s, [], d⟩) (i := i) (t := t) (by omega) rfl h3
        have f := hk1 (by rw [p1]; decide)
        rw [p1, p2] at f
        exact f
      refine bsplit_both (fun hne => ?_) (fun hne => ?_)
      · have hne := of_decide_eq_true hne
        have f := many (.inr (by simp [lineOf]; omega))
        rw [hw]
        exact ⟨⟨[], nx, uniq1 hb, trivial, rfl, rfl, f⟩, ⟨[], nx, uniq1 hb, trivial, rfl, rfl, f⟩⟩
      · have hne := of_decide_eq_false hne
        refine (fun x => And.intro x x) fun c0 r1 => bsplit_both (fun hge => ?_) (fun hge => ⟨by omega, fun c2 q1 q2 => must_mk ?_ ⟨by omega, fun c3 q3 q4 => ?_⟩⟩)
        · have hge : ((0 : Nat) : Int) ≥ s := of_decide_eq_true hge
          have f := many (.inl ⟨rfl, by simp [keysOf]; omega⟩)
          rw [hw]
          exact ⟨[], nx, uniq1 hb, trivial, rfl, rfl, f⟩
        · simp [Nat.ble_eq]
        · have hge : ¬ ((0 : Nat) : Int) ≥ s := of_decide_eq_false hge
          have f := hk0 (put_ok (s := ⟨e, s, [], d⟩) (i := i) (t := t) (by omega) rfl (by simp [keysOf]; omega) (by simp [lineOf]; omega)).1 c3 (c3 * 2)
          exact ⟨[(5, nx)], nx + 1, uniq2 hb hfr hnb (by rw [hg]; simp) rfl, ⟨hfr, trivial⟩, rfl, rfl, f⟩
  · exact h.elim
theorem k_rtake : ∀ (args : List AV) (hp : Tr (AO O)) (nx : Nat) (K : AV → Tr (AO O) → Nat → Prop), c_rtake args hp nx K → ACall I P 18 args hp (fun v hp' => ∃ nx', K v hp' nx') := by
  intro args hp nx K h
  unfold c_rtake at h; split at h
  · rename_i n i
    obtain ⟨hnb2, hfr2, h⟩ := free2_spec h
    obtain ⟨⟨hnb, hfr⟩, ⟨e, s, d, m, l, c, xs, room, hg, hb, hg2, ⟨h1, h2⟩, hk⟩ | ⟨e, s, d, hg, hb, hk⟩⟩ := isR_spec h
    · obtain ⟨hu, _⟩ := both_iff hb
      refine hcallG mix gR1 (fn := Try.f18) (by kernel_rfl) (by kernel_rfl) (by kernel_rfl) [n, m] [rO e s d (.sl 1 0 l c), dO xs room] [.ptr 0 0, .int .i64 i] rfl hu rfl ⟨hg, hg2, trivial⟩ rfl rfl (fun hr ho => (t_rtkA I _ e s d l c room xs i).mpr ⟨⟨h1, h2⟩, fun T zs hT hz c1 r1 c2 r2 => ?_⟩)
      exact ⟨[(2, nx), (3, nx + 1)], nx + 2, uniq4 hu hfr hfr2 hnb2 (by intro p hp; simp [pairs] at hp; rcases hp with rfl | rfl <;> simp [hg, hg2]) rfl rfl (by decide), ⟨hfr, hfr2, trivial⟩, rfl, rfl, hk T zs hT hz c1 r1 c2 r2⟩
    · refine hcallG mix gR1 (fn := Try.f18) (by kernel_rfl) (by kernel_rfl) (by kernel_rfl) [n] [rO e s d .nils] [.ptr 0 0, .int .i64 i] rfl (uniq1 hb) rfl ⟨hg, trivial⟩ rfl rfl (fun hr ho => (t_rtkN I _ e s d i).mpr fun c1 r1 c2 r2 => ?_)
      exact ⟨[(1, nx), (2, nx + 1)], nx + 2, uniq4 (uniq1 hb) hfr hfr2 hnb2 (by intro p hp; simp [pairs] at hp; subst hp; simp [hg]) rfl rfl (by decide), ⟨hfr, hfr2, trivial⟩, rfl, rfl, hk c1 r1 c2 r2⟩
  · exact h.elim
theorem k_rdrop : ∀ (args : List AV) (hp : Tr (AO O)) (nx : Nat) (K : AV → Tr (AO O) → Nat → Prop), c_rdrop args hp nx K → ACall I P 20 args hp (fun v hp' => ∃ nx', K v hp' nx') := by
  intro args hp nx K h
  unfold c_rdrop at h; split at h
  · rename_i n b
    obtain ⟨hnb2, hfr2, h⟩ := free2_spec h
    obtain ⟨⟨hnb, hfr⟩, ⟨e, s, d, m, l, c, xs, room, hg, hb, hg2, ⟨h1, h2⟩, hk1, hk2⟩ | ⟨e, s, d, hg, hb, hk1, hk2⟩⟩ := isR_spec h
    · obtain ⟨hu, _⟩ := both_iff hb
      refine hcallG mix gR1 (fn := Try.f20) (by kernel_rfl) (by kernel_rfl) (by kernel_rfl) [n, m] [rO e s d (.sl 1 0 l c), dO xs room] [.ptr 0 0, .int .i64 b] rfl hu rfl ⟨hg, hg2, trivial⟩ rfl rfl (fun hr ho => (t_rdrA I _ e s d l c room xs b).mpr (bsplit_both (fun hx => ?_) (fun hx => ⟨⟨h1, h2⟩, fun T zs hT hz c1 r1 c2 r2 => ?_⟩)))
      · exact ⟨[], nx, hu, trivial, rfl, rfl, hk1 (of_decide_eq_true hx)⟩
      · have hx := of_decide_eq_false hx
        simp only [rgs, rg, Bool.and_eq_true] at hr
        have hin := inK_iff.1 hr.2.1
        simp only [loK, hiK] at hin
        have hw : IntKind.i64.wrap (b - 1) = b - 1 := w_id (by omega) (by omega)
        rw [hw] at hT hz
        exact ⟨[(3, nx)], nx + 1, uniq3 hu hfr hnb (by rw [hg]; simp) (by rw [hg2]; simp) rfl, ⟨hfr, trivial⟩, rfl, rfl, hk2 (by omega) T zs hT hz c2 r2⟩
    · refine hcallG mix gR1 (fn := Try.f20) (by kernel_rfl) (by kernel_rfl) (by kernel_rfl) [n] [rO e s d .nils] [.ptr 0 0, .int .i64 b] rfl (uniq1 hb) rfl ⟨hg, trivial⟩ rfl rfl (fun hr ho => (t_rdrN I _ e s d b).mpr (bsplit_both (fun hx => ?_) (fun hx c1 r1 c2 r2 => ?_)))
      · exact ⟨[], nx, uniq1 hb, trivial, rfl, rfl, hk1 (of_decide_eq_true hx)⟩
      · have hx := of_decide_eq_false hx
        exact ⟨[(2, nx)], nx + 1, uniq2 hb hfr hnb (by rw [hg]; simp) rfl, ⟨hfr, trivial⟩, rfl, rfl, hk2 (by omega) c2 r2⟩
  · exact h.elim
variable (hI : I.R = pk.R)
include hI
theorem gQ3 : GOk I P (Gm Q3) := Gm.consH (Gm.consH (Gm.consH (Gm.consH (Gm.consH (Gm.consH (gQ2 hI) k_rhas) k_rivs) k_rdrop) k_rtake) k_rput) k_rnew
end Go.Tb.W
