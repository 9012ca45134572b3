/- Queues: what comes up to a moment, and how many there may be; laws. -/
import Derived.Test.YtcabackgkjhmeaaQJ
import Derived.Test.YtcabackgkjhmeaaQL
set_option linter.all false
set_option maxRecDepth 100000
namespace Go.Tb.W
open Go Go.Proofs
theorem ins_len (q : List Rw) (e : Rw) : (insQ q e).length = q.length + 1 := by
  have := (insQ_perm q e).length_eq
  simpa using this
theorem ins_mem {q : List Rw} {e x : Rw} : x ∈ insQ q e ↔ x ∈ q ∨ x = e := by
  rw [(insQ_perm q e).mem_iff]; simp
theorem lo_ins_len (t : Int) (q : List Rw) (e : Rw) : (lo t (insQ q e)).length = (lo t q).length + if e.i 0 ≤ t then 1 else 0 := by
  have := ((insQ_perm q e).filter (fun x => decide (x.i 0 ≤ t))).length_eq
  unfold lo
  rw [this, List.filter_append, List.length_append]
  congr 1
  by_cases h : e.i 0 ≤ t <;> simp [h]
theorem lohi_len (t : Int) (q : List Rw) : (lo t q).length + (hi t q).length = q.length := by
  have := (lohi t q).length_eq
  simpa using this
theorem lo_nil {t u : Int} {q : List Rw} (h : lo u q = []) (ht : t ≤ u) : lo t q = [] := by
  unfold lo at *
  rw [List.filter_eq_nil_iff] at *
  intro x hx
  have := h x hx
  simp at *; omega
theorem lo_hi {t u : Int} (q : List Rw) (ht : t ≤ u) : lo t (hi u q) = [] := by
  unfold lo hi
  rw [List.filter_eq_nil_iff]
  intro x hx
  have := (List.mem_filter.1 hx).2
  simp at *; omega
theorem lo_pos {t : Int} {q : List Rw} {x : Rw} (hx : x ∈ q) (h : x.i 0 ≤ t) : lo t q ≠ [] := fun e => by
  unfold lo at e
  rw [List.filter_eq_nil_iff] at e
  exact e x hx (by simpa using h)
theorem r_i8 {n : Int} (h : inK .i8 n = true) : -128 ≤ n ∧ n ≤ 127 := by simpa [inK_iff, loK, hiK] using h
theorem w_id {n : Int} (h : -9223372036854775808 ≤ n) (k : n ≤ 9223372036854775807) : IntKind.i64.wrap n = n := by rw [w_i64]; omega
theorem xs_i8 {ob : Obj} {xs : List Rw} (ho : RgOs [xO ob xs]) {j : Nat} (hj : j < xs.length) : -128 ≤ (xs[j]).i 0 ∧ (xs[j]).i 0 ≤ 127 := by
  have := ho.1 xs[j] (List.getElem_mem hj)
  simp only [encR, encS, rgs, rg, Bool.and_eq_true] at this
  exact r_i8 this.1
/-- What is tried behind what has come: all of T, and then none of M. -/
theorem untl_tail {n e a T M : Int} {m : Nat} (r : List Rw) (he : (m : Int) = e) (ha : a = m + ((lo T r).length : Int)) (hn : n = m + (r.length : Int)) (hs : n ≤ 1000) (hMT : M ≤ T) :
    ((m : Int) == e) = true ∧ (IntKind.i64.wrap ((m : Int) + ((lo T r).length : Int)) == a) = true ∧ ((((hi T r).length : Nat) : Int) == IntKind.i64.wrap (n - a)) = true ∧ ¬ 0 < (lo M (hi T r)).length ∧
    (lo T r = [] → (IntKind.i64.wrap ((m : Int) + 0) == a) = true ∧ ((r.length : Int) == IntKind.i64.wrap (n - a)) = true ∧ ¬ 0 < (lo M r).length) := by
  have hl := lohi_len T r
  refine ⟨by simp [he], ?_, ?_, by rw [lo_hi r hMT]; simp, fun h => ⟨?_, ?_, by rw [lo_nil h hMT]; simp⟩⟩
  · rw [w_id (by omega) (by omega)]; simp [ha]
  · rw [w_id (by omega) (by omega)]; simp; omega
  · rw [h] at ha; simp at ha; rw [w_id (by omega) (by omega)]; simp [ha]
  · rw [h] at ha hl; simp at ha hl; rw [w_id (by omega) (by omega)]; simp; omega
variable {I : Interp O} (hI : I.R = pk.R)
include hI
theorem l_until (t u : Int) (l c : Nat) (p : Bool) (ob : Obj) (xs : List Rw) (hxs : xs.length = l) :
    ACall I P 5 [.slq 0 l c p, .int .i8 t, .int .i8 u] (Tr.ofList 0 [.out ob [.i .i8] xs] .leaf) (fun v _ => v = .bool true) := by
  refine ocall mix (gB2 hI) (fn := Try.f5) (by kernel_rfl) (by kernel_rfl) (by kernel_rfl) [.out ob [.i .i8] xs] _ rfl rfl (fun hr ho => ?_)
  simp only [rgs, rg, Bool.and_eq_true, Nat.ble_eq] at hr
  obtain ⟨⟨hlc, hc⟩, ht, hu, _⟩ := hr
  have ht := r_i8 ht
  have hu := r_i8 hu
  refine (t_luntil I (fun v _ _ => v = .bool true) l c p ob xs t u).mpr ?_
  refine ALoop.weak (Weak.asOwn (p := pk) hI (n := 1) (s := .q [] 0) rfl rfl rfl) ?_
  generalize hN : (if 200 < (l : Int) then (200 : Int) else (l : Int)) = N
  have hN1 : N ≤ l ∧ N ≤ 200 ∧ 0 ≤ N := by rw [← hN]; split <;> omega
  generalize hT : (if u > t then u else t) = T
  generalize hM : (if u < t then u else t) = M
  have hT1 : t ≤ T ∧ u ≤ T ∧ T ≤ 127 ∧ M ≤ T ∧ -128 ≤ M := by rw [← hT, ← hM]; split <;> split <;> omega
  have wt : IntKind.i64.wrap t = t := w_id (by omega) (by omega)
  have wT : IntKind.i64.wrap T = T := w_id (by omega) (by omega)
  have wM : IntKind.i64.wrap M = M := w_id (by omega) (by omega)
  refine ALoop.invg (ps := [(1, 1)]) (ts := [0, 1, 2, 7, 8, 9, 10, 11]) (nx := 2) (fun x : List Rw × Nat => j_untlA l c p ob xs t u N x.1 (x.2 : Nat) ((lo t x.1).length : Nat) ((lo T x.1).length : Nat) (x.2 : Nat))
    (fun x => x.1.length = x.2 ∧ (x.2 : Int) ≤ N) (fun x => (N - x.2).toNat) ?_ (by kernel_rfl) ([], 0) (by kernel_rfl) ⟨rfl, hN1.2.2⟩
  rintro ⟨q, i⟩ ⟨g1, g2⟩
  simp only at g1 g2 ⊢
  refine (t_untlA I _ _ l c p ob xs t u N q (i : Nat) ((lo t q).length : Nat) ((lo T q).length : Nat) (i : Nat)).mpr ?_
  rw [hT]
  refine bsplit_both (fun hx => ?_) (fun hx => ?_)
  · have hx := of_decide_eq_true hx
    have hi : i < xs.length := by omega
    have hxi : xs[(i : Int).toNat]? = some xs[i] := by rw [Int.toNat_natCast]; exact List.getElem?_eq_getElem hi
    have hb : decide ((0 : Int) ≤ (i : Int) ∧ (i : Int) < (l : Int)) = true := decide_eq_true ⟨by omega, by omega⟩
    have hr8 := xs_i8 ho hi
    generalize hxx : xs[i] = x at hxi hr8
    have wx : IntKind.i64.wrap (x.i 0) = x.i 0 := w_id (by omega) (by omega)
    have hl1 := lo_ins_len t q (mkE (x.i 0) 0 ⟨#[]⟩ (i : Nat))
    have hl2 := lo_ins_len T q (mkE (x.i 0) 0 ⟨#[]⟩ (i : Nat))
    have hq1 := lohi_len t q
    have hq2 := lohi_len T q
    have e1 : IntKind.i64.wrap (((lo t q).length : Int) + 1) = (((lo t q).length + 1 : Nat) : Int) := by rw [w_id (by omega) (by omega)]; omega
    have e2 : IntKind.i64.wrap (((lo T q).length : Int) + 1) = (((lo T q).length + 1 : Nat) : Int) := by rw [w_id (by omega) (by omega)]; omega
    have e3 : IntKind.i64.wrap ((i : Int) + 1) = ((i + 1 : Nat) : Int) := by rw [w_id (by omega) (by omega)]; omega
    have e4 : ((i : Nat) : Int) + 1 = ((i + 1 : Nat) : Int) := by omega
    refine must_mk hb (xget_mk hxi ⟨⟨by omega, by omega⟩, fun h => by omega, fun _ => must_mk hb (xget_mk hxi ?_)⟩)
    simp only [wx]
    have fin : ∀ s : St O, s = j_untlA l c p ob xs t u N (insQ q (mkE (x.i 0) 0 ⟨#[]⟩ (i : Nat))) ((i + 1 : Nat) : Int) (((lo t (insQ q (mkE (x.i 0) 0 ⟨#[]⟩ (i : Nat)))).length : Nat) : Int) (((lo T (insQ q (mkE (x.i 0) 0 ⟨#[]⟩ (i : Nat)))).length : Nat) : Int) ((i + 1 : Nat) : Int) →
        ∃ y : List Rw × Nat, (y.1.length = y.2 ∧ (y.2 : Int) ≤ N) ∧ (N - y.2).toNat < (N - i).toNat ∧ s = j_untlA l c p ob xs t u N y.1 (y.2 : Nat) ((lo t y.1).length : Nat) ((lo T y.1).length : Nat) (y.2 : Nat) :=
      fun s hs => ⟨(insQ q (mkE (x.i 0) 0 ⟨#[]⟩ (i : Nat)), i + 1), ⟨by show (insQ _ _).length = i + 1; rw [ins_len, g1], by show ((i + 1 : Nat) : Int) ≤ N; omega⟩, by show (N - ((i + 1 : Nat) : Int)).toNat < _; omega, hs⟩
    have k0 : (mkE (x.i 0) 0 ⟨#[]⟩ (i : Nat)).i 0 = x.i 0 := rfl
    rw [k0] at hl1 hl2
    refine bsplit_both (fun h1 => must_mk hb (xget_mk hxi (bsplit_both (fun h2 => fin _ ?_) (fun h2 => fin _ ?_)))) (fun h1 => must_mk hb (xget_mk hxi (bsplit_both (fun h2 => fin _ ?_) (fun h2 => fin _ ?_))))
    · rw [if_pos (of_decide_eq_true h1)] at hl1; rw [if_pos (of_decide_eq_true h2)] at hl2
      rw [hl1, hl2, e1, e2, e3, e4]; rfl
    · have := of_decide_eq_true h1; have := of_decide_eq_false h2; omega
    · rw [if_neg (of_decide_eq_false h1)] at hl1; rw [if_pos (of_decide_eq_true h2)] at hl2
      rw [hl1, hl2, e2, e3, e4]; rfl
    · rw [if_neg (of_decide_eq_false h1)] at hl1; rw [if_neg (of_decide_eq_false h2)] at hl2
      rw [hl1, hl2, e3, e4]; rfl
  · have hx := of_decide_eq_false hx
    have hNi : N = (q.length : Int) := by omega
    have hq1 := lohi_len t q
    have hlT : ∀ r, (lo t q = [] → r = q) → (lo t q ≠ [] → r = hi t q) → ((lo T q).length : Int) = ((lo t q).length : Int) + ((lo T r).length : Int) := fun r h1 h2 => by
      by_cases hn : lo t q = []
      · rw [h1 hn, hn]; simp
      · rw [h2 hn]
        have h3 := ((lohi t q).filter (fun x => decide (x.i 0 ≤ T))).length_eq
        rw [List.filter_append, List.length_append] at h3
        have h4 : (lo t q).filter (fun x => decide (x.i 0 ≤ T)) = lo t q := List.filter_eq_self.2 fun x hx => by
          have := (List.mem_filter.1 hx).2; simp at this ⊢; omega
        rw [h4] at h3
        show (((q.filter _).length : Nat) : Int) = _ + ((((hi t q).filter _).length : Nat) : Int)
        omega
    simp only [wt]
    refine ⟨fun hso hn => ?_, fun hso hp c2 room => ?_⟩
    · refine ALoop.start [(1, 1)] [1, 2, 7, 8, 9, 10, 12, 56, 57, 58] 2 (j_untlB ob xs t u N q (i : Nat) ((lo t q).length : Nat) ((lo T q).length : Nat)) (by kernel_rfl) (by kernel_rfl) ?_
      refine ALoop.stepg [(1, 1)] [1, 2, 7, 8, 9, 10, 12, 56, 57, 58] 2 ?_
      refine (t_untlB I _ (fun _ => True) _ ob xs t u N q (i : Nat) ((lo t q).length : Nat) ((lo T q).length : Nat)).mpr ?_
      rw [hT, hM, wt, wT, wM]
      have hl := hlT q (fun _ => rfl) (fun h => (h hn).elim)
      rw [hn] at hl ⊢
      have tl := untl_tail (n := N) (e := (([] : List Rw).length : Nat)) (a := ((lo T q).length : Nat)) (T := T) (M := M) (m := 0) q rfl hl (by simp [hNi]) (by omega) hT1.2.2.2.1
      obtain ⟨t1, t2, t3, t4, t5⟩ := tl
      refine ⟨fun e => ?_, fun x r e hs => ?_⟩
      · subst e
        exact ⟨fun _ h => bs_t t1 (bs_t (t5 h).1 (fun _ => bs_t (t5 h).2.1 ⟨fun _ _ => rfl, fun _ h2 => absurd h2 (t5 h).2.2⟩)), fun _ h => absurd h (by simp [lo])⟩
      · subst e
        refine bs_f ?_ ⟨fun _ h => bs_t t1 (bs_t (t5 h).1 (fun _ => bs_t (t5 h).2.1 ⟨fun _ _ => rfl, fun _ h2 => absurd h2 (t5 h).2.2⟩)), fun _ _ c2 room => bs_t t1 (bs_t t2 (fun _ => bs_t t3 ⟨fun _ _ => rfl, fun _ h2 => absurd h2 t4⟩))⟩
        refine decide_eq_false fun h => lo_pos (List.mem_cons_self ..) h hn
    · have hnn : lo t q ≠ [] := fun h => by rw [h] at hp; simp at hp
      refine ALoop.invg (ps := [(1, 1), (2, 2)]) (ts := [1, 2, 7, 8, 9, 10, 12, 56, 57, 58]) (nx := 3) (fun k : Nat => j_untlC ob xs t u N (hi t q) (i : Nat) ((lo t q).length : Nat) ((lo T q).length : Nat) (lo t q).length c2 ((lo t q).map it) room (k : Nat)) (fun k => k ≤ (lo t q).length) (fun k => (lo t q).length - k) ?_ (by kernel_rfl) 0 (by kernel_rfl) (Nat.zero_le _)
      intro k hk
      refine (t_untlC I _ (fun _ => True) _ ob xs t u N (hi t q) (i : Nat) ((lo t q).length : Nat) ((lo T q).length : Nat) (lo t q).length c2 ((lo t q).map it) room (k : Nat)).mpr ?_
      rw [hT, hM, wt, wT, wM]
      refine bsplit_both (fun hy => ?_) (fun hy => ?_)
      · have hy := of_decide_eq_true hy
        have hk2 : k < (lo t q).length := by omega
        refine must_mk (decide_eq_true ⟨by omega, hy⟩) (xget_mk (v := it (lo t q)[k]) (by rw [Int.toNat_natCast, List.getElem?_map, List.getElem?_eq_getElem hk2]; rfl) (bs_f ?_ ⟨k + 1, hk2, by omega, ?_⟩))
        · have := (List.mem_filter.1 (List.getElem_mem hk2)).2
          refine decide_eq_false fun h => ?_
          have h : (lo t q)[k].i 0 > t := h
          have this : decide ((lo t q)[k].i 0 ≤ t) = true := this
          have := of_decide_eq_true this
          omega
        · rw [w_id (n := (k : Int) + 1) (by omega) (by omega)]; rfl
      · have hl := hlT (hi t q) (fun h => (hnn h).elim) (fun _ => rfl)
        obtain ⟨t1, t2, t3, t4, t5⟩ := untl_tail (n := N) (e := ((lo t q).length : Nat)) (a := ((lo T q).length : Nat)) (T := T) (M := M) (m := (lo t q).length) (hi t q) rfl hl (by omega) (by omega) hT1.2.2.2.1
        have hgt : ∀ x r, hi t q = x :: r → ¬ x.i 0 ≤ t := fun x r e h => by
          have hm : x ∈ hi t q := by rw [e]; exact List.mem_cons_self ..
          have := (List.mem_filter.1 hm).2
          simp at this; omega
        generalize hi t q = r at *
        refine ⟨fun e => ?_, fun x s e hs => ?_⟩
        · subst e
          exact ⟨fun _ h => bs_t t1 (bs_t (t5 h).1 (fun _ => bs_t (t5 h).2.1 ⟨fun _ _ => rfl, fun _ h2 => absurd h2 (t5 h).2.2⟩)), fun _ h => absurd h (by simp [lo])⟩
        · subst e
          exact bs_f (decide_eq_false (hgt x s rfl)) ⟨fun _ h => bs_t t1 (bs_t (t5 h).1 (fun _ => bs_t (t5 h).2.1 ⟨fun _ _ => rfl, fun _ h2 => absurd h2 (t5 h).2.2⟩)), fun _ _ c2 room => bs_t t1 (bs_t t2 (fun _ => bs_t t3 ⟨fun _ _ => rfl, fun _ h2 => absurd h2 t4⟩))⟩
end Go.Tb.W
