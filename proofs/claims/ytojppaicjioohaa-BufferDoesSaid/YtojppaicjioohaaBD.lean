/- Buffers: each answer, and what lies there, are as the document says: a round's second half. -/
import Derived.Test.YtojppaicjioohaaBZ
import Derived.Test.YtojppaicjioohaaBSL
set_option linter.all false
set_option maxRecDepth 100000
set_option maxHeartbeats 0
namespace Go.Tb.W
open Go Go.Proofs
variable {I : Interp O}
abbrev CK (I : Interp O) (X : St O → Prop) : Kt O := (ablock 1 (athen (cd Try.f3 [true, true, true, true, true, false, true, false, false, true, true]) (fun s => acode I P (Gm Q3) (adraw P (Gm Q3)) 1 (cd Try.f3 [true, true, true, true, true, false, true, false, false, true, true]) s (lpgL 1 [[(1, 1), (2, 2)], [(1, 1), (2, 2), (3, 3)], [(1, 1), (2, 2), (4, 3)], [(1, 1), (2, 2), (5, 3)], [(1, 1), (2, 2), (6, 3)], [(1, 1), (2, 2), (7, 3)], [(1, 1), (2, 2), (8, 3)], [(1, 1), (2, 2), (9, 3)], [(1, 1), (2, 2), (10, 3)], [(1, 1), (2, 2), (11, 3)], [(1, 1), (2, 2), (12, 3)]] [2, 7, 9, 11] 4 X (ablock 0 (athen (cd Try.f3 [true, true, true, true, true, true]) (fun s => acode I P (Gm Q3) (adraw P (Gm Q3)) 1 (cd Try.f3 [true, true, true, true, true, true]) s (kret P Try.f3 (fun v _ _ => v = .bool true))) (kret P Try.f3 (fun v _ _ => v = .bool true)))))) (lpgL 1 [[(1, 1), (2, 2)], [(1, 1), (2, 2), (3, 3)], [(1, 1), (2, 2), (4, 3)], [(1, 1), (2, 2), (5, 3)], [(1, 1), (2, 2), (6, 3)], [(1, 1), (2, 2), (7, 3)], [(1, 1), (2, 2), (8, 3)], [(1, 1), (2, 2), (9, 3)], [(1, 1), (2, 2), (10, 3)], [(1, 1), (2, 2), (11, 3)], [(1, 1), (2, 2), (12, 3)]] [2, 7, 9, 11] 4 X (ablock 0 (athen (cd Try.f3 [true, true, true, true, true, true]) (fun s => acode I P (Gm Q3) (adraw P (Gm Q3)) 1 (cd Try.f3 [true, true, true, true, true, true]) s (kret P Try.f3 (fun v _ _ => v = .bool true))) (kret P Try.f3 (fun v _ _ => v = .bool true)))))))
/-- What is kept from act to act. -/
structure DG (st : Bf) (e s d : Int) (i : Nat) : Prop where
  ok : okB st
  he : st.each = e
  hs : st.room = s
  hd : st.dropped = d
  d0 : 0 ≤ d
  d1 : d ≤ i
  ln : st.th.length ≤ i
  il : i ≤ 100
theorem does_loop {X : St O → Prop} {l c : Nat} {q : Bool} {ob : Obj} {xs : List Rw} {st : Bf} {e s d : Int} {n g : Nat} {ys : List Rw} {rm g1 r1 g2 r2 i : Nat} (hi : i < 1000) {L : List Int} (hl : L.length ≤ 4096)
    (hX : X (j_dB l c q ob xs st e s d n g ys rm ((i + 1 : Nat) : Int))) :
    ALoop I 1 (cd Try.f3 [true, true, true, true, true, false, true, false, false, true, false, false, true, true, true, true, true, true, false, false]) (acode I P (Gm Q3) (adraw P (Gm Q3)) 1 (cd Try.f3 [true, true, true, true, true, false, true, false, false, true, false, false, true, true, true, true, true, true, false, false])) (ablock 3 (CK I X)) (j_eB l c q ob xs st e s d n g ys rm L.length g1 (L.map rowI) r1 L.length g2 (L.map rowI) r2 (i : Nat) 0) := by
  have e3 : IntKind.i64.wrap ((i : Int) + 1) = ((i + 1 : Nat) : Int) := by rw [w_id (by omega) (by omega)]; omega
  refine ALoop.invj (ps := [(1, 1), (2, 2), (3, 3), (4, 4), (5, 5)]) (ts := [2, 7, 9, 11, 13, 14, 144, 145]) (nx := 6) (fun k : Nat => j_eB l c q ob xs st e s d n g ys rm L.length g1 (L.map rowI) r1 L.length g2 (L.map rowI) r2 (i : Nat) (k : Nat)) (fun k => k ≤ L.length) (fun k => L.length - k) ?_ 0 (Nat.zero_le _)
  intro k hk
  refine (t_eB I _ X _ l c q ob xs st e s d n g ys rm L.length g1 (L.map rowI) r1 L.length g2 (L.map rowI) r2 (i : Nat) (k : Nat)).mpr (bsplit_both (fun hx => ?_) (fun hx => ?_))
  · have hx := of_decide_eq_true hx
    have hkl : k < L.length := by omega
    have e4 : IntKind.i64.wrap ((k : Int) + 1) = ((k + 1 : Nat) : Int) := by rw [w_id (by omega) (by omega)]; omega
    rw [e4]
    have hb' : decide ((0 : Int) ≤ (k : Int) ∧ (k : Int) < (L.length : Int)) = true := decide_eq_true ⟨by omega, hx⟩
    have hget : (L.map rowI)[((k : Nat) : Int).toNat]? = some (rowI (L[k])) := by rw [Int.toNat_natCast, List.getElem?_map, List.getElem?_eq_getElem hkl]; rfl
    exact must_mk hb' (must_mk hb' (xget_mk hget (xget_mk hget (bs_f (by simp) ⟨k + 1, hkl, by omega, rfl⟩))))
  · rw [e3]; exact hX
theorem does_loop0 {X : St O → Prop} {l c : Nat} {q : Bool} {ob : Obj} {xs : List Rw} {st : Bf} {e s d : Int} {n g : Nat} {ys : List Rw} {rm m g1 r1 i : Nat} {zs : List Rw} (hi : i < 1000)
    (hX : X (j_dB l c q ob xs st e s d n g ys rm ((i + 1 : Nat) : Int))) :
    ALoop I 1 (cd Try.f3 [true, true, true, true, true, false, true, false, false, true, false, false, true, true, true, true, true, true, false, false]) (acode I P (Gm Q3) (adraw P (Gm Q3)) 1 (cd Try.f3 [true, true, true, true, true, false, true, false, false, true, false, false, true, true, true, true, true, true, false, false])) (ablock 3 (CK I X)) (j_eB0 l c q ob xs st e s d n g ys rm m g1 zs r1 (i : Nat)) := by
  have e3 : IntKind.i64.wrap ((i : Int) + 1) = ((i + 1 : Nat) : Int) := by rw [w_id (by omega) (by omega)]; omega
  refine ALoop.stepg [(1, 1), (2, 2), (3, 3), (4, 4)] [2, 7, 9, 11, 13, 14, 144, 145] 6 ?_
  refine (t_eB0 I _ X _ l c q ob xs st e s d n g ys rm m g1 zs r1 (i : Nat)).mpr ?_
  rw [e3]; exact hX
theorem does_loopA {X : St O → Prop} {l c : Nat} {q : Bool} {ob : Obj} {xs : List Rw} {st : Bf} {e s d : Int} {g1 r1 i : Nat} (hi : i < 1000)
    (hX : X (j_dA l c q ob xs st e s d ((i + 1 : Nat) : Int))) :
    ALoop I 1 (cd Try.f3 [true, true, true, true, true, false, true, false, false, true, false, false, true, true, true, true, true, true, false, false]) (acode I P (Gm Q3) (adraw P (Gm Q3)) 1 (cd Try.f3 [true, true, true, true, true, false, true, false, false, true, false, false, true, true, true, true, true, true, false, false])) (ablock 3 (CK I X)) (j_eA l c q ob xs st e s d g1 r1 (i : Nat)) := by
  have e3 : IntKind.i64.wrap ((i : Int) + 1) = ((i + 1 : Nat) : Int) := by rw [w_id (by omega) (by omega)]; omega
  refine ALoop.stepg [(1, 1), (2, 2), (3, 3)] [2, 7, 9, 11, 13, 14, 144, 145] 6 ?_
  refine (t_eA I _ X _ l c q ob xs st e s d g1 r1 (i : Nat)).mpr ?_
  rw [e3]; exact hX
theorem does_cutA {X : St O → Prop} {l c : Nat} {q : Bool} {ob : Obj} {xs : List Rw} {st : Bf} {e s d : Int} {kd k : Int} {t : ByteArray} {i : Nat} (g : DG st e s d (i + 1)) (hA : st.th = [])
    (hX : X (j_dA l c q ob xs st e s d ((i + 1 : Nat) : Int))) :
    acode I P (Gm Q3) (adraw P (Gm Q3)) 1 (cd Try.f3 [true, true, true, true, true, false, true, false, false, true, false, false, true, true, true]) (j_cA l c q ob xs st e s d kd k t (i : Nat)) (CK I X) := by
  have hil := g.il
  refine (t_cA I _ X l c q ob xs st e s d kd k t (i : Nat)).mpr fun hok L hL => ⟨fun h0 cc rr => ?_, fun h0 => ?_⟩
  · have c1 : ((st.th.length : Int) != 0) = false := by rw [hA]; rfl
    have c2 : (st.dropped != d) = false := by rw [g.hd]; simp
    have c3 : (!hasT (lineOf st.th k) t == false) = false := by rw [hA]; rfl
    have fin := fun {g1 r1 : Nat} => does_loopA (I := I) (X := X) (l := l) (c := c) (q := q) (ob := ob) (xs := xs) (st := st) (e := e) (s := s) (d := d) (g1 := g1) (r1 := r1) (i := i) (by omega) hX
    repeat' first
      | exact rfl
      | refine And.intro ?_ ?_
      | refine bs_f c1 ?_
      | refine bs_f c2 ?_
      | (rintro _ rfl)
      | refine bs_f c3 ?_
      | exact ALoop.start [(1, 1), (2, 2), (5, 3)] [2, 7, 9, 11, 13, 14, 144, 145] 6 (j_eA l c q ob xs st e s d cc rr (i : Nat)) (by kernel_rfl) (by kernel_rfl) fin
  · exfalso
    rw [hL, hA] at h0
    simp [keysOf, srt] at h0
theorem does_cutB {X : St O → Prop} {l c : Nat} {q : Bool} {ob : Obj} {xs : List Rw} {st : Bf} {e s d : Int} {n gg : Nat} {ys : List Rw} {rm : Nat} {kd k : Int} {t : ByteArray} {i : Nat} (g : DG st e s d (i + 1)) (hB : st.th = thR ys n) (hn : n ≤ ys.length)
    (hX : X (j_dB l c q ob xs st e s d n gg ys rm ((i + 1 : Nat) : Int))) :
    acode I P (Gm Q3) (adraw P (Gm Q3)) 1 (cd Try.f3 [true, true, true, true, true, false, true, false, false, true, false, false, true, true, true]) (j_cB l c q ob xs st e s d n gg ys rm kd k t (i : Nat)) (CK I X) := by
  have hil := g.il
  have hln := g.ln
  have hth : st.th.length = n := by rw [hB]; exact thR_len hn
  have c1 : ((st.th.length : Int) != (n : Int)) = false := by rw [hth]; simp
  have c2 : (st.dropped != d) = false := by rw [g.hd]; simp
  have c3 : (!hasT (lineOf st.th k) t == hasT (lineOf (thR ys n) k) t) = false := by rw [hB]; cases hasT (lineOf (thR ys n) k) t <;> rfl
  have c4 : n ≤ ys.length ∧ n ≤ (1000 : Nat) := ⟨hn, by omega⟩
  refine (t_cB I _ X l c q ob xs st e s d n gg ys rm kd k t (i : Nat)).mpr fun hok L hL => ?_
  have hlen : L.length ≤ 4096 := by
    rw [hL, srt, List.length_mergeSort]
    have := keys_le st.th
    omega
  refine ⟨fun h0 => ⟨c4, fun L1 h1 ca ra => ?_⟩, fun h0 cc rr => ⟨c4, fun L1 h1 ca ra => ?_⟩⟩
  · rw [← hB, ← hL, h0] at h1
    subst h1
    have fin := fun {m g1 r1 : Nat} {zs : List Rw} => does_loop0 (I := I) (X := X) (l := l) (c := c) (q := q) (ob := ob) (xs := xs) (st := st) (e := e) (s := s) (d := d) (n := n) (g := gg) (ys := ys) (rm := rm) (m := m) (g1 := g1) (zs := zs) (r1 := r1) (i := i) (by omega) hX
    refine bs_f rfl ?_
    repeat' first
      | exact rfl
      | exact hn
      | exact c4.2
      | refine And.intro ?_ ?_
      | refine bs_f c1 ?_
      | refine bs_f c2 ?_
      | (rintro _ rfl)
      | refine bs_f c3 ?_
      | exact ALoop.start [(1, 1), (2, 2), (4, 3), (5, 4)] [2, 7, 9, 11, 13, 14, 144, 145] 6 (j_eB0 l c q ob xs st e s d n gg ys rm ([] : List Int).length ca (([] : List Int).map rowI) ra (i : Nat)) (by kernel_rfl) (by kernel_rfl) fin
  · rw [← hB, ← hL] at h1
    subst h1
    have fin := fun {g1 r1 g2 r2 : Nat} => does_loop (I := I) (X := X) (l := l) (c := c) (q := q) (ob := ob) (xs := xs) (st := st) (e := e) (s := s) (d := d) (n := n) (g := gg) (ys := ys) (rm := rm) (g1 := g1) (r1 := r1) (g2 := g2) (r2 := r2) (i := i) (by omega) hlen hX
    refine bs_f (by simp) ?_
    repeat' first
      | exact rfl
      | exact hn
      | exact c4.2
      | refine And.intro ?_ ?_
      | refine bs_f c1 ?_
      | refine bs_f c2 ?_
      | (rintro _ rfl)
      | refine bs_f c3 ?_
      | exact ALoop.start [(1, 1), (2, 2), (4, 3), (6, 4), (5, 5)] [2, 7, 9, 11, 13, 14, 144, 145] 6 (j_eB l c q ob xs st e s d n gg ys rm L1.length ca (L1.map rowI) ra L1.length cc (L1.map rowI) rr (i : Nat) 0) (by kernel_rfl) (by kernel_rfl) fin
end Go.Tb.W
