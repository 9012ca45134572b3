/- Queues: the library's heaps, and what is dropped, proved. -/
import Derived.Test.YtcabackgkjhmeaaQ5
import Derived.Test.YtcabackgkjhmeaaQ7
set_option linter.all false
set_option maxRecDepth 100000
namespace Go.Tb.W
open Go Go.Proofs
variable {I : Interp O}
theorem gA3 : GOk I P (Gm A3) := Gm.consH (Gm.consH gA2 k_down) k_up
theorem k_drop1 : ∀ (args : List AV) (hp : Tr (AO O)) (nx : Nat) (K : AV → Tr (AO O) → Nat → Prop), c_drop1 args hp nx K → ACall I P 24 args hp (fun v hp' => ∃ nx', K v hp' nx') := by
  intro args hp nx K h
  unfold c_drop1 at h; split at h
  · rename_i a b s d k
    split at h
    · rename_i kd hb hg
      refine hcallK mix Gm.nil (fn := Try.f24) (by kernel_rfl) (by kernel_rfl) (by kernel_rfl) [k] [kO kd] [.agg [.int .i64 a, .int .i64 b, .str s, .int .i64 d], .ptr 0 0] (fun v lh => v = .bool (b == kd) ∧ lh.get 0 = some (kO kd)) rfl (uniq1 hb) rfl ⟨hg, trivial⟩ rfl rfl (fun hr ho => (t_drop1 I _ a b d kd s).mpr ⟨rfl, rfl⟩) ?_
      rintro v lh ⟨rfl, h0⟩
      refine ⟨[], [], uniq1 hb, trivial, rfl, fun j g hj => (by cases hj), ⟨?_, trivial⟩, ?_, rfl, ⟨nx, h⟩⟩
      · show hp.get k = (lh.get 0).map _; rw [hg, h0]; rfl
      · simp [pairs, nmAll, h0, nmO]; rfl
    · exact h.elim
  · exact h.elim
theorem gA5 : GOk I P (Gm A5) := Gm.consH Gm.nil k_drop1
theorem idxF_some {xs : List Rw} {kd : Int} {i : Nat} (hi : i < xs.length) (h : (xs[i]).i 1 = kd) (hb : ∀ (j : Nat) (hj : j < i), (xs[j]).i 1 ≠ kd) : idxF xs kd = i := by
  unfold idxF
  rw [List.findIdx?_eq_some_iff_getElem.2 ⟨hi, by simpa using h, fun j hj => by simpa using hb j hj⟩]
theorem idxF_none {xs : List Rw} {kd : Int} (hb : ∀ (j : Nat) (hj : j < xs.length), (xs[j]).i 1 ≠ kd) : idxF xs kd = -1 := by
  unfold idxF
  rw [List.findIdx?_eq_none_iff.2 fun x hx => by
    obtain ⟨j, hj, rfl⟩ := List.mem_iff_getElem.1 hx
    simpa using hb j hj]
theorem k_indexf : ∀ (args : List AV) (hp : Tr (AO O)) (nx : Nat) (K : AV → Tr (AO O) → Nat → Prop), c_indexf args hp nx K → ACall I P 28 args hp (fun v hp' => ∃ nx', K v hp' nx') := by
  intro args hp nx K h
  unfold c_indexf at h; split at h
  · rename_i m l c k
    split at h
    · rename_i xs room kd hb hg hg2
      obtain ⟨h1, h⟩ := h
      obtain ⟨hu, _⟩ := both_iff hb
      refine hcallK mix gA5 (fn := Try.f28) (by kernel_rfl) (by kernel_rfl) (by kernel_rfl) [m, k] [eO xs room, kO kd] [.sl 0 0 l c, .fn (.func 24) [] [.ptr 1 0]] (fun v lh => v = .int .i64 (idxF (xs.take l) kd) ∧ lh.get 0 = some (eO xs room) ∧ lh.get 1 = some (kO kd)) rfl hu rfl ⟨hg, hg2, trivial⟩ rfl rfl (fun hr ho => (t_indexf I _ l c room xs kd).mpr ?_) ?_
      · have hlc : l ≤ 9223372036854775807 := by
          simp only [rgs, rg, Bool.and_eq_true, Nat.ble_eq] at hr
          omega
        refine ALoop.invg (ps := []) (ts := [0, 1, 7, 8]) (nx := 2) (fun i : Nat => j_idx l c room xs kd (i : Nat)) (fun i => i ≤ l ∧ ∀ (j : Nat) (hj : j < i) (hx : j < xs.length), (xs[j]).i 1 ≠ kd) (fun i => l - i) ?_ (by kernel_rfl) 0 (by kernel_rfl) ⟨Nat.zero_le _, fun j hj => absurd hj (Nat.not_lt_zero _)⟩
        rintro i ⟨hi, hb⟩
        have hlen : (xs.take l).length = l := by simp; omega
        refine (t_indexfR I _ _ l c room xs kd i).mpr (bsplit_both (fun hx => ?_) (fun hx => ?_))
        · have hx := of_decide_eq_true hx
          have hil : i < l := by omega
          refine must_mk (decide_eq_true ⟨by omega, hx⟩) (xget_mk (List.getElem?_eq_getElem (show (i : Int).toNat < xs.length by omega)) (bsplit_both (fun hq => ⟨?_, rfl, rfl⟩) (fun hq => ⟨i + 1, ⟨hil, fun j hj hx => ?_⟩, by omega, ?_⟩)))
          · have hq : (xs[i]'(by omega)).i 1 = kd := by simpa using hq
            rw [idxF_some (xs := xs.take l) (i := i) (by omega) (by rw [List.getElem_take]; exact hq) (fun j hj => by rw [List.getElem_take]; exact hb j hj (by omega))]
          · have hq : (xs[i]'(by omega)).i 1 ≠ kd := by simpa using hq
            by_cases e : j = i
            · subst e; exact hq
            · exact hb j (by omega) hx
          · have e : IntKind.i64.wrap ((i : Int) + 1) = ((i + 1 : Nat) : Int) := by rw [w_i64]; omega
            simp only [e]; rfl
        · have hx := of_decide_eq_false hx
          refine ⟨?_, rfl, rfl⟩
          rw [idxF_none (xs := xs.take l) (fun j hj => by rw [List.getElem_take]; exact hb j (by omega) (by omega))]
      · rintro v lh ⟨rfl, h0, h1'⟩
        refine ⟨[], [], hu, trivial, rfl, fun j g hj => (by cases hj), ⟨?_, ?_, trivial⟩, ?_, rfl, ⟨nx, h⟩⟩
        · show hp.get m = (lh.get 0).map _; rw [hg, h0]; rfl
        · show hp.get k = (lh.get 1).map _; rw [hg2, h1']; rfl
        · simp [pairs, nmAll, h0, h1', nmO]; rfl
    · exact h.elim
  · rename_i k
    split at h
    · rename_i kd hb hg
      refine hcallK mix gA5 (fn := Try.f28) (by kernel_rfl) (by kernel_rfl) (by kernel_rfl) [k] [kO kd] [.nils, .fn (.func 24) [] [.ptr 0 0]] (fun v lh => v = .int .i64 (-1) ∧ lh.get 0 = some (kO kd)) rfl (uniq1 hb) rfl ⟨hg, trivial⟩ rfl rfl (fun hr ho => (t_indexf0 I _ kd).mpr ?_) ?_
      · refine ALoop.start [] [0, 1, 7, 8] 1 (j_idx0 kd) (by kernel_rfl) (by kernel_rfl) ?_
        refine ALoop.stepg [] [0, 1, 7, 8] 1 ?_
        exact (t_indexf0R I _ _ kd).mpr ⟨rfl, rfl⟩
      · rintro v lh ⟨rfl, h0⟩
        refine ⟨[], [], uniq1 hb, trivial, rfl, fun j g hj => (by cases hj), ⟨?_, trivial⟩, ?_, rfl, ⟨nx, h⟩⟩
        · show hp.get k = (lh.get 0).map _; rw [hg, h0]; rfl
        · simp [pairs, nmAll, h0, nmO]; rfl
    · exact h.elim
  · exact h.elim
theorem gA6 : GOk I P (Gm A6) := Gm.consH gA5 k_indexf
theorem filter_all {xs : List Rw} {p : Rw → Bool} (h : ∀ x ∈ xs, p x = true) : xs.filter p = xs := List.filter_eq_self.2 h
theorem take_succ_get {xs : List Rw} {k : Nat} (h : k < xs.length) : xs.take (k + 1) = xs.take k ++ [xs[k]] := by
  rw [List.take_add_one, List.getElem?_eq_getElem h]; rfl
theorem k_deletef : ∀ (args : List AV) (hp : Tr (AO O)) (nx : Nat) (K : AV → Tr (AO O) → Nat → Prop), c_deletef args hp nx K → ACall I P 23 args hp (fun v hp' => ∃ nx', K v hp' nx') := by
  intro args hp nx K h
  unfold c_deletef at h; split at h
  · rename_i m l c k
    split at h
    · rename_i xs room kd hb hg hg2
      obtain ⟨⟨h1, hnr⟩, h⟩ := h
      obtain ⟨hu, _⟩ := both_iff hb
      refine hcallG mix gA6 (fn := Try.f23) (by kernel_rfl) (by kernel_rfl) (by kernel_rfl) [m, k] [eO xs room, kO kd] [.sl 0 0 l c, .fn (.func 24) [] [.ptr 1 0]] rfl hu rfl ⟨hg, hg2, trivial⟩ rfl rfl (fun hr ho => (t_deletef I _ l c room xs kd).mpr ⟨h1, ?_⟩)
      have hlc : l ≤ c ∧ c ≤ 9223372036854775807 := by
        simp only [rgs, rg, Bool.and_eq_true, Nat.ble_eq] at hr
        exact hr.1
      clear hr ho
      have hlen : (xs.take l).length = l := by simp; omega
      have fin : ∀ (ys : List Rw) (i : Nat), ys.length = xs.length → i ≤ l → ys.take i = (xs.take l).filter (fun x => !(x.i 1 == kd)) → AllBack hp [m, k] K (.sl 0 0 i c) (.node (.node .leaf (some (kO kd)) .leaf) (some (eO ys room)) .leaf) := fun ys i a b d => ⟨[], nx, hu, trivial, rfl, rfl, h ys i ⟨a, b, d⟩⟩
      cases hf : (xs.take l).findIdx? (fun x => x.i 1 == kd) with
      | none =>
        have e : idxF (xs.take l) kd = -1 := by unfold idxF; rw [hf]
        rw [e]
        refine bsplit_both (fun _ => fin xs l rfl (Nat.le_refl _) ?_) (fun hx => absurd hx (by decide))
        rw [filter_all]
        intro x hx
        have := List.findIdx?_eq_none_iff.1 hf x hx
        simp only [this]; rfl
      | some i0 =>
        have e : idxF (xs.take l) kd = (i0 : Int) := by unfold idxF; rw [hf]
        obtain ⟨hi0, hp0, hb0⟩ := List.findIdx?_eq_some_iff_getElem.1 hf
        rw [hlen] at hi0
        have e1 : IntKind.i64.wrap ((i0 : Int) + 1) = ((i0 + 1 : Nat) : Int) := by rw [w_i64]; omega
        simp only [e, e1]
        refine bsplit_both (fun hx => absurd (eq_of_beq hx) (by omega)) (fun hx => ?_)
        refine ALoop.invg (ps := []) (ts := [0, 1, 5, 6]) (nx := 2) (fun x : List Rw × Nat × Nat => j_del l c room x.1 kd (x.2.1 : Nat) (x.2.2 : Nat)) (fun x => (x.1.length = xs.length ∧ x.2.1 < x.2.2 ∧ x.2.2 ≤ l) ∧ x.1.take x.2.1 = (xs.take x.2.2).filter (fun x => !(x.i 1 == kd)) ∧ x.1.drop x.2.2 = xs.drop x.2.2) (fun x => l - x.2.2) ?_ (by kernel_rfl) (xs, i0, i0 + 1) (by kernel_rfl) ⟨⟨rfl, by show i0 < i0 + 1; omega, hi0⟩, ?_, rfl⟩
        · rintro ⟨ys, i, q⟩ ⟨⟨g1, g2, g3⟩, g4, g5⟩
          simp only at g1 g2 g3 g4 g5 ⊢
          refine (t_deletefR I _ _ l c room ys kd i q).mpr (bsplit_both (fun hx => ?_) (fun hx => ?_))
          · have hx := of_decide_eq_true hx
            have hq : q < l := by omega
            have gq : ys[q]'(by omega) = xs[q]'(by omega) := by
              have a : (ys.drop q)[0]? = (xs.drop q)[0]? := by rw [g5]
              simp only [List.getElem?_drop, Nat.add_zero] at a
              rw [List.getElem?_eq_getElem (by omega), List.getElem?_eq_getElem (by omega)] at a
              exact Option.some.inj a
            have e2 : IntKind.i64.wrap ((i : Int) + 1) = ((i + 1 : Nat) : Int) := by rw [w_i64]; omega
            have e3 : IntKind.i64.wrap ((q : Int) + 1) = ((q + 1 : Nat) : Int) := by rw [w_i64]; omega
            have hdrop : ∀ zs : List Rw, zs.drop q = xs.drop q → zs.drop (q + 1) = xs.drop (q + 1) := fun zs e => by
              have := congrArg (List.drop 1) e
              simpa [List.drop_drop, Nat.add_comm] using this
            have hts := take_succ_get (xs := xs) (k := q) (by omega)
            simp only [e2, e3, Int.toNat_natCast]
            refine must_mk (decide_eq_true ⟨by omega, hx⟩) (xget_mk (List.getElem?_eq_getElem (by omega)) (bsplit_both (fun hc => must_mk (decide_eq_true ⟨by omega, by omega⟩) (xget_mk (List.getElem?_eq_getElem (by omega)) ?_)) (fun hc => ⟨(ys, i, q + 1), ⟨⟨g1, by show i < q + 1; omega, hq⟩, ?_, hdrop _ g5⟩, by show l - (q + 1) < l - q; omega, rfl⟩)))
            · have hn : nE (xs[q]'(by omega)) = xs[q]'(by omega) := hnr _ (by
                rw [List.mem_iff_getElem]
                exact ⟨q, by omega, by rw [List.getElem_take]⟩)
              rw [gq] at hc ⊢
              refine ⟨(ys.set i xs[q], i + 1, q + 1), ⟨⟨by simp [g1], by show i + 1 < q + 1; omega, hq⟩, ?_, hdrop _ (by
                show (ys.set i xs[q]).drop q = _
                rw [List.drop_set_of_lt (by omega)]; exact g5)⟩, by show l - (q + 1) < l - q; omega, ?_⟩
              · show (ys.set i xs[q]).take (i + 1) = _
                rw [take_succ_get (by simp; omega), List.take_set_of_le (Nat.le_refl _), g4, hts, List.filter_append]
                have : List.filter (fun x : Rw => !(x.i 1 == kd)) [xs[q]] = [xs[q]] := by
                  rw [List.filter_cons_of_pos (by exact hc)]; rfl
                rw [this]; simp
              · show _ = j_del l c room (ys.set i xs[q]) kd _ _
                rw [← hn]; rfl
            · show ys.take i = (xs.take (q + 1)).filter _
              rw [gq] at hc
              rw [hts, List.filter_append, g4]
              have : List.filter (fun x : Rw => !(x.i 1 == kd)) [xs[q]] = [] := by
                rw [List.filter_cons_of_neg (by
                  have hc : (!(xs[q]'(by omega)).i 1 == kd) = false := hc
                  rw [hc]; simp)]; rfl
              rw [this, List.append_nil]
          · have hx := of_decide_eq_false hx
            have hq : q = l := by omega
            subst hq
            simp only [Int.toNat_natCast]
            refine must_mk (decide_eq_true ⟨by omega, by omega⟩) (must_mk ?_ (must_mk (decide_eq_true ⟨by omega, by omega⟩) (fin _ i ?_ (by omega) ?_)))
            · have t1 : fitsA eS (acells (AV.agg [AV.int IntKind.i64 0, AV.int IntKind.i64 0, AV.str { data := #[] }, AV.int IntKind.i64 0])) = true := rfl
              have t2 : (P.types[66].size.beq eS.length) = true := by kernel_rfl
              rw [t1, t2]
              simp [Nat.ble_eq]; omega
            · rw [clearR_length (by omega)]; exact g1
            · rw [← g4]; unfold clearR
              rw [List.append_assoc, List.take_append_of_le_length (by simp; omega), List.take_take, Nat.min_self]
        · show xs.take i0 = (xs.take (i0 + 1)).filter _
          rw [take_succ_get (by omega), List.filter_append]
          have : List.filter (fun x : Rw => !(x.i 1 == kd)) [xs[i0]'(by omega)] = [] := by
            rw [List.filter_cons_of_neg (by
              rw [List.getElem_take] at hp0
              rw [hp0]; simp)]; rfl
          rw [this, List.append_nil, filter_all]
          intro x hx
          obtain ⟨j, hj, rfl⟩ := List.mem_iff_getElem.1 hx
          have hj' : j < i0 := by simp at hj; omega
          have := hb0 j hj'
          rw [List.getElem_take] at this
          rw [List.getElem_take]
          simpa using this
    · exact h.elim
  · rename_i k
    split at h
    · rename_i kd hb hg
      refine hcallK mix gA6 (fn := Try.f23) (by kernel_rfl) (by kernel_rfl) (by kernel_rfl) [k] [kO kd] [.nils, .fn (.func 24) [] [.ptr 0 0]] (fun v lh => v = .nils ∧ lh.get 0 = some (kO kd)) rfl (uniq1 hb) rfl ⟨hg, trivial⟩ rfl rfl (fun hr ho => (t_deletef0 I _ kd).mpr ⟨rfl, rfl⟩) ?_
      rintro v lh ⟨rfl, h0⟩
      refine ⟨[], [], uniq1 hb, trivial, rfl, fun j g hj => (by cases hj), ⟨?_, trivial⟩, ?_, rfl, ⟨nx, h⟩⟩
      · show hp.get k = (lh.get 0).map _; rw [hg, h0]; rfl
      · simp [pairs, nmAll, h0, nmO]; rfl
    · exact h.elim
  · exact h.elim
end Go.Tb.W
