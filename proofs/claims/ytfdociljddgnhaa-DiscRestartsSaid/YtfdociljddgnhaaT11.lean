/- Laws of disciplines over acts: behind a restart. -/
import Derived.Test.YtfdociljddgnhaaT8
set_option linter.all false
set_option maxRecDepth 100000
namespace Go.Tb.W
open Go Go.Proofs
variable {I : Interp O}
theorem l_restarts (s p w r : Int) (l c : Nat) (z1 : Bool) (ob : Obj) (xs : List Rw) (hxs : xs.length = l) (l2 c2 : Nat) (z2 : Bool) (ob2 : Obj) (ys : List Rw) (hys : ys.length = l2) :
    ACall I P 5 [.agg [.int .i64 s, .int .i64 p, .int .i64 w, .int .i64 r], .slq 0 l c z1, .slq 1 l2 c2 z2] (Tr.ofList 0 [.out ob aS xs, .out ob2 aS ys] .leaf) (fun v _ => v = .bool true) := by
  refine ocall mix gg3 (fn := Try.f5) (by kernel_rfl) (by kernel_rfl) (by kernel_rfl) [.out ob aS xs, .out ob2 aS ys] _ rfl rfl (fun hr ho => ?_)
  simp only [rgs, rg, Bool.and_eq_true, Nat.ble_eq] at hr
  obtain ⟨_, ⟨hlc, hc⟩, ⟨hlc2, hc2⟩, _⟩ := hr
  refine (t_restarts I (fun v _ _ => v = .bool true) s p w r l c l2 c2 z1 z2 ob ob2 xs ys).mpr ⟨fun hn => ⟨fun _ => ?_, fun h => (h hn).elim⟩, fun hn => ⟨fun h => (hn h).elim, fun _ => rfl⟩⟩
  have hw : 0 ≤ w := by unfold mayN at hn; omega
  refine ALoop.invg (ps := [(3, 3), (4, 4)]) (ts := [1, 2, 7, 9, 11]) (nx := 5) (fun x : (Int × Int × Int × Int) × Int => j_rs1 s p w r l c l2 c2 z1 z2 ob ob2 xs ys x.1.1 x.1.2.1 x.1.2.2.1 x.1.2.2.2 x.2)
    (fun x => 0 ≤ x.2 ∧ x.2 ≤ l ∧ dInv s p w r x.1.1 x.1.2.1 x.1.2.2.1 x.1.2.2.2 = true) (fun x => (l - x.2).toNat) (fun x hG => ?_) (by kernel_rfl) ((0, 0, 0, 0), 0) (by kernel_rfl) ⟨by simp, by simp, dInv_new hn⟩
  obtain ⟨⟨st, q, lt, b⟩, i⟩ := x
  obtain ⟨hi0, hil, hi⟩ := hG
  simp only at hi0 hil hi
  refine (t_restartsA I _ _ s p w r l c l2 c2 z1 z2 ob ob2 xs ys st q lt b i).mpr ?_
  have second : ∀ s0 : St O, gcOk 2 [(3, 3), (4, 4)] [2, 7, 9, 12] s0 = true → gc 2 [(3, 3), (4, 4)] [2, 7, 9, 12] 5 s0 = j_rs2 s p w r l2 c2 z2 ob ob2 xs ys 0 0 0 0 0 0 0 0 0 →
      ALoop I 2 (cd Try.f5 [true, true, true, true, true, true, true, false, true, false, false]) (acode I P (Gm G3) (adraw P (Gm G3)) 2 (cd Try.f5 [true, true, true, true, true, true, true, false, true, false, false])) (ablock 2 (athen (cd Try.f5 [true, true, true, true, true, true, true, true]) (fun s => acode I P (Gm G3) (adraw P (Gm G3)) 2 (cd Try.f5 [true, true, true, true, true, true, true, true]) s (kret P Try.f5 (fun v _ _ => v = .bool true))) (kret P Try.f5 (fun v _ _ => v = .bool true)))) s0 := by
    intro s0 h0 e0
    refine ALoop.invg (ps := [(3, 3), (4, 4)]) (ts := [2, 7, 9, 12]) (nx := 5) (fun x : (Int × Int × Int × Int) × Int => j_rs2 s p w r l2 c2 z2 ob ob2 xs ys x.1.1 x.1.2.1 x.1.2.2.1 x.1.2.2.2 x.1.1 x.1.2.1 x.1.2.2.1 x.1.2.2.2 x.2)
      (fun x => 0 ≤ x.2 ∧ x.2 ≤ l2 ∧ dInv s p w r x.1.1 x.1.2.1 x.1.2.2.1 x.1.2.2.2 = true) (fun x => (l2 - x.2).toNat) (fun x hG => ?_) h0 ((0, 0, 0, 0), 0) e0 ⟨by simp, by simp, dInv_new hn⟩
    obtain ⟨⟨st, q, lt, b⟩, i⟩ := x
    obtain ⟨hi0, hil, hi⟩ := hG
    simp only at hi0 hil hi
    refine (t_restartsB I _ (fun _ => True) _ s p w r l2 c2 z2 ob ob2 xs ys st q lt b st q lt b i).mpr ?_
    refine bsplit_both (fun h1 => bsplit_both (fun h2 => ?_) (fun _ => rfl)) (fun _ => rfl)
    have h1 : i < l2 := by simpa using h1
    refine must_mk (by simp; omega) ?_
    have hx : ys[i.toNat]? = some (ys[i.toNat]'(by omega)) := List.getElem?_eq_getElem _
    refine xget_mk hx ?_
    generalize ys[i.toNat]'(by omega) = x at *
    rw [s_i64 (n := i + 1) (by omega)]
    refine must_mk hi ?_
    intro k y v e st' q' lt' b' m
    have m := take_flat hi m
    have hi' := take_inv hi m
    refine must_mk hi ?_
    intro k2 y2 v2 e2 st2 q2 lt2 b2 m2
    obtain ⟨rfl, rfl, rfl, rfl, rfl, rfl, rfl, rfl⟩ := take_det m (take_flat hi m2) hw
    refine must_mk hi' ?_
    intro n4 e4 m4
    refine must_mk hi' ?_
    intro n5 e5 m5
    obtain ⟨rfl, rfl⟩ := bound_det m4 m5
    refine bsF (by simp) (bsF (by simp) (bsF (by simp) (bsF (by simp) (bsF (by simp) ⟨((st2, q2, lt2, b2), i + 1), ⟨by simp only; omega, by simp only; omega, hi'⟩, by simp only; omega, by kernel_rfl⟩))))
  refine bsplit_both (fun h1 => bsplit_both (fun h2 => ?_) (fun _ => second _ (by kernel_rfl) (by kernel_rfl))) (fun _ => second _ (by kernel_rfl) (by kernel_rfl))
  have h1 : i < l := by simpa using h1
  have hb : decide (0 ≤ i ∧ i < (l : Int)) = true := by simp; omega
  refine must_mk hb (must_mk hb (must_mk hb ?_))
  have hx : xs[i.toNat]? = some (xs[i.toNat]'(by omega)) := List.getElem?_eq_getElem _
  rw [s_i64 (n := i + 1) (by omega)]
  refine ⟨xget_mk hx ⟨xget_mk hx (xget_mk hx ?_), xget_mk hx (xget_mk hx ?_)⟩, xget_mk hx ⟨xget_mk hx (xget_mk hx ?_), xget_mk hx (xget_mk hx ?_)⟩, xget_mk hx ⟨xget_mk hx (xget_mk hx ?_), xget_mk hx (xget_mk hx ?_)⟩⟩
  all_goals
    generalize xs[i.toNat]'(by omega) = x at *
    refine must_mk hi ?_
    intro k y v e st' q' lt' b' m
    have hi' := take_inv hi (take_flat hi m)
    exact ⟨((st', q', lt', b'), i + 1), ⟨by simp only; omega, by simp only; omega, hi'⟩, by simp only; omega, by kernel_rfl⟩
end Go.Tb.W
