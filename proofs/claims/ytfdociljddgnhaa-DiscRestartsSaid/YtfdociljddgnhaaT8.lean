/- Laws of disciplines over acts: what is refused, sides. -/
import Derived.Test.YtfdociljddgnhaaT7
import Derived.Test.YtfdociljddgnhaaM17
set_option linter.all false
set_option maxRecDepth 100000
namespace Go.Tb.W
open Go Go.Proofs
variable {I : Interp O}
theorem act_rg {x : Rw} (h : rgs (encR x 0 aS) = true) : (-9223372036854775808 ≤ x.i 0 ∧ x.i 0 ≤ 9223372036854775807) ∧ (-9223372036854775808 ≤ x.i (0 + 1) ∧ x.i (0 + 1) ≤ 9223372036854775807) ∧ (-9223372036854775808 ≤ x.i (0 + 1 + 1) ∧ x.i (0 + 1 + 1) ≤ 9223372036854775807) ∧ (-9223372036854775808 ≤ x.i (0 + 1 + 1 + 1) ∧ x.i (0 + 1 + 1 + 1) ≤ 9223372036854775807) := by
  simp only [aS, encR, encS, rgs, rg, Bool.and_eq_true] at h
  obtain ⟨h0, h1, h2, h3, _⟩ := h
  exact ⟨r_i64 h0, r_i64 h1, r_i64 h2, r_i64 h3⟩
theorem take_err {s p w st q l b off bd now k y v e st' q' l' b' : Int} (h : TakeQ s p w st q l b off bd now k y v e st' q' l' b') (he : e ≠ 0) : k = 0 ∧ y = 0 ∧ v = 0 ∧ st' = st ∧ q' = q ∧ l' = l ∧ b' = b := by
  rcases h with ⟨_, h⟩ | ⟨h, _⟩
  · exact h
  · exact (he h).elim
theorem l_refuses (s p w r : Int) (l c : Nat) (ob : Obj) (xs : List Rw) (hxs : xs.length = l) : ACall I P 8 [.agg [.int .i64 s, .int .i64 p, .int .i64 w, .int .i64 r], .sl 0 0 l c] (Tr.ofList 0 [.out ob aS xs] .leaf) (fun v hp' => v = .bool true ∧ hp'.get 0 = some (.out ob aS xs)) := by
  refine ocall mix gg3 (fn := Try.f8) (by kernel_rfl) (by kernel_rfl) (by kernel_rfl) [.out ob aS xs] _ rfl rfl (fun hr ho => ?_)
  simp only [rgs, rg, Bool.and_eq_true, Nat.ble_eq] at hr
  obtain ⟨_, ⟨hlc, hc⟩, _⟩ := hr
  refine (t_refuses I (fun v lh _ => v = .bool true ∧ lh.get 0 = some (.out ob aS xs)) s p w r l c ob xs).mpr ⟨fun hn => ⟨fun _ => ?_, fun h => (h hn).elim⟩, fun hn => ⟨fun h => (hn h).elim, fun _ => ⟨rfl, rfl⟩⟩⟩
  have hw : 0 ≤ w := by unfold mayN at hn; omega
  refine ALoop.invg (ps := [(2, 2), (3, 3)]) (ts := [1, 5, 7, 9]) (nx := 4) (fun x : (Int × Int × Int × Int) × Int => j_refuses s p w r l c ob xs x.1.1 x.1.2.1 x.1.2.2.1 x.1.2.2.2 x.1.1 x.1.2.1 x.1.2.2.1 x.1.2.2.2 x.2)
    (fun x => 0 ≤ x.2 ∧ x.2 ≤ l ∧ dInv s p w r x.1.1 x.1.2.1 x.1.2.2.1 x.1.2.2.2 = true) (fun x => (l - x.2).toNat) (fun x hG => ?_) (by kernel_rfl) ((0, 0, 0, 0), 0) (by kernel_rfl) ⟨by simp, by simp, dInv_new hn⟩
  obtain ⟨⟨st, q, lt, b⟩, i⟩ := x
  obtain ⟨hi0, hil, hi⟩ := hG
  simp only at hi0 hil hi
  refine (t_refusesR I _ _ s p w r l c ob xs st q lt b st q lt b i).mpr ?_
  refine bsplit_both (fun h1 => bsplit_both (fun h2 => ?_) (fun _ => ⟨rfl, rfl⟩)) (fun _ => ⟨rfl, rfl⟩)
  have h1 : i < l := by simpa using h1
  refine must_mk (by simp; omega) ?_
  have hx : xs[i.toNat]? = some (xs[i.toNat]'(by omega)) := List.getElem?_eq_getElem _
  refine xget_mk hx ?_
  have hrx := act_rg (ho.1 _ (List.mem_of_getElem? hx))
  generalize xs[i.toNat]'(by omega) = x at *
  rw [s_i64 (n := i + 1) (by omega)]
  refine must_mk hi ?_
  intro k y v e st' q' lt' b' m
  have m := take_flat hi m
  have hi' := take_inv hi m
  refine bsplit_both (fun he => ?_) (fun he => ?_)
  · have he : e ≠ 0 := by simpa using he
    obtain ⟨rfl, rfl, rfl, rfl, rfl, rfl, rfl⟩ := take_err m he
    refine bsF rfl ⟨((st', q', lt', b'), i + 1), ⟨by simp only; omega, by simp only; omega, hi'⟩, ?_, by kernel_rfl⟩
    simp only; omega
  · have he : e = 0 := by simpa using he
    subst he
    refine must_mk hi ?_
    intro k2 y2 v2 e2 st2 q2 lt2 b2 m2
    obtain ⟨rfl, rfl, rfl, rfl, rfl, rfl, rfl, rfl⟩ := take_det m (take_flat hi m2) hw
    refine bsF (by simp) (bsF rfl (bsF (by simp) (bsF (by simp) ⟨((st2, q2, lt2, b2), i + 1), ⟨by simp only; omega, by simp only; omega, hi'⟩, ?_, by kernel_rfl⟩)))
    simp only; omega
theorem l_refuses0 (s p w r : Int) (hp : Tr (AO O)) : ACall I P 8 [.agg [.int .i64 s, .int .i64 p, .int .i64 w, .int .i64 r], .nils] hp (fun v hp' => v = .bool true ∧ hp' = hp) := by
  refine pcall mix gg3 (fn := Try.f8) (by kernel_rfl) (by kernel_rfl) (by kernel_rfl) rfl rfl (fun hr => ?_) hp
  refine (t_refuses0 I Tru s p w r).mpr ⟨fun hn => ⟨fun _ => ?_, fun h => (h hn).elim⟩, fun hn => ⟨fun h => (hn h).elim, fun _ => tru rfl⟩⟩
  refine ALoop.start [(1, 1), (2, 2)] [1, 5, 7, 9] 3 (j_refuses0 s p w r) (by kernel_rfl) (by kernel_rfl) ?_
  refine ALoop.stepg [(1, 1), (2, 2)] [1, 5, 7, 9] 3 ?_
  exact (t_refuses0R I _ _ s p w r).mpr (tru rfl)
end Go.Tb.W
