/- Laws of disciplines over acts: what is slewed; sides. -/
import Derived.Test.YtfdociljddgnhaaT8
set_option linter.all false
namespace Go.Tb.W
open Go Go.Proofs
variable {I : Interp O}
theorem mx {n : Int} (h : -4611686018427387904 ≤ n ∧ n ≤ 4611686018427387904) : (if IntKind.i64.wrap (0 - n) > n then IntKind.i64.wrap (0 - n) else n) = (n.natAbs : Int) := by
  rw [s_i64 (n := 0 - n) (by omega)]; split <;> omega
/-- What an offset that is taken leads to. -/
theorem take_ok {s p w r st q l b off bd now k y v st' q' l' b' : Int} (hi : dInv s p w r st q l b = true) (h : TakeQ s p w st q l b off bd now k y v 0 st' q' l' b') : (-2305843009213693952 ≤ off ∧ off ≤ 2305843009213693952) ∧ 0 ≤ bd ∧
    ((k = 3 ∧ y = 0 ∧ v = q ∧ st' = 2 ∧ st = 1 ∧ p < (off.natAbs : Int)) ∨ (st' = 1 ∧ l' = now ∧ q' = v ∧ (¬ (p < (off.natAbs : Int) ∧ st = 1)) ∧
      ((k = 2 ∧ y = off ∧ (st = 0 ∨ s < (off.natAbs : Int)) ∧ BndQ bd 0 b') ∨ (k = 0 ∧ y = 0 ∧ (off.natAbs : Int) ≤ bd ∧ st = 1 ∧ BndQ bd (off.natAbs : Int) b') ∨
       (k = 1 ∧ st = 1 ∧ l < now ∧ now - l ≤ 9223372036854775807 ∧ (off.natAbs : Int) ≤ s ∧ (y.natAbs : Int) ≤ (off.natAbs : Int) ∧ (0 < y → 0 < off) ∧ (y < 0 → off < 0) ∧ (y.natAbs : Int) ≤ (now - l) * w / 1000000000 ∧ BndQ bd ((off.natAbs : Int) - (y.natAbs : Int)) b')))) := by
  rw [dInv_iff] at hi
  rcases h with ⟨h, _⟩ | ⟨_, h1, h2, h3, h4, h⟩
  · exact (ref_ne h rfl).elim
  refine ⟨h3, h2, ?_⟩
  rcases h with h | ⟨g1, g2, g3, g4, h⟩
  · exact .inl ⟨h.2.2.1, h.2.2.2.1, h.2.2.2.2.1, h.2.2.2.2.2.1, h.2.1, h.1⟩
  refine .inr ⟨g2, g3, g4, g1, ?_⟩
  rcases h with ⟨a, b, c, d, e⟩ | ⟨a0, a, a2, b, c, d, e⟩ | ⟨a0, a, a2, b, c, d, e⟩
  · exact .inl ⟨b, c, a, e⟩
  · exact .inr (.inl ⟨b, c, a2, a0, e⟩)
  · have h4 := h4 a0
    have := slew_le (by omega) hi.2.2.2.1 c
    exact .inr (.inr ⟨b, a0, h4.1, h4.2, a, this.1, this.2.1, this.2.2.1, this.2.2.2.1, e⟩)
theorem side_eq {y o : Int} (h0 : y ≠ 0) (h7 : 0 < y → 0 < o) (h8 : y < 0 → o < 0) : (!decide (y < 0) == decide (o < 0)) = false := by
  by_cases h : y < 0
  · have := h8 h
    simp [h, this]
  · have h' : ¬ o < 0 := by omega
    simp [h, h']
theorem l_slews (s p w r : Int) (l c : Nat) (ob : Obj) (xs : List Rw) (hxs : xs.length = l) : ACall I P 3 [.agg [.int .i64 s, .int .i64 p, .int .i64 w, .int .i64 r], .sl 0 0 l c] (Tr.ofList 0 [.out ob aS xs] .leaf) (fun v hp' => v = .bool true ∧ hp'.get 0 = some (.out ob aS xs)) := by
  refine ocall mix gg3 (fn := Try.f3) (by kernel_rfl) (by kernel_rfl) (by kernel_rfl) [.out ob aS xs] _ rfl rfl (fun hr ho => ?_)
  simp only [rgs, rg, Bool.and_eq_true, Nat.ble_eq] at hr
  obtain ⟨_, ⟨hlc, hc⟩, _⟩ := hr
  refine (t_slews I (fun v lh _ => v = .bool true ∧ lh.get 0 = some (.out ob aS xs)) s p w r l c ob xs).mpr ⟨fun hn => ?_, fun _ => ⟨rfl, rfl⟩⟩
  have hw : 0 ≤ w ∧ w ≤ 100000000 := by unfold mayN at hn; omega
  refine ALoop.invg (ps := [(1, 1), (2, 2)]) (ts := [1, 2, 5, 7, 8, 9]) (nx := 3) (fun x : (Int × Int × Int × Int) × Int × Int × Bool => j_slews s p w r l c ob xs x.1.1 x.1.2.1 x.1.2.2.1 x.1.2.2.2 x.2.1 x.2.2.1 x.2.2.2)
    (fun x => 0 ≤ x.2.2.1 ∧ x.2.2.1 ≤ l ∧ dInv s p w r x.1.1 x.1.2.1 x.1.2.2.1 x.1.2.2.2 = true ∧ ((x.1.1 = 0 ∧ x.2.2.2 = false) ∨ (x.1.1 = 1 ∧ x.2.2.2 = true ∧ x.2.1 = x.1.2.2.1))) (fun x => (l - x.2.2.1).toNat) (fun x hG => ?_) (by kernel_rfl) ((0, 0, 0, 0), 0, 0, false) (by kernel_rfl) ⟨by simp, by simp, dInv_new hn, .inl ⟨rfl, rfl⟩⟩
  obtain ⟨⟨st, q, lt, b⟩, last, i, seen⟩ := x
  obtain ⟨hi0, hil, hi, hs⟩ := hG
  simp only at hi0 hil hi hs
  refine (t_slewsR I _ _ s p w r l c ob xs st q lt b last i seen).mpr ?_
  refine bsplit_both (fun h1 => bsplit_both (fun h2 => ?_) (fun _ => ⟨rfl, rfl⟩)) (fun _ => ⟨rfl, rfl⟩)
  have h1 : i < l := by simpa using h1
  refine must_mk (by simp; omega) ?_
  have hx : xs[i.toNat]? = some (xs[i.toNat]'(by omega)) := List.getElem?_eq_getElem _
  refine xget_mk hx ?_
  have hrx := act_rg (ho.1 _ (List.mem_of_getElem? hx))
  generalize xs[i.toNat]'(by omega) = x at *
  rw [s_i64 (n := i + 1) (by omega)]
  generalize x.i (0 + 1) = o at *
  generalize x.i (0 + 1 + 1) = bd at *
  generalize x.i (0 + 1 + 1 + 1) = now at *
  refine bsplit_both (fun hk => ⟨((st, q, lt, b), last, i + 1, seen), ⟨by simp only; omega, by simp only; omega, hi, hs⟩, by simp only; omega, by kernel_rfl⟩) (fun hk => ?_)
  refine must_mk hi ?_
  intro k y v e st' q' lt' b' m
  have m := take_flat hi m
  have hi' := take_inv hi m
  have hi2 := dInv_iff.1 hi'
  refine bsplit_both (fun he => ?_) (fun he => ?_)
  · have he : e ≠ 0 := by simpa using he
    obtain ⟨rfl, rfl, rfl, rfl, rfl, rfl, rfl⟩ := take_err m he
    exact ⟨((st', q', lt', b'), last, i + 1, seen), ⟨by simp only; omega, by simp only; omega, hi', hs⟩, by simp only; omega, by kernel_rfl⟩
  · have he : e = 0 := by simpa using he
    subst he
    obtain ⟨ho2, hbd, hk⟩ := take_ok hi m
    rw [mx (n := o) (by omega)]
    rcases hk with ⟨rfl, rfl, rfl, rfl, hst, hp⟩ | ⟨rfl, rfl, rfl, hnp, ⟨rfl, rfl, hk, _⟩ | ⟨rfl, rfl, hk, hst, _⟩ | ⟨rfl, hst, h3, h4, h5, h6, h7, h8, h9, _⟩⟩
    · obtain ⟨_, hseen, _⟩ := hs.resolve_left (by omega)
      subst hseen
      exact bsF rfl (bsF rfl (bsF rfl (bsT rfl (bsT (by simp; omega) (bsT rfl ⟨rfl, rfl⟩)))))
    · refine bsF rfl (bsF rfl (bsT rfl (bsF (by simp) (bsplit_both (fun hseen => ?_) (fun _ => ?_)))))
      · have : st ≠ 0 := by rcases hs with hs | hs; { rw [hs.2] at hseen; cases hseen }; omega
        exact bsF (by simp; omega) (bsF (by simp; omega) (bsF (by simp; omega) ⟨rfl, rfl, rfl, bsF (by simp) ⟨rfl, rfl, rfl, bsF rfl ⟨((1, q', lt', b'), lt', i + 1, true), ⟨by simp only; omega, by simp only; omega, hi', .inr ⟨rfl, rfl, rfl⟩⟩, by simp only; omega, by kernel_rfl⟩⟩⟩))
      · exact bsF (by simp; omega) (bsF (by simp; omega) ⟨rfl, rfl, rfl, bsF (by simp) ⟨rfl, rfl, rfl, bsF rfl ⟨((1, q', lt', b'), lt', i + 1, true), ⟨by simp only; omega, by simp only; omega, hi', .inr ⟨rfl, rfl, rfl⟩⟩, by simp only; omega, by kernel_rfl⟩⟩⟩)
    · exact bsT rfl (bsF rfl (bsF (by simp; omega) (bsF (by simp; omega) (bsF (by simp; omega) ⟨rfl, rfl, rfl, bsF (by simp) ⟨rfl, rfl, rfl, bsF rfl ⟨((1, q', lt', b'), lt', i + 1, true), ⟨by simp only; omega, by simp only; omega, hi', .inr ⟨rfl, rfl, rfl⟩⟩, by simp only; omega, by kernel_rfl⟩⟩⟩))))
    · obtain ⟨_, hseen, hlast⟩ := hs.resolve_left (by omega)
      subst hseen
      have hz : 0 ≤ (lt' - lt) * w := Int.mul_nonneg (by omega) hw.1
      have hz2 : (lt' - lt) * w ≤ 9223372036854775807 * 100000000 := Int.mul_le_mul h4 hw.2 hw.1 (by omega)
      subst hlast
      refine bsF rfl (bsT rfl (fun n9 e10 m10 => ?_))
      rw [s_i64 (n := lt' - last) (by omega)] at m10
      have hn9 : e10 = 0 → (y.natAbs : Int) ≤ n9 := by
        unfold GrownR I64R gro at m10
        generalize (lt' - last) * w = z at *
        omega
      rw [mx (n := y) (by omega)]
      refine bsF (by simp; omega) (bsplit_both (fun hy => bsF (side_eq (by simpa using hy) h7 h8) ?_) (fun hy => ?_))
      all_goals
        refine bsF (by simp; omega) (bsF rfl (bsplit_both (fun he => bsF (by simp at he; have := hn9 he; simp; omega) ?_) (fun he => ?_)))
        all_goals exact bsF (by simp; omega) (bsF (by simp; omega) ⟨rfl, rfl, rfl, bsF (by simp) ⟨rfl, rfl, rfl, bsF rfl ⟨((1, q', lt', b'), lt', i + 1, true), ⟨by simp only; omega, by simp only; omega, hi', .inr ⟨rfl, rfl, rfl⟩⟩, by simp only; omega, by kernel_rfl⟩⟩⟩)
theorem l_slews0 (s p w r : Int) (hp : Tr (AO O)) : ACall I P 3 [.agg [.int .i64 s, .int .i64 p, .int .i64 w, .int .i64 r], .nils] hp (fun v hp' => v = .bool true ∧ hp' = hp) := by
  refine pcall mix gg3 (fn := Try.f3) (by kernel_rfl) (by kernel_rfl) (by kernel_rfl) rfl rfl (fun hr => ?_) hp
  refine (t_slews0 I Tru s p w r).mpr ⟨fun hn => ?_, fun _ => tru rfl⟩
  refine ALoop.start [(0, 0), (1, 1)] [1, 2, 5, 7, 8, 9] 2 (j_slews0 s p w r) (by kernel_rfl) (by kernel_rfl) ?_
  refine ALoop.stepg [(0, 0), (1, 1)] [1, 2, 5, 7, 8, 9] 2 ?_
  exact (t_slews0R I _ _ s p w r).mpr (tru rfl)
end Go.Tb.W
