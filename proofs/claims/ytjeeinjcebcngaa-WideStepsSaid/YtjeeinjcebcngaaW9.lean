/- The laws of wide numbers: each is told true. -/
import Derived.Test.YtjeeinjcebcngaaW8
set_option linter.all false
namespace Go.Tb.W
open Go Go.Proofs
variable {I : Interp O}
abbrev Tru : AV → Prop := fun v => v = .bool true ∧ cl v = true
theorem tru {b : Bool} (h : b = true) : Tru (.bool b) := by subst h; exact ⟨rfl, rfl⟩
theorem vl_hl {x : Int} (h : -170141183460469231731687303715884105728 ≤ x ∧ x < 170141183460469231731687303715884105728) : vl (hi x) (lo x) = x := by unfold vl hi lo; omega
theorem vl_64 {x : Int} (h : -9223372036854775808 ≤ x ∧ x ≤ 9223372036854775807) : vl (hi x) (lo x) = x := vl_hl (by omega)
theorem mul_bound {a b : Int} (ha : -9223372036854775808 ≤ a ∧ a ≤ 9223372036854775807) (hb : -9223372036854775808 ≤ b ∧ b ≤ 9223372036854775807) : -85070591730234615865843651857942052864 ≤ a * b ∧ a * b ≤ 85070591730234615865843651857942052864 := by
  have h1 : (a * b).natAbs ≤ 9223372036854775808 * 9223372036854775808 := by rw [Int.natAbs_mul]; exact Nat.mul_le_mul (by omega) (by omega)
  omega
theorem sgn3 (x y : Int) : (x < y ∧ sgn x y = -1) ∨ (x = y ∧ sgn x y = 0) ∨ (y < x ∧ sgn x y = 1) := by
  unfold sgn
  rcases Int.lt_trichotomy x y with h | h | h
  · exact .inl ⟨h, by simp [h, ifB]⟩
  · subst h; exact .inr (.inl ⟨rfl, by simp [ifB]⟩)
  · refine .inr (.inr ⟨h, ?_⟩)
    have h1 : ¬ x < y := by omega
    have h2 : x ≠ y := by omega
    simp [h1, h2, ifB]
theorem l_partl (a b : Int) (hp : Tr (AO O)) : ACall I P 9 [.int .i64 a, .int .i64 b] hp (fun v hp' => v = .bool true ∧ hp' = hp) := by
  refine pcall mix g5 (fn := Try.f9) (by kernel_rfl) (by kernel_rfl) (by kernel_rfl) rfl rfl (fun hr => ?_) hp
  simp only [rgs, rg, Bool.and_eq_true] at hr
  obtain ⟨ha, hb, _⟩ := hr
  have ha := r_i64 ha; have hb := r_i64 hb
  refine (t_partl I Tru a b).mpr ?_
  have hm := mul_bound ha hb
  rw [vl_hl (x := a * b) (by omega), Int.ediv_one, ifB_false (b := decide ((1 : Nat) < 1)) rfl, ifB_false (b := decide ((1 : Nat) < 1)) rfl]
  refine bsplit_both (fun hx => absurd hx (by simp)) (fun _ => bsplit_both (fun hx => absurd hx (by simp)) (fun _ => bsplit_both (fun _ => tru rfl) (fun hx => ?_)))
  have hb1 : 1 ≤ b := by simpa using hx
  have e : a * b / b = a := Int.mul_ediv_cancel a (by omega)
  have hf : fit64 a = true := fit64_iff.2 (by omega)
  rw [e, ifB_false hx, ifB_false hx, ifB_true hf, ifB_true hf]
  exact bsplit_both (fun _ => tru (by simp)) (fun hx => absurd hx (by simp))
theorem l_order (a b c : Int) (hp : Tr (AO O)) : ACall I P 8 [.int .i64 a, .int .i64 b, .int .i64 c] hp (fun v hp' => v = .bool true ∧ hp' = hp) := by
  refine pcall mix g5 (fn := Try.f8) (by kernel_rfl) (by kernel_rfl) (by kernel_rfl) rfl rfl (fun hr => ?_) hp
  simp only [rgs, rg, Bool.and_eq_true] at hr
  obtain ⟨ha, hb, hc, _⟩ := hr
  have ha := r_i64 ha; have hb := r_i64 hb; have hc := r_i64 hc
  refine (t_order I Tru a b c).mpr ?_
  have hm := mul_bound ha hb
  have hm' := mul_bound ha hc
  rw [vl_hl (x := a * b) (by omega), vl_hl (x := a * c) (by omega), vl_64 hb, vl_64 hc, Int.mul_comm b a, Int.mul_one, Int.mul_zero]
  refine bsplit_both (fun hx => absurd hx (by simp)) (fun _ => bsplit_both (fun hx => absurd hx (by simp)) (fun _ => bsplit_both (fun hx => absurd hx (by simp)) (fun _ => bsplit_both (fun hx => tru ?_) (fun h0 => bsplit_both (fun hx => tru ?_) (fun hx => tru ?_)))))
  · have : a = 0 := by simpa using hx
    subst this; simp [sgn, ifB]
  · have h0 : a < 0 := by simpa using hx
    have hw : ∀ n : Int, -1 ≤ n ∧ n ≤ 1 → IntKind.i64.wrap (0 - n) = -n := fun n hn => by rw [s_i64 (by omega)]; omega
    rcases sgn3 b c with ⟨h1, e1⟩ | ⟨h1, e1⟩ | ⟨h1, e1⟩
    · have := Int.mul_lt_mul_of_neg_left h1 h0
      rcases sgn3 (a * b) (a * c) with ⟨h2, e2⟩ | ⟨h2, e2⟩ | ⟨h2, e2⟩ <;> first | omega | (rw [e1, e2, hw _ (by omega)]; rfl)
    · subst h1
      rcases sgn3 (a * b) (a * b) with ⟨h2, e2⟩ | ⟨h2, e2⟩ | ⟨h2, e2⟩ <;> first | omega | (rw [e1, e2, hw _ (by omega)]; rfl)
    · have := Int.mul_lt_mul_of_neg_left h1 h0
      rcases sgn3 (a * b) (a * c) with ⟨h2, e2⟩ | ⟨h2, e2⟩ | ⟨h2, e2⟩ <;> first | omega | (rw [e1, e2, hw _ (by omega)]; rfl)
  · have hn : a ≠ 0 := by simpa using h0
    have hn' : ¬ a < 0 := by simpa using hx
    have h0 : 0 < a := by omega
    rcases sgn3 b c with ⟨h1, e1⟩ | ⟨h1, e1⟩ | ⟨h1, e1⟩
    · have := Int.mul_lt_mul_of_pos_left h1 h0
      rcases sgn3 (a * b) (a * c) with ⟨h2, e2⟩ | ⟨h2, e2⟩ | ⟨h2, e2⟩ <;> first | omega | (rw [e1, e2]; rfl)
    · subst h1
      rcases sgn3 (a * b) (a * b) with ⟨h2, e2⟩ | ⟨h2, e2⟩ | ⟨h2, e2⟩ <;> first | omega | (rw [e1, e2]; rfl)
    · have := Int.mul_lt_mul_of_pos_left h1 h0
      rcases sgn3 (a * b) (a * c) with ⟨h2, e2⟩ | ⟨h2, e2⟩ | ⟨h2, e2⟩ <;> first | omega | (rw [e1, e2]; rfl)
end Go.Tb.W
