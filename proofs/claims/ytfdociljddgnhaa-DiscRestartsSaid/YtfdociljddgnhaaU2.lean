/- What the wide numbers' functions tell, of halves that are known by what they are worth: proved. -/
import Derived.Test.YtfdociljddgnhaaW8
import Derived.Test.YtfdociljddgnhaaU1
set_option linter.all false
set_option maxRecDepth 100000
namespace Go.Tb.W
open Go Go.Proofs
variable {I : Interp O}
theorem bsT {b : Bool} {K : Bool → Prop} (h : b = true) (k : K true) : bsplit b K := by subst h; exact k
theorem bsF {b : Bool} {K : Bool → Prop} (h : b = false) (k : K false) : bsplit b K := by subst h; exact k
theorem nm_of {x : Int} (h : -170141183460469231731687303715884105728 ≤ x ∧ x ≤ 170141183460469231731687303715884105727) : Nm (hi x) (lo x) x := by unfold Nm vl hi lo; omega
theorem nm_inj {h l h' l' x : Int} (a : Nm h l x) (b : Nm h' l' x) : h = h' ∧ l = l' := by unfold Nm vl at *; omega
theorem nm_iff {h l h' l' x y : Int} (a : Nm h l x) (b : Nm h' l' y) : (h = h' ∧ l = l') ↔ x = y := by unfold Nm vl at *; omega
theorem nm_neg {h l x : Int} (a : Nm h l x) : h < 0 ↔ x < 0 := by unfold Nm vl at *; omega
theorem nm_bound {h l x : Int} (a : Nm h l x) : -170141183460469231731687303715884105728 ≤ x ∧ x ≤ 170141183460469231731687303715884105727 := by unfold Nm vl at *; omega
theorem nm_self {h l : Int} (h1 : -9223372036854775808 ≤ h ∧ h ≤ 9223372036854775807) (h2 : 0 ≤ l ∧ l ≤ 18446744073709551615) : Nm h l (vl h l) := ⟨h1, h2, rfl⟩
theorem ulift {f : FuncId} {fn : Func} (hf : P.funcs[f]? = some fn) (hname : (fn.name == "runtime.NumGoroutine") = false) (hb : fn.body.isSome = true)
    {s s' : List AV → (AV → Prop) → Prop} (k : ∀ (args : List AV) (K : AV → Prop), s args K → ∀ hp, ACall I P f args hp (fun v hp' => K v ∧ hp' = hp))
    (imp : ∀ (args : List AV) (K : AV → Prop), s' args K → rgs args = true → s args K) : ∀ (args : List AV) (K : AV → Prop), s' args K → ∀ hp, ACall I P f args hp (fun v hp' => K v ∧ hp' = hp) :=
  fun args K h hp => ACall.of_rg (callable hf hname hb) fun hr => k args K (imp args K h hr) hp
theorem addR_ov {x : Int} : AddR x (ifB (fit x) (hi x) 0) (ifB (fit x) (lo x) 0) (ifB (fit x) 0 6) := by
  cases hx : fit x with
  | true => have := fit_iff.1 hx; exact .inl ⟨rfl, nm_of (by omega)⟩
  | false => exact .inr ⟨rfl, rfl, rfl, by have := mt (fit_iff (x := x)).2 (by simp [hx]); omega⟩
theorem i64R_ov {x : Int} : I64R x (ifB (fit64 x) x 0) (ifB (fit64 x) 0 6) := by
  cases hx : fit64 x with
  | true => have := fit64_iff.1 hx; exact .inl ⟨rfl, rfl, by omega⟩
  | false => exact .inr ⟨rfl, rfl, by have := mt (fit64_iff (x := x)).2 (by simp [hx]); omega⟩
theorem cmpR_sgn {x y : Int} : CmpR x y (sgn x y) := by
  unfold CmpR sgn
  rcases Int.lt_trichotomy x y with h | h | h
  · simp [h, ifB]
  · subst h; simp [ifB]
  · have h1 : ¬ x < y := by omega
    have h2 : x ≠ y := by omega
    simp [h1, h2, ifB, h]
theorem mul_bd {a b : Int} (ha : -9223372036854775808 ≤ a ∧ a ≤ 9223372036854775807) (hb : -9223372036854775808 ≤ b ∧ b ≤ 9223372036854775807) : -85070591730234615865843651857942052864 ≤ a * b ∧ a * b ≤ 85070591730234615865843651857942052864 := by
  have h1 : (a * b).natAbs ≤ 9223372036854775808 * 9223372036854775808 := by rw [Int.natAbs_mul]; exact Nat.mul_le_mul (by omega) (by omega)
  omega
theorem div_bd {x y : Int} (hx : -170141183460469231731687303715884105728 ≤ x ∧ x ≤ 170141183460469231731687303715884105727) (hy : 1 ≤ y) : -170141183460469231731687303715884105728 ≤ x / y ∧ x / y ≤ 170141183460469231731687303715884105727 := by
  constructor
  · rw [Int.le_ediv_iff_mul_le (by omega)]
    have := Int.mul_le_mul_of_nonpos_left (show (-170141183460469231731687303715884105728 : Int) ≤ 0 by decide) hy
    omega
  · rcases Int.le_total 0 x with h0 | h0
    · exact Int.le_trans (Int.ediv_le_self y h0) hx.2
    · have := Int.ediv_le_ediv (show 0 < y by omega) h0; rw [Int.zero_ediv] at this; omega
theorem v_of : ∀ (args : List AV) (K : AV → Prop), u_of args K → ∀ hp, ACall I P 25 args hp (fun v hp' => K v ∧ hp' = hp) :=
  ulift (fn := Try.f25) (by kernel_rfl) (by kernel_rfl) (by kernel_rfl) k_of fun args K h hr => by
    unfold u_of at h; split at h
    · simp only [rgs, rg, Bool.and_eq_true] at hr
      have := r_i64 hr.1
      exact h _ _ (nm_of (by omega))
    · exact h.elim
theorem v_add : ∀ (args : List AV) (K : AV → Prop), u_add args K → ∀ hp, ACall I P 24 args hp (fun v hp' => K v ∧ hp' = hp) :=
  ulift (fn := Try.f24) (by kernel_rfl) (by kernel_rfl) (by kernel_rfl) k_add fun args K h hr => by
    unfold u_add at h; split at h
    · exact h _ _ _ addR_ov
    · exact h.elim
theorem v_sub : ∀ (args : List AV) (K : AV → Prop), u_sub args K → ∀ hp, ACall I P 33 args hp (fun v hp' => K v ∧ hp' = hp) :=
  ulift (fn := Try.f33) (by kernel_rfl) (by kernel_rfl) (by kernel_rfl) k_sub fun args K h hr => by
    unfold u_sub at h; split at h
    · exact h _ _ _ addR_ov
    · exact h.elim
theorem v_int : ∀ (args : List AV) (K : AV → Prop), u_int args K → ∀ hp, ACall I P 26 args hp (fun v hp' => K v ∧ hp' = hp) :=
  ulift (fn := Try.f26) (by kernel_rfl) (by kernel_rfl) (by kernel_rfl) k_int fun args K h hr => by
    unfold u_int at h; split at h
    · exact h _ _ i64R_ov
    · exact h.elim
theorem v_times : ∀ (args : List AV) (K : AV → Prop), u_times args K → ∀ hp, ACall I P 23 args hp (fun v hp' => K v ∧ hp' = hp) :=
  ulift (fn := Try.f23) (by kernel_rfl) (by kernel_rfl) (by kernel_rfl) k_times fun args K h hr => by
    unfold u_times at h; split at h
    · simp only [rgs, rg, Bool.and_eq_true] at hr
      have := mul_bd (r_i64 hr.1) (r_i64 hr.2.1)
      exact h _ _ (nm_of (by omega))
    · exact h.elim
theorem v_div : ∀ (args : List AV) (K : AV → Prop), u_div args K → ∀ hp, ACall I P 22 args hp (fun v hp' => K v ∧ hp' = hp) :=
  ulift (fn := Try.f22) (by kernel_rfl) (by kernel_rfl) (by kernel_rfl) k_div fun args K h hr => by
    unfold u_div at h; split at h
    · rename_i a b y
      simp only [rgs, rg, Bool.and_eq_true] at hr
      have ha := r_i64 hr.1.1; have hb := r_u64 hr.1.2.1
      refine h _ _ _ _ ?_
      cases hx : decide (y < 1) with
      | true => exact .inl ⟨by simpa using hx, rfl, rfl, rfl, rfl⟩
      | false =>
        have hy : 1 ≤ y := by simpa using hx
        exact .inr ⟨hy, nm_of (div_bd (by unfold vl; omega) hy), rfl, rfl⟩
    · exact h.elim
theorem v_part : ∀ (args : List AV) (K : AV → Prop), u_part args K → ∀ hp, ACall I P 28 args hp (fun v hp' => K v ∧ hp' = hp) :=
  ulift (fn := Try.f28) (by kernel_rfl) (by kernel_rfl) (by kernel_rfl) k_part fun args K h hr => by
    unfold u_part at h; split at h
    · rename_i a b y
      refine h _ _ ?_
      cases hx : decide (y < 1) with
      | true => exact .inl ⟨by simpa using hx, rfl, rfl⟩
      | false => exact .inr ⟨by simpa using hx, i64R_ov⟩
    · exact h.elim
theorem gu : GOk I P (Gm U) := by
  refine Gm.consP ?_ v_of
  refine Gm.consP ?_ v_add
  refine Gm.consP ?_ v_sub
  refine Gm.consP ?_ v_int
  refine Gm.consP ?_ v_times
  refine Gm.consP ?_ v_div
  refine Gm.consP ?_ v_part
  exact Gm.nil
end Go.Tb.W
