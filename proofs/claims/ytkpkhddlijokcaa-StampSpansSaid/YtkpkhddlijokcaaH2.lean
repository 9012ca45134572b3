/- Short spans, and millionths, are as the document says. -/
import Derived.Test.YtkpkhddlijokcaaN11
import Derived.Test.YtkpkhddlijokcaaS4
import Derived.Test.YtkpkhddlijokcaaHA
set_option linter.all false
set_option maxRecDepth 100000
namespace Go.Tb.W
open Go Go.Proofs
variable {I : Interp O}
theorem k_rshort : ∀ (args : List AV) (K : AV → Prop), c_short args K → ∀ hp, ACall I P 25 args hp (fun v hp' => K v ∧ hp' = hp) := by
  intro args K h hp
  unfold c_short at h; split at h
  · rename_i s
    refine pcall mix Gm.nil (fn := Try.f25) (by kernel_rfl) (by kernel_rfl) (by kernel_rfl) rfl rfl (fun hr => ?_) hp
    simp only [rgs, rg, Bool.and_eq_true] at hr
    refine (t_rshort I (fun v => K v ∧ cl v = true) s).mpr ?_
    have hs := r_i64 hr.1
    refine bsplit_both (fun hx => ⟨h _ _ (.inl ⟨.inl (by simpa using hx), rfl, rfl⟩), rfl⟩) (fun hx => ?_)
    have hx : 0 ≤ s := by simpa using hx
    have e1 : s.fdiv (2 ^ min (Int.toNat 16) IntKind.i64.bits) = s / 65536 := shr_eq (b := 65536) s 16 .i64 (by decide) (by decide)
    have e2 : (2 : Int) ^ min (Int.toNat 16) IntKind.i64.bits = 65536 := by decide
    rw [e1, e2]
    rw [s_i64 (n := s / 65536 * 65536) (by omega), s_i64 (n := s / 65536 + 1) (by omega)]
    refine bsplit_both (fun hy => ?_) (fun hy => ?_)
    · have hy : s / 65536 * 65536 ≠ s := by simpa using hy
      refine bsplit_both (fun hz => ⟨h _ _ (.inl ⟨.inr ?_, rfl, rfl⟩), rfl⟩) (fun hz => ⟨h _ _ (.inr ⟨hx, ?_, ?_, rfl⟩), rfl⟩)
      · have hz : s / 65536 + 1 > 4294967295 := by simpa using hz
        omega
      · have hz : s / 65536 + 1 ≤ 4294967295 := by simpa using hz
        omega
      · have hz : s / 65536 + 1 ≤ 4294967295 := by simpa using hz
        rw [w_u32]; omega
    · have hy : s / 65536 * 65536 = s := by simpa using hy
      refine bsplit_both (fun hz => ⟨h _ _ (.inl ⟨.inr ?_, rfl, rfl⟩), rfl⟩) (fun hz => ⟨h _ _ (.inr ⟨hx, ?_, ?_, rfl⟩), rfl⟩)
      · have hz : s / 65536 > 4294967295 := by simpa using hz
        omega
      · have hz : s / 65536 ≤ 4294967295 := by simpa using hz
        omega
      · have hz : s / 65536 ≤ 4294967295 := by simpa using hz
        rw [w_u32]; omega
  · exact h.elim
theorem k_rdiff : ∀ (args : List AV) (K : AV → Prop), c_diff args K → ∀ hp, ACall I P 20 args hp (fun v hp' => K v ∧ hp' = hp) := by
  intro args K h hp
  unfold c_diff at h; split at h
  · rename_i a b
    refine pcall mix Gm.nil (fn := Try.f20) (by kernel_rfl) (by kernel_rfl) (by kernel_rfl) rfl rfl (fun hr => ?_) hp
    simp only [rgs, rg, Bool.and_eq_true] at hr
    refine (t_rdiff I (fun v => K v ∧ cl v = true) a b).mpr ?_
    have ha := r_u64 hr.1; have hb := r_u64 hr.2.1
    have hw : 0 ≤ IntKind.u64.wrap (a - b) ∧ IntKind.u64.wrap (a - b) ≤ 18446744073709551615 := by rw [w_u64]; omega
    rw [not_u64 _ hw]
    have hm : (IntKind.u64.wrap (a - b) - (a - b)) % 18446744073709551616 = 0 := by rw [w_u64]; omega
    generalize IntKind.u64.wrap (a - b) = w at *
    refine bsplit_both (fun hx => ?_) (fun hx => ?_)
    · have hx : w ≥ 9223372036854775808 := by simpa using hx
      rw [s_i64 (n := 18446744073709551615 - w) (by omega), s_i64 (n := 0 - (18446744073709551615 - w)) (by omega), s_i64 (n := 0 - (18446744073709551615 - w) - 1) (by omega)]
      exact ⟨h _ ⟨by omega, by omega⟩, rfl⟩
    · have hx : w < 9223372036854775808 := by simpa using hx
      rw [s_i64 (n := w) (by omega)]
      exact ⟨h _ ⟨by omega, by omega⟩, rfl⟩
  · exact h.elim
theorem gh2 : GOk I P (Gm H2) := by
  refine Gm.consP ?_ k_awake
  refine Gm.consP ?_ k_rdiff
  refine Gm.consP ?_ k_rshort
  refine Gm.consP ?_ k_rpart
  exact gs6
theorem l_spans (s n : Int) (hp : Tr (AO O)) : ACall I P 4 [.int .i64 s, .int .u32 n] hp (fun v hp' => v = .bool true ∧ hp' = hp) := by
  refine (pcall mix gh2 (fn := Try.f4) (K := Tru) (by kernel_rfl) (by kernel_rfl) (by kernel_rfl) rfl rfl (fun hr => ?_) hp).mono fun _ _ h => ⟨h.1.1, h.2⟩
  simp only [rgs, rg, Bool.and_eq_true] at hr
  have hs := r_i64 hr.1; have hn := r_u32 hr.2.1
  refine (t_spansl I (fun v => Tru v ∧ cl v = true) s n).mpr ?_
  intro n0 e1 a0 n2 e3 a1 n4 e5 b0 n6 e7 c0 n8 e9 b1
  have h1 : n0 = n2 ∧ e1 = e3 := by unfold ShortR at a0 a1; omega
  have h2 : s * 1000000 / 4294967296 = n4 ∧ e5 = 0 := by unfold PartR I64R at b0; omega
  have h3 : n6 = n8 ∧ e7 = e9 := by unfold PartR at b1; unfold I64R at b1 c0; omega
  rw [s_i64 (n := n) (by omega), s_i64 (n := n * 65536) (by omega)]
  exact bsT (by simpa using h1.1) (bsT (by simpa using h1.2) (bsT (by simp) (bsT (by simpa using h2.1) (bsT (by simpa using h2.2) (bsT (by simpa using h3.1) ⟨tru (by simpa using h3.2), rfl⟩)))))
end Go.Tb.W
