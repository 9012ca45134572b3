/- The document's numbers: Part; the lists of what the laws' texts call. -/
import Derived.Test.YtkpkhddlijokcaaN8
import Derived.Test.YtkpkhddlijokcaaN9
import Derived.Test.YtkpkhddlijokcaaN10
import Derived.Test.YtkpkhddlijokcaaU2
set_option linter.all false
set_option maxRecDepth 100000
namespace Go.Tb.W
open Go Go.Proofs
variable {I : Interp O}
theorem gq3 : GOk I P (Gm Q3) := by
  refine Gm.consH ?_ k_from
  refine Gm.consH ?_ k_rcmp
  refine Gm.consH ?_ k_fits
  refine Gm.consH ?_ k_rwide
  refine Gm.consH ?_ k_rtimes
  refine Gm.consH ?_ k_rdiv
  exact gq2
/-- A number of few bits. -/
theorem nrp {s : Bool} {xs : List Rw} {k : Nat} {v : Int} (m : Nat) (h : NR s xs k v) (hm : m ≤ 800) (hv : v.natAbs < 2 ^ m) : Pre s xs k ∧ k ≤ m := by
  have := nr_len h hv
  exact ⟨pre_of h (by omega), this⟩
theorem nr64 {s : Bool} {xs : List Rw} {k : Nat} {v : Int} (h : NR s xs k v) (hv : -9223372036854775808 ≤ v ∧ v ≤ 9223372036854775807) : Pre s xs k ∧ k ≤ 64 := nrp 64 h (by decide) (by omega)
theorem nr128 {s : Bool} {xs : List Rw} {k : Nat} {v : Int} (h : NR s xs k v) (hv : -170141183460469231731687303715884105728 ≤ v ∧ v ≤ 170141183460469231731687303715884105727) : Pre s xs k ∧ k ≤ 128 := nrp 128 h (by decide) (by omega)
theorem nr256 {s : Bool} {xs : List Rw} {k : Nat} {v : Int} (h : NR s xs k v) (hv : -340282366920938463463374607431768211456 ≤ v ∧ v ≤ 340282366920938463463374607431768211456) : Pre s xs k ∧ k ≤ 130 := nrp 130 h (by decide) (by omega)
theorem fits63 {v : Int} {b : Bool} (h : FitsR v 63 b) : b = true ↔ -9223372036854775808 ≤ v ∧ v ≤ 9223372036854775807 := by
  have h : b = true ↔ -(9223372036854775808 : Int) ≤ v ∧ v < 9223372036854775808 := h
  rw [h]; omega
theorem fits127 {v : Int} {b : Bool} (h : FitsR v 127 b) : b = true ↔ -170141183460469231731687303715884105728 ≤ v ∧ v ≤ 170141183460469231731687303715884105727 := by
  have h : b = true ↔ -(170141183460469231731687303715884105728 : Int) ≤ v ∧ v < 170141183460469231731687303715884105728 := h
  rw [h]; omega
/-- The low half, as a signed number. -/
theorem wide_low {v h l : Int} (w : WideR v h l) (hv : -9223372036854775808 ≤ v ∧ v ≤ 9223372036854775807) : IntKind.i64.wrap l = v := by
  obtain ⟨h1, h2, h3, _⟩ := w
  rw [w_i64]; omega
theorem k_rpart : ∀ (args : List AV) (K : AV → Prop), c_rpart args K → ∀ hp, ACall I P 26 args hp (fun v hp' => K v ∧ hp' = hp) := by
  intro args K h hp
  unfold c_rpart at h; split at h
  · rename_i a b y
    refine pcall mix gq3 (fn := Try.f26) (by kernel_rfl) (by kernel_rfl) (by kernel_rfl) rfl rfl (fun hr => ?_) hp
    simp only [rgs, rg, Bool.and_eq_true] at hr
    have ha := r_i64 hr.1; have hb := r_i64 hr.2.1; have hy := r_i64 hr.2.2.1
    refine (t_rpart I (fun v => K v ∧ cl v = true) a b y).mpr ?_
    refine bsplit_both (fun hx => ⟨h 0 1 (.inl ⟨by simpa using hx, rfl, rfl⟩), rfl⟩) (fun hx => ?_)
    have hy1 : 1 ≤ y := by simpa using hx
    have hm := mul_bd ha hb
    intro u0 zs1 j2 e3 r4 n1 u5 zs6 j7 e8 r9 n2
    obtain ⟨p1, l1⟩ := nr64 n1 ha
    obtain ⟨p2, l2⟩ := nr64 n2 hb
    refine ⟨⟨p1, p2, by omega⟩, ?_⟩
    rw [nv_of n1, nv_of n2]
    intro u10 zs11 j12 e13 r14 n3 u15 zs16 j17 e18 r19 n4
    obtain ⟨p3, l3⟩ := nr128 n3 (by omega)
    obtain ⟨p4, l4⟩ := nr64 n4 hy
    refine ⟨⟨p3, p4, by omega, by omega, by rw [nv_of n4]; exact hy1⟩, ?_⟩
    rw [nv_of n3, nv_of n4]
    have hd := div_bd (x := a * b) (by omega) hy1
    intro u20 u21 zs22 zs23 j24 e25 r26 j27 e28 r29 n5 n6
    obtain ⟨p5, l5⟩ := nr128 n5 hd
    refine ⟨⟨p5, by omega, by unfold powOk; omega⟩, ?_⟩
    rw [nv_of n5]
    intro b30 f30
    have f := fits63 f30
    refine bsplit_both (fun hx => ?_) (fun hx => ?_)
    · have : b30 = false := by simpa using hx
      rw [this] at f; simp only [Bool.false_eq_true, false_iff] at f
      exact ⟨h 0 6 (.inr ⟨hy1, .inr ⟨rfl, rfl, by generalize a * b / y = q at *; omega⟩⟩), rfl⟩
    · have : b30 = true := by simpa using hx
      have f := f.1 this
      refine ⟨⟨p5, by omega⟩, fun h' l' w => ?_⟩
      rw [wide_low w f]
      exact ⟨h _ 0 (.inr ⟨hy1, .inl ⟨rfl, rfl, f⟩⟩), rfl⟩
  · exact h.elim
end Go.Tb.W
