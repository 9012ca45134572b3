/- Wide numbers and the document's: the laws' own functions, told. -/
import Derived.Test.YtjeeinjcebcngaaN11
import Derived.Test.YtjeeinjcebcngaaL2
import Derived.Test.YtjeeinjcebcngaaL3
set_option linter.all false
set_option maxRecDepth 100000
namespace Go.Tb.W
open Go Go.Proofs
variable {I : Interp O}
abbrev Tru : AV → Prop := fun v => v = .bool true ∧ cl v = true
theorem tru {b : Bool} (h : b = true) : Tru (.bool b) := by subst h; exact ⟨rfl, rfl⟩
theorem k_ref : ∀ (args : List AV) (hp : Tr (AO O)) (nx : Nat) (K : AV → Tr (AO O) → Nat → Prop), c_ref args hp nx K → ACall I P 16 args hp (fun v hp' => ∃ nx', K v hp' nx') := by
  intro args hp nx K h
  unfold c_ref at h; split at h
  · rename_i a b
    split at h
    · rename_i hb hg
      refine hrows mix gz0 (fn := Try.f16) (by kernel_rfl) (by kernel_rfl) (by kernel_rfl) [] [] [.agg [.int .i64 a, .int .u64 b]] (nx := nx) rfl rfl rfl trivial rfl rfl (fun hr ho => ?_)
      refine (t_ref I _ a b).mpr ?_
      exact fun u zs j e room n => ⟨trivial, .inr ⟨2, _, _, zs, room, hb, hg, Nat.zero_le _, rfl, rfl, h u zs j e room n⟩⟩
    · exact h.elim
  · exact h.elim
theorem k_same : ∀ (args : List AV) (hp : Tr (AO O)) (nx : Nat) (K : AV → Tr (AO O) → Nat → Prop), c_same args hp nx K → ACall I P 18 args hp (fun v hp' => ∃ nx', K v hp' nx') := by
  intro args hp nx K h
  unfold c_same at h; split at h
  · rename_i a b g s n l c
    split at h
    · rename_i xs r hb hg
      obtain ⟨⟨p1, L1⟩, h⟩ := h
      refine hrows mix gz0 (fn := Try.f18) (by kernel_rfl) (by kernel_rfl) (by kernel_rfl) [n] [bo xs r] [.agg [.int .i64 a, .int .u64 b], .int .i64 g, .agg [.bool s, .sl 0 0 l c]] (nx := nx) rfl (uniq1 hb) rfl ⟨hg, trivial⟩ rfl rfl (fun hr ho => ?_)
      simp only [rgs, rg, Bool.and_eq_true] at hr
      have ha := r_i64 hr.1.1; have hbb := r_u64 hr.1.2.1
      refine (t_same I _ a b g s l c r xs).mpr ⟨⟨p1, L1, by unfold powOk; omega⟩, fun b0 f0 => ?_⟩
      have f := fits127 f0
      generalize nv s xs l = v at *
      have fin : ∀ q : Bool, SameR a b g v q → ∀ hp', (keeps hp' 0 [bo xs r]) → (keeps hp' 0 [bo xs r] ∧ ((nm (pd (pairs 0 [n])) (.bool q) = true ∧ K (rn (pι (pairs 0 [n])) (.bool q)) hp nx) ∨ ∃ j t sh zs room, Nat.blt nx 16777215 = true ∧ hp.get nx = none ∧ ([n] : List Nat).length ≤ j ∧ hp'.get j = some (.rows t sh zs room) ∧ nm (pd (pairs 0 [n] ++ [(j, nx)])) (.bool q) = true ∧ K (rn (pι (pairs 0 [n] ++ [(j, nx)])) (.bool q)) (hp.set nx (some (.rows t sh zs room))) (nx + 1))) :=
        fun q hq hp' hk => ⟨hk, .inl ⟨rfl, h q hq⟩⟩
      refine bsplit_both (fun hx => ?_) (fun hx => ?_)
      · have e0 : b0 = false := by simpa using hx
        rw [e0] at f; simp only [Bool.false_eq_true, false_iff] at f
        refine bsplit_both (fun hx => fin _ ?_ _ ⟨rfl, trivial⟩) (fun hx => fin _ ?_ _ ⟨rfl, trivial⟩)
        · have e6 : g = 6 := by simpa using hx
          unfold SameR AddR
          simp only [Bool.and_eq_true, beq_iff_eq, and_true]
          constructor
          · rintro ⟨x1, x2⟩; exact .inr ⟨e6, x1, x2, by omega⟩
          · rintro (⟨y, _⟩ | ⟨_, x1, x2, _⟩)
            · omega
            · exact ⟨x1, x2⟩
        · have e6 : g ≠ 6 := by simpa using hx
          unfold SameR AddR
          simp only [Bool.false_eq_true, false_iff, not_or]
          constructor
          · rintro ⟨_, y⟩; have := nm_bound y; omega
          · rintro ⟨y, _⟩; omega
      · have e0 : b0 = true := by simpa using hx
        have f := f.1 e0
        refine ⟨⟨p1, L1⟩, fun h' l' w => ?_⟩
        have hn := w.2.2.2 f
        refine bsplit_both (fun hx => fin _ ?_ _ ⟨rfl, trivial⟩) (fun hx => fin _ ?_ _ ⟨rfl, trivial⟩)
        · have e6 : g = 0 := by simpa using hx
          unfold SameR AddR
          simp only [Bool.and_eq_true, beq_iff_eq, and_true]
          constructor
          · rintro ⟨x1, x2⟩; exact .inl ⟨e6, by rw [x1, x2]; exact hn⟩
          · rintro (⟨_, y⟩ | ⟨y, _⟩)
            · exact nm_inj y hn
            · omega
        · have e6 : g ≠ 0 := by simpa using hx
          unfold SameR AddR
          simp only [Bool.false_eq_true, false_iff, not_or]
          constructor
          · rintro ⟨y, _⟩; omega
          · rintro ⟨_, _, _, y⟩; omega
    · exact h.elim
  · exact h.elim
theorem k_awake : ∀ (args : List AV) (K : AV → Prop), c_awake args K → ∀ hp, ACall I P 11 args hp (fun v hp' => K v ∧ hp' = hp) := by
  intro args K h hp
  unfold c_awake at h; split at h
  · refine pcall mix g4 (fn := Try.f11) (by kernel_rfl) (by kernel_rfl) (by kernel_rfl) rfl rfl (fun hr => ?_) hp
    exact (t_awake I (fun v => K v ∧ cl v = true)).mpr ⟨h, rfl⟩
  · exact h.elim
theorem gz1 : GOk I P (Gm Z1) := by
  refine Gm.consP ?_ k_awake
  refine Gm.consH ?_ k_ref
  refine Gm.consH ?_ k_same
  exact gz0
theorem gy1 : GOk I P (Gm Y1) := by
  refine Gm.consP ?_ k_awake
  refine Gm.consH ?_ k_ref
  refine Gm.consH ?_ k_same
  exact gy0
theorem l_times (a b y : Int) (hp : Tr (AO O)) : ACall I P 4 [.int .i64 a, .int .i64 b, .int .i64 y] hp (fun v hp' => v = .bool true ∧ hp' = hp) := by
  refine (pcall mix gy1 (fn := Try.f4) (K := Tru) (by kernel_rfl) (by kernel_rfl) (by kernel_rfl) rfl rfl (fun hr => ?_) hp).mono fun _ _ h => ⟨h.1.1, h.2⟩
  simp only [rgs, rg, Bool.and_eq_true] at hr
  have ha := r_i64 hr.1; have hb := r_i64 hr.2.1; have hy := r_i64 hr.2.2.1
  refine (t_timesl I (fun v => Tru v ∧ cl v = true) a b y).mpr ?_
  have hm := mul_bd ha hb
  intro n0 e1 r1 n2 e3 r2 h4 l5 m5 u6 zs7 j8 e9 r10 n1
  intro u11 zs12 j13 e14 r15 n2'
  obtain ⟨p1, l1⟩ := nr64 n1 ha
  obtain ⟨p2, l2⟩ := nr64 n2' hb
  refine ⟨⟨p1, p2, by omega⟩, ?_⟩
  rw [nv_of n1, nv_of n2']
  intro u16 zs17 j18 e19 r20 n3
  obtain ⟨p3, l3⟩ := nr128 n3 (by omega)
  refine ⟨⟨p3, by omega⟩, ?_⟩
  rw [nv_of n3]
  intro q21 s21
  refine bsT (s21.2 (.inl ⟨rfl, m5⟩)) ?_
  have eq : n0 = n2 ∧ e1 = e3 := by unfold PartR I64R at r1 r2; generalize a * b / y = q at *; omega
  refine bsT (by simpa using eq.1) (bsT (by simpa using eq.2) ?_)
  intro h22 l23 m23 u24 zs25 j26 e27 r28 n4
  obtain ⟨p4, l4⟩ := nr64 n4 ha
  refine ⟨⟨p4, by omega⟩, ?_⟩
  rw [nv_of n4]
  intro q29 s29
  exact ⟨tru (s29.2 (.inl ⟨rfl, m23⟩)), rfl⟩
theorem l_parts (a b y : Int) (hp : Tr (AO O)) : ACall I P 5 [.agg [.int .i64 a, .int .u64 b], .int .i64 y] hp (fun v hp' => v = .bool true ∧ hp' = hp) := by
  refine (pcall mix gy1 (fn := Try.f5) (K := Tru) (by kernel_rfl) (by kernel_rfl) (by kernel_rfl) rfl rfl (fun hr => ?_) hp).mono fun _ _ h => ⟨h.1.1, h.2⟩
  simp only [rgs, rg, Bool.and_eq_true] at hr
  have ha := r_i64 hr.1.1; have hb := r_u64 hr.1.2.1; have hy := r_i64 hr.2.1
  refine (t_partsl I (fun v => Tru v ∧ cl v = true) a b y).mpr ?_
  have hv := nm_bound (nm_self ha hb)
  generalize vl a b = x at *
  intro h0 l1 r2 e3 d
  refine bsplit_both (fun hx => ?_) (fun hx => ?_)
  · have hy0 : y < 1 := by simpa using hx
    rcases d with ⟨_, rfl, rfl, rfl, rfl⟩ | ⟨h1, _⟩
    · exact bsT rfl (bsT rfl ⟨tru rfl, rfl⟩)
    · omega
  · have hy1 : 1 ≤ y := by simpa using hx
    rcases d with ⟨h1, _⟩ | ⟨_, hq, hr2, he⟩
    · omega
    subst hr2 he
    intro u4 zs5 j6 e7 r8 n1 u9 zs10 j11 e12 r13 n2
    obtain ⟨p1, l1⟩ := nr128 n1 hv
    obtain ⟨p2, l2⟩ := nr64 n2 hy
    refine ⟨⟨p1, p2, by omega, by omega, by rw [nv_of n2]; exact hy1⟩, ?_⟩
    rw [nv_of n1, nv_of n2]
    have hd := div_bd (x := x) hv hy1
    have hm1 := Int.emod_nonneg x (show y ≠ 0 by omega)
    have hm2 := Int.emod_lt_of_pos x (show 0 < y by omega)
    intro u14 u15 zs16 zs17 j18 e19 r20 j21 e22 r23 n3 n4
    generalize x % y = r at *
    generalize x / y = q at *
    obtain ⟨p3, l3⟩ := nr128 n3 hd
    obtain ⟨p4, l4⟩ := nr64 n4 (by omega)
    refine ⟨⟨p4, by omega⟩, fun h24 l25 w => ⟨⟨p3, by omega⟩, fun q26 s26 => ?_⟩⟩
    rw [nv_of n4] at w
    rw [nv_of n3] at s26
    refine bsT (s26.2 (.inl ⟨rfl, hq⟩)) ⟨tru ?_, rfl⟩
    have := w.2.2.1; have := w.2.1
    rw [s_u64 (by omega), beq_iff_eq]; omega
theorem l_adds (a b c d : Int) (hp : Tr (AO O)) : ACall I P 3 [.agg [.int .i64 a, .int .u64 b], .agg [.int .i64 c, .int .u64 d]] hp (fun v hp' => v = .bool true ∧ hp' = hp) := by
  refine (pcall mix gz1 (fn := Try.f3) (K := Tru) (by kernel_rfl) (by kernel_rfl) (by kernel_rfl) rfl rfl (fun hr => ?_) hp).mono fun _ _ h => ⟨h.1.1, h.2⟩
  simp only [rgs, rg, Bool.and_eq_true] at hr
  have ha := r_i64 hr.1.1; have hb := r_u64 hr.1.2.1; have hc := r_i64 hr.2.1.1; have hd := r_u64 hr.2.1.2.1
  refine (t_addsl I (fun v => Tru v ∧ cl v = true) a b c d).mpr ?_
  have hx := nm_self ha hb
  have hvx := nm_bound hx
  have hvy := nm_bound (nm_self hc hd)
  generalize vl a b = x at *
  generalize vl c d = y at *
  intro h0 l1 e2 hadd h3 l4 e5 hsub n6 e7 hi
  intro u8 zs9 j10 e11 r12 n0
  obtain ⟨p0, l0⟩ := nr128 n0 hvx
  repeat refine ⟨rfl, ?_⟩
  refine ⟨⟨p0, by omega, by unfold powOk; omega⟩, ?_⟩
  rw [nv_of n0]
  intro b13 f13
  have f := fits63 f13
  repeat refine ⟨rfl, ?_⟩
  rcases hi with ⟨rfl, rfl, hi⟩ | ⟨rfl, rfl, hi⟩
  all_goals first
    | (have e13 : b13 = true := f.2 hi
       subst e13
       refine bsF rfl (bsT rfl ?_)
       intro h14 l15 m14
       have e := nm_inj m14 hx
       refine bsF (by simp [e.1, e.2]) (bsF rfl ?_))
    | (have e13 : b13 = false := by
         cases b13 with
         | false => rfl
         | true => have := f.1 rfl; omega
       subst e13
       refine bsF rfl (bsF rfl (bsT rfl (bsF rfl (bsF rfl ?_)))))
  all_goals (
    intro u16 zs17 j18 e19 r20 n1
    obtain ⟨p1, l1⟩ := nr128 n1 hvx
    repeat refine ⟨rfl, ?_⟩
    intro u21 zs22 j23 e24 r25 n2
    obtain ⟨p2, l2⟩ := nr128 n2 hvy
    repeat refine ⟨rfl, ?_⟩
    refine ⟨⟨p1, p2⟩, ?_⟩
    rw [nv_of n1, nv_of n2]
    intro u26 zs27 j28 e29 r30 n3
    obtain ⟨p3, l3⟩ := nr256 n3 (by omega)
    repeat refine ⟨rfl, ?_⟩
    refine ⟨⟨p3, by omega⟩, ?_⟩
    rw [nv_of n3]
    intro q31 s31
    repeat refine ⟨rfl, ?_⟩
    refine bsT (s31.2 hadd) ?_
    intro u32 zs33 j34 e35 r36 n4
    obtain ⟨p4, l4⟩ := nr128 n4 hvx
    repeat refine ⟨rfl, ?_⟩
    intro u37 zs38 j39 e40 r41 n5
    obtain ⟨p5, l5⟩ := nr128 n5 hvy
    repeat refine ⟨rfl, ?_⟩
    refine ⟨p5, ?_⟩
    rw [nv_of n5]
    intro u42 j43 n6
    obtain ⟨p6, l6⟩ := nr256 n6 (by omega)
    repeat refine ⟨rfl, ?_⟩
    refine ⟨⟨p4, p6⟩, ?_⟩
    rw [nv_of n4, nv_of n6]
    intro u44 zs45 j46 e47 r48 n7
    obtain ⟨p7, l7⟩ := nr256 n7 (by omega)
    repeat refine ⟨rfl, ?_⟩
    refine ⟨⟨p7, by omega⟩, ?_⟩
    rw [nv_of n7]
    intro q49 s49
    repeat refine ⟨rfl, ?_⟩
    refine bsT (s49.2 (by rw [← Int.sub_eq_add_neg]; exact hsub)) ?_
    intro n50 c50 u51 zs52 j53 e54 r55 n8
    obtain ⟨p8, l8⟩ := nr128 n8 hvx
    repeat refine ⟨rfl, ?_⟩
    intro u56 zs57 j58 e59 r60 n9
    obtain ⟨p9, l9⟩ := nr128 n9 hvy
    refine ⟨⟨p8, p9, by omega, by omega⟩, ?_⟩
    rw [nv_of n8, nv_of n9]
    intro r61 c61
    refine ⟨tru ?_, rfl⟩
    rw [beq_iff_eq]
    unfold CmpR at c50 c61
    omega)
end Go.Tb.W
