/- Queues: what is pushed, popped, made a heap. -/
import Derived.Test.YtcabackgkjhmeaaQ8
set_option linter.all false
set_option maxRecDepth 100000
namespace Go.Tb.W
open Go Go.Proofs
variable {I : Interp O}
theorem k_hpush : ∀ (args : List AV) (hp : Tr (AO O)) (nx : Nat) (K : AV → Tr (AO O) → Nat → Prop), c_hpush args hp nx K → ACall I P 21 args hp (fun v hp' => ∃ nx', K v hp' nx') := by
  intro args hp nx K h
  unfold c_hpush at h; split at h
  · rename_i n a b s d
    split at h
    · rename_i m l c sq hg hfr hnb
      split at h
      · rename_i xs room hb hg2
        obtain ⟨⟨h1, h2, h3⟩, h⟩ := h
        obtain ⟨hu, _⟩ := both_iff hb
        refine hcallG mix gA3 (fn := Try.f21) (by kernel_rfl) (by kernel_rfl) (by kernel_rfl) [n, m] [qO (.sl 1 0 l c) sq, eO xs room] [.iface 64 (.ptr 0 0), .iface 66 (.agg [.int .i64 a, .int .i64 b, .str s, .int .i64 d])] rfl hu rfl ⟨hg, hg2, trivial⟩ rfl rfl (fun hr ho => (t_hpush I _ l c room xs sq a b d s).mpr ⟨⟨h1, h2, h3⟩, fun c' h4 h5 => ?_⟩)
        have e : IntKind.i64.wrap (((l + 1 : Nat) : Int) - 1) = (l : Int) := by rw [w_i64]; omega
        rw [e, Int.toNat_natCast]
        exact ⟨⟨by simp; omega, by omega⟩, must_mk (inL_iff.2 (by omega)) ⟨[(2, nx)], nx + 1, uniq3 hu hfr hnb (by rw [hg]; simp) (by rw [hg2]; simp) rfl, ⟨hfr, trivial⟩, rfl, rfl, h c' h4 h5⟩⟩
      · exact h.elim
    · rename_i sq hg hfr hnb
      split at h
      · rename_i hb
        refine hcallG mix gA3 (fn := Try.f21) (by kernel_rfl) (by kernel_rfl) (by kernel_rfl) [n] [qO .nils sq] [.iface 64 (.ptr 0 0), .iface 66 (.agg [.int .i64 a, .int .i64 b, .str s, .int .i64 d])] rfl (uniq1 hb) rfl ⟨hg, trivial⟩ rfl rfl (fun hr ho => (t_hpush0 I _ sq a b d s).mpr fun c' h4 h5 => ⟨⟨by simp, by omega⟩, ⟨[(1, nx)], nx + 1, uniq2n (uniq1 hb) hfr hnb (by rw [hg]; simp) rfl, ⟨hfr, trivial⟩, rfl, rfl, h c' h4 h5⟩⟩)
      · exact h.elim
    · exact h.elim
  · exact h.elim
theorem downF_length : ∀ (f : Nat) (xs : List Rw) (i n : Nat), (downF f xs i n).length = xs.length
  | 0, _, _, _ => rfl
  | f + 1, xs, i, n => by
    simp only [downF]
    split
    · rfl
    · split
      · split
        · rw [downF_length, swapL_length]
        · rfl
      · rfl
theorem upF_length : ∀ (f : Nat) (xs : List Rw) (i : Nat), (upF f xs i).length = xs.length
  | 0, _, _ => rfl
  | f + 1, xs, i => by
    simp only [upF]
    split
    · split
      · rfl
      · split
        · rw [upF_length, swapL_length]
        · rfl
    · rfl
theorem k_hpop : ∀ (args : List AV) (hp : Tr (AO O)) (nx : Nat) (K : AV → Tr (AO O) → Nat → Prop), c_hpop args hp nx K → ACall I P 22 args hp (fun v hp' => ∃ nx', K v hp' nx') := by
  intro args hp nx K h
  unfold c_hpop at h; split at h
  · rename_i n
    split at h
    · rename_i m l c sq hg
      split at h
      · rename_i xs room hb hg2
        obtain ⟨⟨h1, h2, h3⟩, h⟩ := h
        obtain ⟨hu, _⟩ := both_iff hb
        refine hcallG mix gA3 (fn := Try.f22) (by kernel_rfl) (by kernel_rfl) (by kernel_rfl) [n, m] [qO (.sl 1 0 l c) sq, eO xs room] [.iface 64 (.ptr 0 0)] rfl hu rfl ⟨hg, hg2, trivial⟩ rfl rfl (fun hr ho => (t_hpop I _ l c room xs sq).mpr ?_)
        have e : IntKind.i64.wrap ((l : Int) - 1) = ((l - 1 : Nat) : Int) := by rw [w_i64]; omega
        rw [e, Int.toNat_natCast]
        have e2 : l - 1 + 1 = l := by omega
        rw [e2]
        refine ⟨h2, must_mk (by simp only [Bool.and_eq_true, inL_iff]; omega) ⟨⟨by rw [swapL_length]; exact h2, h3, by omega, by omega, by omega, by omega⟩, fun _ => ⟨⟨h1, by rw [downF_length, swapL_length]; exact h2⟩, fun a b s d => ⟨[], nx, hu, trivial, rfl, rfl, h a b s d⟩⟩⟩⟩
      · exact h.elim
    · exact h.elim
  · exact h.elim
theorem initF_length : ∀ (i : Nat) (xs : List Rw) (n : Nat), (initF i xs n).length = xs.length
  | 0, _, _ => rfl
  | i + 1, xs, n => by rw [initF, initF_length, downF_length]
theorem k_hinit : ∀ (args : List AV) (hp : Tr (AO O)) (nx : Nat) (K : AV → Tr (AO O) → Nat → Prop), c_hinit args hp nx K → ACall I P 25 args hp (fun v hp' => ∃ nx', K v hp' nx') := by
  intro args hp nx K h
  unfold c_hinit at h; split at h
  · rename_i n
    split at h
    · rename_i m l c sq hg
      split at h
      · rename_i xs room hb hg2
        obtain ⟨⟨h1, h3⟩, h⟩ := h
        obtain ⟨hu, _⟩ := both_iff hb
        refine hcallG mix gA3 (fn := Try.f25) (by kernel_rfl) (by kernel_rfl) (by kernel_rfl) [n, m] [qO (.sl 1 0 l c) sq, eO xs room] [.iface 64 (.ptr 0 0)] rfl hu rfl ⟨hg, hg2, trivial⟩ rfl rfl (fun hr ho => (t_hinit I _ l c room xs sq).mpr ?_)
        have e : IntKind.i64.wrap (IntKind.i64.wrap ((l : Int).tdiv 2) - 1) = ((l / 2 : Nat) : Int) - 1 := by
          rw [show (2 : Int) = ((2 : Nat) : Int) from rfl, ← Int.ofNat_tdiv, w_i64 ((l / 2 : Nat) : Int), w_i64]; omega
        rw [e]
        refine ALoop.invg (ps := []) (ts := [0, 2, 3]) (nx := 2) (fun x : List Rw × Nat => j_init l c room x.1 sq ((x.2 : Nat) - 1 : Int)) (fun x => (x.1.length = xs.length ∧ x.2 ≤ l / 2) ∧ initF x.2 x.1 l = initF (l / 2) xs l) (fun x => x.2) ?_ (by kernel_rfl) (xs, l / 2) (by kernel_rfl) ⟨⟨rfl, Nat.le_refl _⟩, rfl⟩
        rintro ⟨ys, i⟩ ⟨⟨g1, g2⟩, g3⟩
        simp only at g1 g2 g3 ⊢
        refine (t_hinitR I _ _ l c room ys sq _).mpr (bsplit_both (fun hx => ?_) (fun hx => ?_))
        · have hx := of_decide_eq_true hx
          cases i with
          | zero => omega
          | succ i =>
            have e1 : ((i + 1 : Nat) : Int) - 1 = (i : Int) := by omega
            have e2 : IntKind.i64.wrap ((i : Int) - 1) = (i : Int) - 1 := by rw [w_i64]; omega
            rw [e1]
            simp only [e2, Int.toNat_natCast]
            exact ⟨⟨by omega, h3, by omega, by omega, by omega, by omega⟩, fun _ => ⟨(downF (l + 1) ys i l, i), ⟨⟨by rw [downF_length]; exact g1, by show i ≤ l / 2; omega⟩, g3⟩, Nat.lt_succ_self i, rfl⟩⟩
        · have hx := of_decide_eq_false hx
          have : i = 0 := by omega
          subst this
          have g3 : ys = initF (l / 2) xs l := g3
          exact ⟨[], nx, hu, trivial, rfl, rfl, by rw [← g3] at h; exact h⟩
      · exact h.elim
    · rename_i sq hg
      split at h
      · rename_i hb
        refine hcallG mix gA3 (fn := Try.f25) (by kernel_rfl) (by kernel_rfl) (by kernel_rfl) [n] [qO .nils sq] [.iface 64 (.ptr 0 0)] rfl (uniq1 hb) rfl ⟨hg, trivial⟩ rfl rfl (fun hr ho => (t_hinit0 I _ sq).mpr ?_)
        refine ALoop.start [] [0, 2, 3] 1 (j_init0 sq) (by kernel_rfl) (by kernel_rfl) ?_
        refine ALoop.stepg [] [0, 2, 3] 1 ?_
        exact (t_hinit0R I _ _ sq).mpr ⟨[], nx, uniq1 hb, trivial, rfl, rfl, h⟩
      · exact h.elim
    · exact h.elim
  · exact h.elim
theorem gA4 : GOk I P (Gm A4) := Gm.consH (Gm.consH (Gm.consH (Gm.consH Gm.nil k_deletef) k_hinit) k_hpop) k_hpush
end Go.Tb.W
