/- Queues: how many there may be. -/
import Derived.Test.YtcabackgkjhmeaaQN
set_option linter.all false
set_option maxRecDepth 100000
namespace Go.Tb.W
open Go Go.Proofs
theorem r_u8 {n : Int} (h : inK .u8 n = true) : 0 ≤ n ∧ n ≤ 255 := by simpa [inK_iff, loK, hiK] using h
variable {I : Interp O} (hI : I.R = pk.R)
include hI
theorem l_full (more : Int) (hp : Tr (AO O)) : ACall I P 6 [.int .u8 more] hp (fun v hp' => v = .bool true ∧ hp' = hp) := by
  refine pcall mix (gB2 hI) (fn := Try.f6) (by kernel_rfl) (by kernel_rfl) (by kernel_rfl) (K := fun v => v = .bool true) rfl rfl (fun hr => ?_) hp
  simp only [rgs, rg, Bool.and_eq_true] at hr
  have hm := r_u8 hr.1
  refine (t_full I (fun v => v = .bool true ∧ cl v = true) more).mpr ?_
  refine ALoop.weak (Weak.asOwn (p := pk) hI (n := 0) (s := .q [] 0) rfl rfl rfl) ?_
  refine ALoop.invg (ps := [(0, 0)]) (ts := [0, 3, 4]) (nx := 1) (fun x : List Rw × Nat => j_fullA more x.1 (x.2 : Nat) (x.2 : Nat)) (fun x => (x.1.length = x.2 ∧ x.2 ≤ 1000) ∧ (∀ y ∈ x.1, 0 ≤ y.i 0) ∧ (0 < x.2 → ∃ y ∈ x.1, y.i 0 = 0)) (fun x => 1000 - x.2) ?_ (by kernel_rfl) ([], 0) (by kernel_rfl) ⟨⟨rfl, by decide⟩, fun y hy => by simp at hy, fun h => absurd h (Nat.lt_irrefl _)⟩
  rintro ⟨q, i⟩ ⟨⟨g1, g2⟩, g3, g4⟩
  simp only at g1 g2 g3 g4 ⊢
  refine (t_fullA I _ _ more q (i : Nat) (i : Nat)).mpr (bsplit_both (fun hx => ?_) (fun hx => ?_))
  · have hx := of_decide_eq_true hx
    have e3 : IntKind.i64.wrap ((i : Int) + 1) = ((i + 1 : Nat) : Int) := by rw [w_id (by omega) (by omega)]; omega
    have e4 : ((i : Nat) : Int) + 1 = ((i + 1 : Nat) : Int) := by omega
    have hge : 0 ≤ ((i : Nat) : Int).tmod 7 := Int.tmod_nonneg 7 (by omega)
    refine ⟨⟨by omega, by omega⟩, fun h => by omega, fun _ => ⟨(insQ q (mkE (((i : Nat) : Int).tmod 7) 0 ⟨#[]⟩ (i : Nat)), i + 1), ⟨⟨by show (insQ _ _).length = i + 1; rw [ins_len, g1], by show i + 1 ≤ 1000; omega⟩, fun y hy => ?_, fun _ => ?_⟩, by show 1000 - (i + 1) < 1000 - i; omega, ?_⟩⟩
    · rcases ins_mem.1 hy with hy | rfl
      · exact g3 y hy
      · exact hge
    · by_cases hi : 0 < i
      · obtain ⟨y, hy, h0⟩ := g4 hi
        exact ⟨y, ins_mem.2 (.inl hy), h0⟩
      · have : i = 0 := by omega
        subst this
        exact ⟨_, ins_mem.2 (.inr rfl), rfl⟩
    · rw [e3, e4]; rfl
  · have hx := of_decide_eq_false hx
    have hi : i = 1000 := by omega
    subst hi
    have hw : IntKind.i64.wrap (more.tmod 50) = more.tmod 50 := by
      have h1 : 0 ≤ more.tmod 50 := Int.tmod_nonneg 50 (by omega)
      have h2 : more.tmod 50 < 50 := Int.tmod_lt_of_pos more (by omega)
      exact w_id (by omega) (by omega)
    have hlt : more.tmod 50 < 50 := Int.tmod_lt_of_pos more (by omega)
    refine ALoop.invg (ps := [(0, 0)]) (ts := [0, 3, 5]) (nx := 1) (fun k : Nat => j_fullB more q (1000 : Nat) (k : Nat)) (fun k => k ≤ 50) (fun k => 50 - k) ?_ (by kernel_rfl) 0 (by kernel_rfl) (Nat.zero_le _)
    intro k hk
    refine (t_fullB I _ (fun _ => True) _ more q (1000 : Nat) (k : Nat)).mpr (bsplit_both (fun hy => ?_) (fun hy => ?_))
    · have hy := of_decide_eq_true hy
      rw [hw] at hy
      refine ⟨⟨by omega, by omega⟩, fun _ _ => bs_f (by rw [g1]; rfl) ⟨k + 1, by omega, by omega, ?_⟩, fun h => by omega⟩
      rw [w_id (n := (k : Int) + 1) (by omega) (by omega)]; rfl
    · refine ⟨fun e => by rw [e] at g1; simp at g1, fun x t e hs => ?_⟩
      subst e
      have h0 : x.i 0 = 0 := by
        obtain ⟨y, hy, h0⟩ := g4 (by omega)
        have h1 := g3 x (List.mem_cons_self ..)
        rcases List.mem_cons.1 hy with rfl | hy
        · exact h0
        · have := less_iff.1 ((List.pairwise_cons.1 hs.1).1 y hy); omega
      have hl := lo_ins_len (-5) t (mkE (-5) 0 ⟨#[]⟩ ((1000 : Nat) : Int))
      have hz : lo (-5) t = [] := by
        unfold lo
        rw [List.filter_eq_nil_iff]
        intro y hy
        have := g3 y (List.mem_cons_of_mem _ hy)
        simp; omega
      rw [hz] at hl
      have hl : (lo (-5) (insQ t (mkE (-5) 0 ⟨#[]⟩ ((1000 : Nat) : Int)))).length = 1 := hl
      have htl : t.length = 999 := by simp at g1; omega
      refine bs_t (by rw [h0]; rfl) ⟨⟨by omega, by omega⟩, fun h => by omega, fun _ => ⟨fun _ h => by rw [h] at hl; simp at hl, fun _ _ c room => ⟨by rw [hl]; rfl, rfl⟩⟩⟩
end Go.Tb.W
