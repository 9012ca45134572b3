/- Claims: the library's sort, and edges. -/
import Derived.Test.YtnljoapmieepeaaSP
import Derived.Shelf.Small.Bits
import Derived.Test.YtnljoapmieepeaaKA
import Derived.Test.YtnljoapmieepeaaK8
set_option linter.all false
set_option maxRecDepth 100000
set_option maxHeartbeats 2000000
namespace Go.Tb.W
open Go Go.Proofs
variable {I : Interp O}
theorem bitLen_le : ∀ n, n ≤ 1000 → Lib.bitLen n ≤ 64 := by
  intro n hn
  have : ∀ m : Fin 1001, Lib.bitLen m.1 ≤ 64 := by decide
  exact this ⟨n, by omega⟩
theorem k_blen : ∀ (args : List AV) (K : AV → Prop), c_blen args K → ∀ hp, ACall I P 26 args hp (fun v hp' => K v ∧ hp' = hp) := by
  intro args K h hp
  unfold c_blen at h; split at h
  · rename_i n
    obtain ⟨⟨h0, h1⟩, hk⟩ := h
    refine ⟨callable (fn := Try.f26) (by kernel_rfl) (by kernel_rfl) (by kernel_rfl), fun ρ fp w args' hs hd => ?_⟩
    cases hd with
    | cons hv ht =>
    cases ht
    cases hv
    have hl := bitLen_le n.toNat (by omega)
    refine (Any.bits_Len Try.bitsLen n w h0 (by omega)).mono fun e w' he => ?_
    obtain ⟨rfl, rfl⟩ := he
    exact ⟨.int .i64 (Lib.bitLen n.toNat), hp, ρ, fp, _, ⟨hk _ (by omega) (by omega), rfl⟩, rfl, .int _ _ (by simp [inK_iff, loK, hiK]; omega), hs, Since.refl _ ρ fp⟩
  · exact h.elim
theorem gS5 : GOk I P (Gm S5) := Gm.consH (Gm.consP gS4 k_blen) k_pdq
theorem k_sort : ∀ (args : List AV) (hp : Tr (AO O)) (nx : Nat) (K : AV → Tr (AO O) → Nat → Prop), c_sort args hp nx K → ACall I P 20 args hp (fun v hp' => ∃ nx', K v hp' nx') := by
  intro args hp nx K h
  unfold c_sort at h; split at h
  · rename_i n l c
    split at h
    · rename_i xs0 room hb hg
      obtain ⟨⟨hl, h12, hne⟩, hk⟩ := h
      refine hcallG mix gS5 (fn := Try.f20) (by kernel_rfl) (by kernel_rfl) (by kernel_rfl) [n] [eO xs0 room] [.sl 0 0 l c, fnO] rfl (uniq1 hb) rfl ⟨hg, trivial⟩ rfl rfl (fun hr ho => (t_sort I _ l c room xs0).mpr ?_)
      refine ⟨?_, fun r _ _ => ⟨⟨hl, ⟨Int.le_refl _, Int.le_refl _⟩, rfl, h12, hne⟩, fun ys h1 h2 => ⟨[], nx, uniq1 hb, trivial, rfl, rfl, hk ys h1 h2⟩⟩⟩
      rw [w_u64]
      omega
    · exact h.elim
  · exact hcallG mix gS5 (fn := Try.f20) (by kernel_rfl) (by kernel_rfl) (by kernel_rfl) [] [] [.nils, fnO] rfl rfl rfl trivial rfl rfl (fun hr ho => (t_sortN I _).mpr ⟨by rw [w_u64]; omega, fun r _ _ => ⟨⟨⟨Int.le_refl _, Int.le_refl _⟩, Int.le_refl _, Int.le_refl _⟩, ⟨[], nx, rfl, trivial, rfl, rfl, h⟩⟩⟩)
  · exact h.elim
theorem gA5 : GOk I P (Gm A5) := Gm.consH Gm.nil k_sort
theorem gA6 : GOk I P (Gm A6) := Gm.consH gA4 (k_edges gA5)
end Go.Tb.W
