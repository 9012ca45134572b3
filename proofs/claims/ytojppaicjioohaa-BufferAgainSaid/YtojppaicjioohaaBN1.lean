/- Buffers: taken, a thing may come again; law. -/
import Derived.Test.YtojppaicjioohaaBQ
import Derived.Test.YtojppaicjioohaaBM
set_option linter.all false
set_option maxRecDepth 100000
set_option maxHeartbeats 0
namespace Go.Tb.W
open Go Go.Proofs
variable {I : Interp O} (hI : I.R = pk.R)
include hI
theorem l_again (t : ByteArray) (a : Int) (hp : Tr (AO O)) :
    ACall I P 8 [.str t, .int .u16 a] hp (fun v hp' => v = .bool true ∧ hp' = hp) := by
  refine pcall mix (gQ2 hI) (fn := Try.f8) (by kernel_rfl) (by kernel_rfl) (by kernel_rfl) rfl rfl (fun hr => ?_) hp
  simp only [rgs, rg, Bool.and_eq_true] at hr
  obtain ⟨_, ha, _⟩ := hr
  refine (t_lagain I (fun v _ _ => v = .bool true ∧ cl v = true) t a).mpr (bsplit_both (fun _ => ⟨rfl, rfl⟩) (fun hsz => ⟨fun h => absurd h (by decide), fun _ s0 hs0 _ => ?_⟩))
  have hsz := of_decide_eq_false hsz
  rw [inK_iff] at ha
  simp only [loK, hiK] at ha
  have hi : IntKind.i64.wrap (IntKind.i64.wrap a + 1) = a + 1 := by rw [w_id (n := a) (by omega) (by omega), w_id (by omega) (by omega)]
  have hi2 : IntKind.i64.wrap (a + 1 + 1) = a + 2 := by rw [w_id (by omega) (by omega)]; omega
  rw [hi, hi2]
  have hm : ((t.size + (ByteArray.mk #[(120 : UInt8)]).size : Nat) : Int) ≤ IntKind.i64.max := by
    have h1 : (ByteArray.mk #[(120 : UInt8)]).size = 1 := rfl
    have h2 : IntKind.i64.max = 9223372036854775807 := by decide
    rw [h1, h2]; omega
  have hne : t ++ (ByteArray.mk #[(120 : UInt8)]) ≠ t := fun e => by
    have := congrArg ByteArray.size e
    rw [ByteArray.size_append] at this
    have h1 : (ByteArray.mk #[(120 : UInt8)]).size = 1 := rfl
    omega
  generalize hu : t ++ (ByteArray.mk #[(120 : UInt8)]) = u at *
  subst hs0
  obtain ⟨p1, q1⟩ := put_ok (s := newB 1 1) (i := a + 1) (t := t) (by omega) rfl (by simp [newB, keysOf]) (by simp [newB, lineOf])
  refine ⟨by simp [newB], fun e1 s2 h1 h2 => ?_⟩
  rw [p1] at h1; rw [q1] at h2
  subst h1
  have hl : lineOf s2.th (a + 1) = [t] := by rw [h2]; simp [newB, lineOf]
  have hl2 : lineOf s2.th (a + 2) = [] := by rw [h2]; simp [newB, lineOf]
  have hk : (keysOf s2.th).length = 1 := by rw [h2]; rfl
  have d2 : s2.dropped = 0 ∧ s2.each = 1 ∧ s2.room = 1 ∧ s2.th = [(a + 1, t)] := by rw [h2]; exact ⟨rfl, rfl, rfl, rfl⟩
  clear h2 p1 q1
  obtain ⟨d2, d3, d4, d5⟩ := d2
  refine ⟨hm, by omega, fun e3 s4 h3 h4 => ?_⟩
  obtain ⟨p1, q1⟩ := put_many (s := s2) (i := a + 1) (t := u) (by omega) (by rw [hl]; simp [hasT]; exact fun h => hne h.symm) (.inr (by rw [hl, d3]; simp))
  rw [p1] at h3; rw [q1] at h4
  subst h3; subst h4
  refine ⟨by simp only; omega, fun e5 s6 h5 h6 => ?_⟩
  obtain ⟨p1, q1⟩ := put_many (s := { s2 with dropped := s2.dropped + 1 }) (i := a + 2) (t := t) (by omega) (by simp only [hl2]; rfl) (.inl ⟨hl2, by rw [show (keysOf ({ s2 with dropped := s2.dropped + 1 } : Bf).th).length = 1 from hk]; exact d4.symm⟩)
  rw [show a + 1 + 1 = a + 2 by omega] at *
  rw [p1] at h5; rw [q1] at h6
  subst h5; subst h6
  intro L7 s8 h7 h8
  simp only [hl] at h7
  subst h7
  refine ⟨fun e => (by cases e), fun _ c rm => ⟨hm, ?_⟩⟩
  have d8 : s8.dropped = 2 ∧ s8.each = 1 ∧ s8.room = 1 ∧ s8.th = [] := by rw [h8]; simp [takeS, d2, d3, d4, d5]
  clear h8
  obtain ⟨d6, d7, d8, d9⟩ := d8
  refine ⟨by omega, fun e9 s10 h9 h10 => ?_⟩
  obtain ⟨p1, q1⟩ := put_ok (s := s8) (i := a + 1) (t := u) (by omega) (by rw [d9]; rfl) (by rw [d9]; simp [keysOf, d8]) (by rw [d9, d7]; simp [lineOf])
  rw [p1] at h9; rw [q1] at h10
  subst h9
  intro L11 s12 h11 h12
  have hL : L11 = [u] := by rw [h11, h10, d9]; simp [lineOf]
  have d12 : s12.dropped = 2 ∧ s12.each = 1 ∧ s12.room = 1 ∧ s12.th = [] := by rw [h12, h10]; simp [takeS, d6, d7, d8, d9]
  clear h12 h10 h11
  subst hL
  obtain ⟨f6, f7, f8, f9⟩ := d12
  refine ⟨fun e => (by cases e), fun _ c2 rm2 => ⟨by omega, fun e13 s14 h13 h14 => ?_⟩⟩
  obtain ⟨p1, q1⟩ := put_ok (s := s12) (i := a + 1) (t := t) (by omega) (by rw [f9]; rfl) (by rw [f9]; simp [keysOf, f8]) (by rw [f9, f7]; simp [lineOf])
  rw [p1] at h13; rw [q1] at h14
  subst h13; subst h14
  refine bs_t rfl (bs_t rfl (bs_t rfl ⟨⟨rfl, rfl, rfl⟩, bs_t rfl ⟨hm, ⟨rfl, rfl, rfl⟩, bs_t rfl (bs_t (by simp only; rw [f6]; rfl) ⟨?_, rfl⟩)⟩⟩))
  simp only [f9]
  rfl
end Go.Tb.W
