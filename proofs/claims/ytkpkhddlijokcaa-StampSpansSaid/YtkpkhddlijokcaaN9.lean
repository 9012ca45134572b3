/- The document's numbers: from halves. -/
import Derived.Test.YtkpkhddlijokcaaN8
set_option linter.all false
set_option maxRecDepth 100000
namespace Go.Tb.W
open Go Go.Proofs
variable {I : Interp O}
theorem bv_rep (n : Nat) : bv (List.replicate n (rwA [.bool false])) = 0 := by
  induction n with
  | zero => rfl
  | succ n ih => rw [List.replicate_succ, bv_cons, ih]; simp [rwA, nb]
theorem fbit (m i : Nat) (hi : i < 64) : (((m : Int).fdiv (2 ^ min ((i : Int)).toNat IntKind.u64.bits)).tmod 2 == 1) = ((m / 2 ^ i) % 2 == 1) := by
  have h1 : min ((i : Int)).toNat IntKind.u64.bits = i := by
    have : IntKind.u64.bits = 64 := rfl
    omega
  rw [h1]
  have h2 : (m : Int).fdiv (2 ^ i) = ((m / 2 ^ i : Nat) : Int) := by
    rw [Int.fdiv_eq_ediv_of_nonneg _ (Int.pow_nonneg (by decide))]
    rw [Int.natCast_ediv, Int.natCast_pow]; rfl
  rw [h2, Int.tmod_eq_emod_of_nonneg (Int.natCast_nonneg _)]
  have h3 : ((m / 2 ^ i : Nat) : Int) % 2 = ((m / 2 ^ i % 2 : Nat) : Int) := by omega
  rw [h3]
  generalize m / 2 ^ i % 2 = y
  cases hy : (y == 1)
  · have : y ≠ 1 := by simpa using hy
    simp; omega
  · have : y = 1 := by simpa using hy
    subst this; rfl
theorem mod_step (m i : Nat) : m % 2 ^ (i + 1) = m % 2 ^ i + 2 ^ i * nb ((m / 2 ^ i) % 2 == 1) := by
  rw [Nat.pow_succ, Nat.mod_mul]
  congr 2
  have := Nat.mod_lt (m / 2 ^ i) (show 0 < 2 by omega)
  generalize m / 2 ^ i % 2 = y at *
  rcases (show y = 0 ∨ y = 1 by omega) with rfl | rfl <;> rfl
theorem k_from : ∀ (args : List AV) (hp : Tr (AO O)) (nx : Nat) (K : AV → Tr (AO O) → Nat → Prop), c_from args hp nx K → ACall I P 14 args hp (fun v hp' => ∃ nx', K v hp' nx') := by
  intro args hp nx K h
  unfold c_from at h; split at h
  · rename_i h0 l0
    split at h
    · rename_i hb hg
      refine hrows mix gq2 (fn := Try.f14) (by kernel_rfl) (by kernel_rfl) (by kernel_rfl) [] [] [.int .i64 h0, .int .u64 l0] (nx := nx) rfl rfl rfl trivial rfl rfl (fun hr ho => ?_)
      simp only [rgs, rg, Bool.and_eq_true] at hr
      have hh := r_i64 hr.1; have hl := r_u64 hr.2.1
      refine (t_from I _ h0 l0).mpr ?_
      obtain ⟨m, rfl⟩ := Int.eq_ofNat_of_zero_le hl.1
      have hm : m < 18446744073709551616 := by omega
      refine ALoop.start [(0, 0), (1, 1)] [0, 1, 4, 5, 6] 2 (j_from0 h0 m) (by kernel_rfl) (by kernel_rfl) ?_
      refine ALoop.stepg [(0, 0), (1, 1), (3, 2)] [0, 1, 4, 5, 6] 3 ?_
      refine (t_from0R I _ _ h0 m).mpr ⟨by omega, fun c' h1 h2 => ?_⟩
      refine Eq.mpr (congrArg (ALoop I 0 _ _ _) (?hst : _ = j_from h0 m [rwA [.bool (((m : Int).fdiv (2 ^ min ((0 : Nat) : Int).toNat IntKind.u64.bits)).tmod 2 == 1)]] 1 c' (c' * [Sh.b].length) ((1 : Nat) : Int))) ?_
      case hst => kernel_rfl
      refine ALoop.invj (ps := [(0, 0), (1, 1), (4, 2)]) (ts := [0, 1, 4, 5, 6]) (nx := 3)
        (fun x : List Rw × Nat × Nat × Nat => j_from h0 m x.1 x.2.1 x.2.2.1 x.2.2.2 (x.2.1 : Nat)) (fun x => x.1.length = x.2.1 ∧ x.2.2.1 ≤ x.2.2.2 ∧ x.2.1 ≤ 64 ∧ bv x.1 = m % 2 ^ x.2.1) (fun x => 64 - x.2.1) (fun x hG => ?_) ([rwA [.bool (((m : Int).fdiv (2 ^ min ((0 : Nat) : Int).toNat IntKind.u64.bits)).tmod 2 == 1)]], 1, c', c' * [Sh.b].length) ⟨rfl, by simp, by simp only; omega, ?_⟩
      · obtain ⟨zs, n', e, room⟩ := x
        obtain ⟨g1, g2, g3, g4⟩ := hG
        simp only at g1 g2 g3 g4
        refine (t_fromR I _ _ h0 m zs n' e room n').mpr ?_
        have hz : zs.take n' = zs := List.take_of_length_le (by omega)
        refine bsplit_both (fun w1 => ?_) (fun w1 => ?_)
        · have w1 : n' < 64 := by have : (n' : Int) < 64 := by simpa using w1
                                  omega
          refine must_mk (by simp) (must_mk ?_ ⟨by omega, fun c'' hc1 hc2 => ?_⟩)
          · simp only [Bool.and_eq_true, Nat.ble_eq, List.length_cons, List.length_nil]; exact ⟨⟨by omega, by omega⟩, rfl⟩
          rw [s_i64 (n := (n' : Int) + 1) (by omega)]
          refine ⟨(zs.take n' ++ [rwA [.bool (((m : Int).fdiv (2 ^ min ((n' : Int)).toNat IntKind.u64.bits)).tmod 2 == 1)]], n' + 1, c'', c'' * [Sh.b].length), ⟨by simp [hz, g1], by simp, w1, ?_⟩, by simp only; omega, by kernel_rfl⟩
          simp only
          rw [fbit m n' w1, hz, bv_app, bv_one, g1, g4, mod_step]
        · have w1 : n' = 64 := by have : ¬ (n' : Int) < 64 := by simpa using w1
                                  omega
          subst w1
          have hmv : bv zs = m := by rw [g4]; exact Nat.mod_eq_of_lt (by simpa using hm)
          intro u zs2 j e2 rm2 hu
          have hj : j ≤ 64 := nr_len hu (by omega)
          have hT : Int.toNat (64 : Int) = 64 := rfl
          have hW : List.take (Int.toNat (64 : Int)) (List.replicate (Int.toNat (64 : Int)) (rwA (acells (AV.bool false)))) = List.replicate 64 (rwA [.bool false]) := by rw [hT, List.take_of_length_le (by simp)]; rfl
          rw [hW, hT]
          refine ⟨by decide, rfl, must_mk (by rw [Nat.ble_eq]; exact hu.1) ⟨by omega, fun c2 hc1 hc2 => ⟨⟨by omega, by omega⟩, fun k7 hk7 => ⟨rfl, ⟨by have := hu.1; simp only [List.length_append, List.length_replicate, List.length_take]; omega, by omega⟩, fun k8 hk8 => ?_⟩⟩⟩⟩
          obtain ⟨a1, a2, a3⟩ := hk7
          rw [hz, hmv] at a2
          have n7 := nr_bare (s := false) (xs := zs) (k := k7) (V := m) (by omega) a2 a3
          obtain ⟨b1, b2, b3⟩ := hk8
          have hlen : (List.replicate 64 (rwA [.bool false]) ++ List.take j zs2).length = 64 + j := by simp only [List.length_append, List.length_replicate, List.length_take]; have := hu.1; omega
          have hval : bv (List.take (64 + j) (List.replicate 64 (rwA [.bool false]) ++ List.take j zs2)) = 2 ^ 64 * bv (zs2.take j) := by
            rw [List.take_of_length_le (by omega), bv_app, bv_rep, List.length_replicate]; omega
          rw [hval] at b2
          have n8 := nr_bare (s := u) (by omega) b2 b3
          have v8 : sv u (2 ^ 64 * bv (zs2.take j)) = 18446744073709551616 * h0 := by
            have := hu.2.2.1
            have e : (2 : Nat) ^ 64 = 18446744073709551616 := by decide
            rw [e, ← this]; cases u <;> simp only [sv] <;> omega
          rw [v8] at n8
          refine ⟨⟨pre_of n7 (by omega), pre_of n8 (by omega)⟩, fun u9 zs10 j11 e12 rm13 h9 => ⟨trivial, .inr ⟨7, _, _, zs10, rm13, hb, hg, Nat.zero_le _, rfl, rfl, h u9 zs10 j11 e12 rm13 ?_⟩⟩⟩
          rw [nv_of n7, nv_of n8] at h9
          have ev : sv false m + 18446744073709551616 * h0 = vl h0 m := by unfold vl; simp only [sv]; omega
          rw [ev] at h9
          exact h9
      · have := mod_step m 0
        rw [fbit m 0 (by decide), bv_one]
        simpa [Nat.mod_one] using this.symm
    · exact h.elim
  · exact h.elim
end Go.Tb.W
