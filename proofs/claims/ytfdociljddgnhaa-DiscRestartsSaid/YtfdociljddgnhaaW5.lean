/- The wide numbers' functions do what their contracts say, part 3: long division. -/
import Derived.Test.YtfdociljddgnhaaW4
set_option linter.all false
set_option maxRecDepth 100000
namespace Go.Tb.W
open Go Go.Proofs
variable {I : Interp O}
theorem bit_hi (h b i : Nat) (hb : b < 18446744073709551616) (hi : 64 ≤ i) : (h * 18446744073709551616 + b) / 2 ^ i = h / 2 ^ (i - 64) := by
  have e : 2 ^ i = 18446744073709551616 * 2 ^ (i - 64) := by
    rw [show (18446744073709551616 : Nat) = 2 ^ 64 by decide, ← Nat.pow_add]; congr 1; omega
  rw [e, ← Nat.div_div_eq_div_mul]
  congr 1; omega
theorem bit_lo (h b i : Nat) (hi : i < 64) : (h * 18446744073709551616 + b) / 2 ^ i % 2 = b / 2 ^ i % 2 := by
  have e : (18446744073709551616 : Nat) = 2 ^ i * (2 * 2 ^ (63 - i)) := by
    rw [show (18446744073709551616 : Nat) = 2 ^ 64 by decide, ← Nat.pow_succ', ← Nat.pow_add]; congr 1; omega
  have e2 : h * 18446744073709551616 + b = b + 2 ^ i * (2 * (h * 2 ^ (63 - i))) := by
    rw [e, Nat.add_comm, Nat.mul_left_comm]; congr 2; rw [Nat.mul_left_comm]
  rw [e2, Nat.add_mul_div_left _ _ (Nat.two_pow_pos i)]
  omega
/-- One more bit. -/
theorem next_bit (V i : Nat) : V / 2 ^ i = 2 * (V / 2 ^ (i + 1)) + V / 2 ^ i % 2 := by
  rw [Nat.pow_succ, ← Nat.div_div_eq_div_mul]; omega
theorem long_lt {p y t : Nat} (hy : 0 < y) (h : 2 * (p % y) + t < y) : (2 * p + t) % y = 2 * (p % y) + t ∧ (2 * p + t) / y = 2 * (p / y) := by
  have e : 2 * p + t = (2 * (p % y) + t) + y * (2 * (p / y)) := by
    have := Nat.div_add_mod p y
    have : y * (2 * (p / y)) = 2 * (y * (p / y)) := by rw [Nat.mul_left_comm]
    omega
  constructor
  · rw [e, Nat.add_mul_mod_self_left, Nat.mod_eq_of_lt h]
  · rw [e, Nat.add_mul_div_left _ _ hy, Nat.div_eq_of_lt h, Nat.zero_add]
theorem long_ge {p y t : Nat} (hy : 0 < y) (ht : t < 2) (h : y ≤ 2 * (p % y) + t) : (2 * p + t) % y = 2 * (p % y) + t - y ∧ (2 * p + t) / y = 2 * (p / y) + 1 := by
  have hm := Nat.mod_lt p hy
  have e : 2 * p + t = (2 * (p % y) + t - y) + y * (2 * (p / y) + 1) := by
    have := Nat.div_add_mod p y
    have : y * (2 * (p / y) + 1) = 2 * (y * (p / y)) + y := by rw [Nat.mul_add, Nat.mul_left_comm, Nat.mul_one]
    omega
  have hlt : 2 * (p % y) + t - y < y := by omega
  constructor
  · rw [e, Nat.add_mul_mod_self_left, Nat.mod_eq_of_lt hlt]
  · rw [e, Nat.add_mul_div_left _ _ hy, Nat.div_eq_of_lt hlt, Nat.zero_add]
theorem hi_two (q : Int) : hi (vl (hi q) (lo q) + vl (hi q) (lo q)) = hi (2 * q) := by unfold hi lo vl; omega
theorem lo_two (q : Int) : lo (vl (hi q) (lo q) + vl (hi q) (lo q)) = lo (2 * q) := by unfold hi lo vl; omega
theorem hi_odd (q : Int) : hi (2 * q + 1) = hi (2 * q) := by unfold hi; omega
theorem lo_odd (q : Int) : bits BinOp.or IntKind.u64 (lo (2 * q)) 1 = lo (2 * q + 1) := by
  rw [or_add 1 _ _ (by unfold lo; omega) (by unfold lo; omega) (by decide) (by decide)]; unfold lo; omega
theorem fdiv_nat (x n : Nat) (hn : n ≤ 64) : ((x : Nat) : Int).fdiv (2 ^ min n IntKind.u64.bits) = ((x / 2 ^ n : Nat) : Int) := by
  rw [shr_eq (b := 2 ^ n) _ n .u64 hn (by simp), Int.natCast_ediv]
theorem bit_of (x n : Nat) (hn : n ≤ 64) (hx : x < 18446744073709551616) : bits BinOp.and IntKind.u64 (((x : Nat) : Int).fdiv (2 ^ min n IntKind.u64.bits)) 1 = ((x / 2 ^ n % 2 : Nat) : Int) := by
  have : x / 2 ^ n ≤ x := Nat.div_le_self _ _
  rw [fdiv_nat x n hn]
  generalize x / 2 ^ n = p at *
  rw [and_one _ ⟨by omega, by omega⟩]; omega
theorem shl_or (r t : Nat) (hr : 2 * r + 1 < 18446744073709551616) (ht : t < 2) : bits BinOp.or IntKind.u64 (IntKind.u64.wrap (((r : Nat) : Int) * 2 ^ min (Int.toNat 1) IntKind.u64.bits)) ((t : Nat) : Int) = ((2 * r + t : Nat) : Int) := by
  rw [show (2 : Int) ^ min (Int.toNat 1) IntKind.u64.bits = 2 by decide, s_u64 (by omega), or_add 1 _ _ (by omega) (by omega) (by simp; omega) (by omega)]; omega
noncomputable def jp (a : Int) (b y V : Nat) (i : Nat) : St O :=
  j_parted a b ((a % 18446744073709551616)) y ((i : Int) - 1) ((V / 2 ^ i % y : Nat) : Int) (hi ((V / 2 ^ i / y : Nat) : Int)) (lo ((V / 2 ^ i / y : Nat) : Int))
theorem k_parted : ∀ (args : List AV) (K : AV → Prop), c_parted args K → ∀ hp, ACall I P 29 args hp (fun v hp' => K v ∧ hp' = hp) := by
  intro args K h hp
  unfold c_parted at h; split at h
  · rename_i a b y
    obtain ⟨hy, h⟩ := must_spec h
    simp only [Bool.and_eq_true, decide_eq_true_eq] at hy
    refine pcall mix g1 (fn := Try.f29) (by kernel_rfl) (by kernel_rfl) (by kernel_rfl) rfl rfl (fun hr => ?_) hp
    simp only [rgs, rg, Bool.and_eq_true] at hr
    obtain ⟨⟨ha, hb, _⟩, _⟩ := hr
    have ha := r_i64 ha; have hb := r_u64 hb
    refine (t_parted I (fun v => K v ∧ cl v = true) a b y).mpr ?_
    obtain ⟨b, rfl⟩ := Int.eq_ofNat_of_zero_le hb.1
    obtain ⟨y, rfl⟩ := Int.eq_ofNat_of_zero_le (show 0 ≤ y by omega)
    have hh0 : 0 ≤ a % 18446744073709551616 ∧ a % 18446744073709551616 < 18446744073709551616 := by omega
    have hwa : IntKind.u64.wrap a = a % 18446744073709551616 := w_u64 a
    obtain ⟨hh, hhe⟩ := Int.eq_ofNat_of_zero_le hh0.1
    let V : Nat := hh * 18446744073709551616 + b
    have hV : vl (a % 18446744073709551616) (b : Int) = (V : Int) := by rw [hhe]; simp only [vl, V]; omega
    have hVlt : V < 2 ^ 128 := by
      have : (2 : Nat) ^ 128 = 340282366920938463463374607431768211456 := by decide
      omega
    rw [hV] at h
    have hy0 : 0 < y := by omega
    refine ALoop.invg (ps := [(0, 0), (1, 1)]) (ts := [1, 2, 4, 5, 6, 7]) (nx := 2) (jp a b y V) (fun i => i ≤ 128) (fun i => i) (fun i hi128 => ?_) (by kernel_rfl) 128 ?_ (Nat.le_refl _)
    · have hyV : ∀ n, V / 2 ^ n % y < y := fun n => Nat.mod_lt _ hy0
      unfold jp
      refine (t_parted1 I (fun v => K v ∧ cl v = true) _ a b _ y _ _ _ _).mpr ?_
      cases i with
      | zero =>
        refine bsplit_both (fun hx => by simp at hx) (fun _ => ⟨?_, rfl⟩)
        have e0 : V / 2 ^ 0 = V := by simp
        rw [e0, Int.natCast_emod, Int.natCast_ediv]
        exact h
      | succ k =>
        have hii : ((k + 1 : Nat) : Int) - 1 = (k : Int) := by omega
        rw [hii, hhe]
        have htm : ((k : Int).tmod 64) = ((k % 64 : Nat) : Int) := by rw [Int.tmod_eq_emod_of_nonneg (by omega)]; omega
        rw [htm, Int.toNat_natCast]
        have hnx := next_bit V k
        let t := V / 2 ^ k % 2
        have ht2 : t < 2 := Nat.mod_lt _ (by decide)
        have hrl : 2 * (V / 2 ^ (k + 1) % y) + 1 < 18446744073709551616 := by have := hyV (k + 1); omega
        -- both ways to fetch the bit
        have core : ∀ {s1 s2 : St O}, s1 = j_parted a b ((hh : Nat) : Int) y (IntKind.i64.wrap ((k : Int) - 1)) (bits BinOp.or IntKind.u64 (IntKind.u64.wrap (((V / 2 ^ (k + 1) % y : Nat) : Int) * 2 ^ min (Int.toNat 1) IntKind.u64.bits)) ((t : Nat) : Int)) (hi (vl (hi ((V / 2 ^ (k + 1) / y : Nat) : Int)) (lo ((V / 2 ^ (k + 1) / y : Nat) : Int)) + vl (hi ((V / 2 ^ (k + 1) / y : Nat) : Int)) (lo ((V / 2 ^ (k + 1) / y : Nat) : Int)))) (lo (vl (hi ((V / 2 ^ (k + 1) / y : Nat) : Int)) (lo ((V / 2 ^ (k + 1) / y : Nat) : Int)) + vl (hi ((V / 2 ^ (k + 1) / y : Nat) : Int)) (lo ((V / 2 ^ (k + 1) / y : Nat) : Int)))) →
            s2 = j_parted a b ((hh : Nat) : Int) y (IntKind.i64.wrap ((k : Int) - 1)) (IntKind.u64.wrap (bits BinOp.or IntKind.u64 (IntKind.u64.wrap (((V / 2 ^ (k + 1) % y : Nat) : Int) * 2 ^ min (Int.toNat 1) IntKind.u64.bits)) ((t : Nat) : Int) - y)) (hi (vl (hi ((V / 2 ^ (k + 1) / y : Nat) : Int)) (lo ((V / 2 ^ (k + 1) / y : Nat) : Int)) + vl (hi ((V / 2 ^ (k + 1) / y : Nat) : Int)) (lo ((V / 2 ^ (k + 1) / y : Nat) : Int)))) (bits BinOp.or IntKind.u64 (lo (vl (hi ((V / 2 ^ (k + 1) / y : Nat) : Int)) (lo ((V / 2 ^ (k + 1) / y : Nat) : Int)) + vl (hi ((V / 2 ^ (k + 1) / y : Nat) : Int)) (lo ((V / 2 ^ (k + 1) / y : Nat) : Int)))) 1) →
            bsplit (decide (bits BinOp.or IntKind.u64 (IntKind.u64.wrap (((V / 2 ^ (k + 1) % y : Nat) : Int) * 2 ^ min (Int.toNat 1) IntKind.u64.bits)) ((t : Nat) : Int) < (y : Int))) fun
              | true => ∃ z, z ≤ 128 ∧ z < k + 1 ∧ s1 = j_parted a b ((hh : Nat) : Int) y ((z : Int) - 1) ((V / 2 ^ z % y : Nat) : Int) (hi ((V / 2 ^ z / y : Nat) : Int)) (lo ((V / 2 ^ z / y : Nat) : Int))
              | false => ∃ z, z ≤ 128 ∧ z < k + 1 ∧ s2 = j_parted a b ((hh : Nat) : Int) y ((z : Int) - 1) ((V / 2 ^ z % y : Nat) : Int) (hi ((V / 2 ^ z / y : Nat) : Int)) (lo ((V / 2 ^ z / y : Nat) : Int)) := by
          intro s1 s2 h1 h2
          rw [shl_or _ t hrl ht2] at h1 h2 ⊢
          rw [hi_two, lo_two] at h1 h2
          refine bsplit_both (fun hx => ⟨k, by omega, by omega, ?_⟩) (fun hx => ⟨k, by omega, by omega, ?_⟩)
          · have hx' : 2 * (V / 2 ^ (k + 1) % y) + t < y := Int.ofNat_lt.1 (of_decide_eq_true hx)
            obtain ⟨e1, e2⟩ := long_lt hy0 hx'
            rw [h1]
            rw [hnx, e1, e2, s_i64 (by omega)]
            rfl
          · have hx' : y ≤ 2 * (V / 2 ^ (k + 1) % y) + t := Int.ofNat_le.1 (Int.not_lt.1 (of_decide_eq_false hx))
            obtain ⟨e1, e2⟩ := long_ge hy0 ht2 hx'
            rw [h2]
            have e3 : IntKind.u64.wrap (((2 * (V / 2 ^ (k + 1) % y) + t : Nat) : Int) - (y : Int)) = ((2 * (V / 2 ^ (k + 1) % y) + t - y : Nat) : Int) := by
              rw [s_u64 (by omega)]; omega
            rw [hnx, e1, e2, s_i64 (by omega), e3, lo_odd]
            rw [show (((2 * (V / 2 ^ (k + 1) / y) + 1 : Nat)) : Int) = 2 * ((V / 2 ^ (k + 1) / y : Nat) : Int) + 1 by omega, hi_odd]
        refine bsplit_both (fun hx => ?_) (fun hx => absurd hx (by simp))
        refine must_mk (decide_eq_true (by omega)) ?_
        refine bsplit_both (fun hx64 => ?_) (fun hx64 => ?_)
        · refine must_mk (decide_eq_true (by omega)) ?_
          have h64 : 64 ≤ k := by simp at hx64; omega
          have eb : bits BinOp.and IntKind.u64 (((hh : Nat) : Int).fdiv (2 ^ min (k % 64) IntKind.u64.bits)) 1 = ((t : Nat) : Int) := by
            rw [bit_of hh (k % 64) (by omega) (by omega)]
            have : k % 64 = k - 64 := by omega
            rw [this]
            show _ = ((V / 2 ^ k % 2 : Nat) : Int)
            rw [bit_hi hh b k (by omega) h64]
          rw [eb]
          exact core rfl rfl
        · have h64 : k < 64 := by simp at hx64; omega
          have eb : bits BinOp.and IntKind.u64 (((b : Nat) : Int).fdiv (2 ^ min (k % 64) IntKind.u64.bits)) 1 = ((t : Nat) : Int) := by
            rw [bit_of b (k % 64) (by omega) (by omega)]
            have : k % 64 = k := by omega
            rw [this]
            show _ = ((V / 2 ^ k % 2 : Nat) : Int)
            rw [bit_lo hh b k h64]
          rw [eb]
          exact core rfl rfl
    · refine (show _ = j_parted a b (IntKind.u64.wrap a) y 127 0 0 0 by kernel_rfl).trans ?_
      have : V / 2 ^ 128 = 0 := Nat.div_eq_of_lt hVlt
      unfold jp
      rw [this, hwa]
      simp [hi, lo]
  · exact h.elim
end Go.Tb.W
