/- The laws of clocks: each is told true. -/
import Derived.Test.YtlgoijjiadcmeaaD3
set_option linter.all false
namespace Go.Tb.W
open Go Go.Proofs
variable {I : Interp O}
abbrev Tru : AV → Prop := fun v => v = .bool true ∧ cl v = true
theorem tru {b : Bool} (h : b = true) : Tru (.bool b) := by subst h; exact ⟨rfl, rfl⟩
theorem tm_bd (a : Int) (m : Int) (hm : 0 < m) : -m < a.tmod m ∧ a.tmod m < m := by
  have h := Int.natAbs_tmod a m
  have h2 : (a.tmod m).natAbs < m.natAbs := by rw [h]; exact Nat.mod_lt _ (by omega)
  omega
theorem l_made (a b r : Int) (hp : Tr (AO O)) : ACall I P 4 [.int .i64 a, .int .i64 b, .int .i64 r] hp (fun v hp' => v = .bool true ∧ hp' = hp) := by
  refine pcall mix gf7 (fn := Try.f4) (by kernel_rfl) (by kernel_rfl) (by kernel_rfl) rfl rfl (fun hr => ?_) hp
  simp only [rgs, rg, Bool.and_eq_true] at hr
  obtain ⟨ha, hb, hq, _⟩ := hr
  have ha := r_i64 ha; have hb := r_i64 hb; have hq := r_i64 hq
  refine (t_made I Tru a b r).mpr ?_
  intro f s q e m
  unfold NewR at m
  refine bsplit_both (fun hx => ?_) (fun hx => bsplit_both (fun hy => ?_) (fun hy => ?_))
  · have hx : r < -100000000 := by simpa using hx
    obtain ⟨rfl, rfl, rfl, rfl⟩ : f = 0 ∧ s = 0 ∧ q = 0 ∧ e = 3 := by omega
    exact bsT rfl (tru rfl)
  · have hx : r > 100000000 := by simpa using hy
    obtain ⟨rfl, rfl, rfl, rfl⟩ : f = 0 ∧ s = 0 ∧ q = 0 ∧ e = 3 := by omega
    exact bsT rfl (tru rfl)
  · have hx : ¬ r < -100000000 := by simpa using hx
    have hy : ¬ r > 100000000 := by simpa using hy
    obtain ⟨rfl, rfl, rfl, rfl⟩ : f = a ∧ s = b ∧ q = r ∧ e = 0 := by omega
    intro n e m
    obtain ⟨rfl, rfl⟩ : n = s ∧ e = 0 := by
      have : shw f s q f = s := by unfold shw; simp
      unfold ReadR I64R at m; rw [this] at m; omega
    exact bsT rfl (bsT (by simp) (bsT (by simp) (tru rfl)))
/-- A clock that is told, in bounds: what it shows is told, too. -/
theorem read_in {f s r t n e : Int} (hr : -100000000 ≤ r ∧ r ≤ 100000000) (ht : f ≤ t) (h : t - f ≤ 2305843009213693952) (hs : -4611686018427387904 ≤ s ∧ s ≤ 4611686018427387904) (m : ReadR f s r t n e) :
    e = 0 ∧ n = (t - f) * r / 1000000000 + (t - f) + s := by
  have h1 : (t - f) * r ≤ (t - f) * 100000000 := Int.mul_le_mul_of_nonneg_left hr.2 (by omega)
  have h2 : (t - f) * -100000000 ≤ (t - f) * r := Int.mul_le_mul_of_nonneg_left hr.1 (by omega)
  unfold ReadR I64R shw at m
  generalize (t - f) * r = x at *
  omega
theorem l_forward (at_ sh r a b : Int) (hp : Tr (AO O)) : ACall I P 5 [.int .i64 at_, .int .i64 sh, .int .i64 r, .int .u32 a, .int .u32 b] hp (fun v hp' => v = .bool true ∧ hp' = hp) := by
  refine pcall mix gf7 (fn := Try.f5) (by kernel_rfl) (by kernel_rfl) (by kernel_rfl) rfl rfl (fun hr => ?_) hp
  simp only [rgs, rg, Bool.and_eq_true] at hr
  obtain ⟨_, _, _, ha, hb, _⟩ := hr
  have ha := r_u32 ha; have hb := r_u32 hb
  refine (t_forward I Tru at_ sh r a b).mpr ?_
  have b1 := tm_bd at_ 1152921504606846976 (by decide); have b2 := tm_bd sh 1152921504606846976 (by decide); have b3 := tm_bd r 100000001 (by decide)
  intro f s q e m
  obtain ⟨rfl, rfl, rfl, rfl⟩ : f = at_.tmod 1152921504606846976 ∧ s = sh.tmod 1152921504606846976 ∧ q = r.tmod 100000001 ∧ e = 0 := by unfold NewR at m; omega
  generalize at_.tmod 1152921504606846976 = f at *
  generalize sh.tmod 1152921504606846976 = s at *
  generalize r.tmod 100000001 = q at *
  rw [s_i64 (n := a) (by omega), s_i64 (n := b) (by omega), s_i64 (n := f + a) (by omega), s_i64 (n := f + a + b) (by omega)]
  refine bsF rfl ?_
  intro n e m1 n' e' m2
  obtain ⟨rfl, h1⟩ := read_in (by omega) (by omega) (by omega) (by omega) m1
  obtain ⟨rfl, h2⟩ := read_in (by omega) (by omega) (by omega) (by omega) m2
  have e1 : f + a - f = a := by omega
  have e2 : f + a + b - f = a + b := by omega
  rw [e1] at h1; rw [e2, Int.add_mul] at h2
  have h3 : b * q ≤ b * 100000000 := Int.mul_le_mul_of_nonneg_left (by omega) hb.1
  have h4 : b * -100000000 ≤ b * q := Int.mul_le_mul_of_nonneg_left (by omega) hb.1
  generalize a * q = x at *
  generalize b * q = y at *
  refine bsF rfl (bsF rfl (bsT (by simp; omega) (bsplit_both (fun _ => tru rfl) (fun hx => tru ?_))))
  have : 2 ≤ b := by simpa using hx
  simp; omega
theorem l_parts (at_ sh r a b : Int) (hp : Tr (AO O)) : ACall I P 6 [.int .i64 at_, .int .i64 sh, .int .i64 r, .int .u32 a, .int .u32 b] hp (fun v hp' => v = .bool true ∧ hp' = hp) := by
  refine pcall mix gf7 (fn := Try.f6) (by kernel_rfl) (by kernel_rfl) (by kernel_rfl) rfl rfl (fun hr => ?_) hp
  simp only [rgs, rg, Bool.and_eq_true] at hr
  obtain ⟨_, _, _, ha, hb, _⟩ := hr
  have ha := r_u32 ha; have hb := r_u32 hb
  refine (t_parts I Tru at_ sh r a b).mpr ?_
  have b1 := tm_bd at_ 1152921504606846976 (by decide); have b2 := tm_bd sh 1152921504606846976 (by decide); have b3 := tm_bd r 100000001 (by decide)
  intro f s q e m
  obtain ⟨rfl, rfl, rfl, rfl⟩ : f = at_.tmod 1152921504606846976 ∧ s = sh.tmod 1152921504606846976 ∧ q = r.tmod 100000001 ∧ e = 0 := by unfold NewR at m; omega
  generalize at_.tmod 1152921504606846976 = f at *
  generalize sh.tmod 1152921504606846976 = s at *
  generalize r.tmod 100000001 = q at *
  rw [s_i64 (n := a) (by omega), s_i64 (n := b) (by omega), s_i64 (n := f + a) (by omega), s_i64 (n := f + a + b) (by omega)]
  intro f' s' r' e' m1
  have h3 : b * q ≤ b * 100000000 := Int.mul_le_mul_of_nonneg_left (by omega) hb.1
  have h4 : b * -100000000 ≤ b * q := Int.mul_le_mul_of_nonneg_left (by omega) hb.1
  have h5 : a * q ≤ a * 100000000 := Int.mul_le_mul_of_nonneg_left (by omega) ha.1
  have h6 : a * -100000000 ≤ a * q := Int.mul_le_mul_of_nonneg_left (by omega) ha.1
  have e1 : f + a - f = a := by omega
  have e2 : f + a + b - f = a + b := by omega
  have e3 : f + a + b - (f + a) = b := by omega
  obtain ⟨rfl, rfl, rfl, rfl⟩ : f' = f + a ∧ s' = a * q / 1000000000 + a + s ∧ r' = q ∧ e' = 0 := by
    rcases m1 with m1 | ⟨_, n, ⟨m, d, m2, m3⟩, m4⟩
    · omega
    · obtain ⟨rfl, h1⟩ := read_in (by omega) (by omega) (by omega) (by omega) m2
      rw [e1] at h1
      unfold I64R at m3
      generalize a * q = x at *
      omega
  intro n e m2 n' e' m3
  obtain ⟨rfl, h1⟩ := read_in (by omega) (by omega) (by omega) (by omega) m2
  obtain ⟨rfl, h2⟩ := read_in (by omega) (by omega) (by omega) (by omega) m3
  rw [e3] at h1; rw [e2, Int.add_mul] at h2
  generalize a * r' = x at *
  generalize b * r' = y at *
  refine bsT rfl (bsT rfl (bsT rfl (bsT rfl (bsplit_both (fun _ => tru rfl) (fun hx => tru ?_)))))
  have hx : n ≠ n' := by simpa using hx
  rw [s_i64 (by omega)]
  simp; omega
theorem l_bound (r m s : Int) (hp : Tr (AO O)) : ACall I P 7 [.int .i64 r, .int .u16 m, .int .u64 s] hp (fun v hp' => v = .bool true ∧ hp' = hp) := by
  refine pcall mix gf7 (fn := Try.f7) (by kernel_rfl) (by kernel_rfl) (by kernel_rfl) rfl rfl (fun hr => ?_) hp
  simp only [rgs, rg, Bool.and_eq_true] at hr
  obtain ⟨_, hm, hs, _⟩ := hr
  have hm : 0 ≤ m ∧ m ≤ 65535 := by have := inK_iff.1 hm; simpa [loK, hiK] using this
  have hs := r_u64 hs
  refine (t_bound I Tru r m s).mpr ?_
  have b1 := tm_bd s 1152921504606846976 (by decide); have b3 := tm_bd r 100000001 (by decide)
  have b2 := Int.tmod_nonneg 1152921504606846976 hs.1
  intro f s' q e m0
  obtain ⟨rfl, rfl, rfl, rfl⟩ : f = 0 ∧ s' = 0 ∧ q = r.tmod 100000001 ∧ e = 0 := by unfold NewR at m0; omega
  generalize s.tmod 1152921504606846976 = s at *
  generalize r.tmod 100000001 = q at *
  rw [s_i64 (n := s) (by omega), s_i64 (n := 0 - q) (by omega), s_i64 (n := m) (by omega)]
  intro n e m1 n' e' m2
  obtain ⟨rfl, h1⟩ := read_in (by omega) (by omega) (by omega) (by omega) m1
  have hg : 0 ≤ (if 0 - q > q then 0 - q else q) ∧ (if 0 - q > q then 0 - q else q) ≤ 100000000 ∧ q ≤ (if 0 - q > q then 0 - q else q) ∧ -q ≤ (if 0 - q > q then 0 - q else q) := by split <;> omega
  generalize (if 0 - q > q then 0 - q else q) = g at *
  rw [s_i64 (n := g + m) (by omega)] at m2
  have h3 : s * q ≤ s * (g + m) := Int.mul_le_mul_of_nonneg_left (by omega) (by omega)
  have h4 : s * -(g + m) ≤ s * q := Int.mul_le_mul_of_nonneg_left (by omega) (by omega)
  have h5 : s * (g + m) ≤ s * 100065535 := Int.mul_le_mul_of_nonneg_left (by omega) (by omega)
  rw [Int.mul_neg] at h4
  rw [Int.sub_zero] at h1
  unfold GrownR I64R gro at m2
  have h0 := Int.mul_nonneg b2 (show 0 ≤ g + m by omega)
  generalize s * (g + m) = x at *
  generalize s * q = y at *
  obtain ⟨rfl, h2⟩ : e' = 0 ∧ n' = (x + 999999999) / 1000000000 := by omega
  rw [s_i64 (n := n - s) (by omega), s_i64 (n := s - n) (by omega)]
  refine bsT rfl (bsT rfl (bsT rfl (bsT (by simp; omega) (tru (by simp; omega)))))
theorem l_steps (at_ sh r y a b : Int) (hp : Tr (AO O)) : ACall I P 8 [.int .i64 at_, .int .i64 sh, .int .i64 r, .int .i64 y, .int .u32 a, .int .u32 b] hp (fun v hp' => v = .bool true ∧ hp' = hp) := by
  refine pcall mix gf7 (fn := Try.f8) (by kernel_rfl) (by kernel_rfl) (by kernel_rfl) rfl rfl (fun hr => ?_) hp
  simp only [rgs, rg, Bool.and_eq_true] at hr
  obtain ⟨_, _, _, _, ha, hb, _⟩ := hr
  have ha := r_u32 ha; have hb := r_u32 hb
  refine (t_steps I Tru at_ sh r y a b).mpr ?_
  have b1 := tm_bd at_ 1152921504606846976 (by decide); have b2 := tm_bd sh 1152921504606846976 (by decide); have b3 := tm_bd r 100000001 (by decide); have b4 := tm_bd y 1152921504606846976 (by decide)
  intro f s q e m
  obtain ⟨rfl, rfl, rfl, rfl⟩ : f = at_.tmod 1152921504606846976 ∧ s = sh.tmod 1152921504606846976 ∧ q = r.tmod 100000001 ∧ e = 0 := by unfold NewR at m; omega
  generalize at_.tmod 1152921504606846976 = f at *
  generalize sh.tmod 1152921504606846976 = s at *
  generalize r.tmod 100000001 = q at *
  generalize y.tmod 1152921504606846976 = y at *
  rw [s_i64 (n := a) (by omega), s_i64 (n := b) (by omega), s_i64 (n := f + a) (by omega), s_i64 (n := f + a + b) (by omega), s_i64 (n := 0 - y) (by omega)]
  have h3 : b * q ≤ b * 100000000 := Int.mul_le_mul_of_nonneg_left (by omega) hb.1
  have h4 : b * -100000000 ≤ b * q := Int.mul_le_mul_of_nonneg_left (by omega) hb.1
  have h5 : a * q ≤ a * 100000000 := Int.mul_le_mul_of_nonneg_left (by omega) ha.1
  have h6 : a * -100000000 ≤ a * q := Int.mul_le_mul_of_nonneg_left (by omega) ha.1
  have e1 : f + a - f = a := by omega
  have e3 : f + a + b - (f + a) = b := by omega
  intro f1 s1 r1 d1 m1
  obtain ⟨rfl, rfl, rfl, rfl⟩ : f1 = f + a ∧ s1 = a * q / 1000000000 + a + s + y ∧ r1 = q ∧ d1 = 0 := by
    obtain ⟨n, ⟨m, d, m2, m3⟩, m4⟩ := m1
    obtain ⟨rfl, h1⟩ := read_in (by omega) (by omega) (by omega) (by omega) m2
    rw [e1] at h1
    unfold I64R at m3
    generalize a * q = x at *
    omega
  intro f2 s2 r2 d2 m2
  obtain ⟨rfl, rfl, rfl, rfl⟩ : f2 = f + a ∧ s2 = a * r1 / 1000000000 + a + s ∧ r2 = r1 ∧ d2 = 0 := by
    obtain ⟨n, ⟨m, d, m2, m3⟩, m4⟩ := m2
    obtain ⟨rfl, h1⟩ := read_in (by omega) (by omega) (by omega) (by omega) m2
    rw [Int.sub_self, Int.zero_mul] at h1
    unfold I64R at m3
    generalize a * r1 = x at *
    omega
  intro f3 s3 r3 d3 m3
  obtain ⟨rfl, rfl, rfl, rfl⟩ : f3 = f + a ∧ s3 = a * r2 / 1000000000 + a + s ∧ r3 = r2 ∧ d3 = 0 := by
    rcases m3 with m3 | ⟨_, n, ⟨m, d, m2, m3⟩, m4⟩
    · omega
    obtain ⟨rfl, h1⟩ := read_in (by omega) (by omega) (by omega) (by omega) m2
    rw [e1] at h1
    unfold I64R at m3
    generalize a * r2 = x at *
    omega
  intro n e m4 n' e' m5
  obtain ⟨rfl, h1⟩ := read_in (by omega) (by omega) (by omega) (by omega) m4
  obtain ⟨rfl, h2⟩ := read_in (by omega) (by omega) (by omega) (by omega) m5
  rw [e3] at h1 h2
  generalize a * r3 = x at *
  generalize b * r3 = z at *
  rw [s_i64 (n := n' + y) (by omega)]
  refine bsT rfl (bsT rfl (bsT rfl (bsT rfl (bsT rfl (bsT rfl (bsT (by simp) (tru ?_)))))))
  simp; omega
theorem l_grows (a b r m : Int) (hp : Tr (AO O)) : ACall I P 9 [.int .u32 a, .int .u32 b, .int .u32 r, .int .u32 m] hp (fun v hp' => v = .bool true ∧ hp' = hp) := by
  refine pcall mix gf7 (fn := Try.f9) (by kernel_rfl) (by kernel_rfl) (by kernel_rfl) rfl rfl (fun hr => ?_) hp
  simp only [rgs, rg, Bool.and_eq_true] at hr
  obtain ⟨ha, hb, hq, hm, _⟩ := hr
  have ha := r_u32 ha; have hb := r_u32 hb; have hq := r_u32 hq; have hm := r_u32 hm
  refine (t_grows I Tru a b r m).mpr ?_
  rw [Int.tmod_eq_emod_of_nonneg ha.1, Int.tmod_eq_emod_of_nonneg hb.1, Int.tmod_eq_emod_of_nonneg hq.1, Int.tmod_eq_emod_of_nonneg hm.1,
    s_i64 (n := a % 1073741824) (by omega), s_i64 (n := b % 1073741824) (by omega), s_i64 (n := r % 1073741824) (by omega), s_i64 (n := m % 1073741824) (by omega),
    s_i64 (n := a % 1073741824 + b % 1073741824) (by omega), s_i64 (n := r % 1073741824 + m % 1073741824) (by omega)]
  have ha : 0 ≤ a % 1073741824 ∧ a % 1073741824 ≤ 1073741823 := by omega
  have hb : 0 ≤ b % 1073741824 ∧ b % 1073741824 ≤ 1073741823 := by omega
  have hq : 0 ≤ r % 1073741824 ∧ r % 1073741824 ≤ 1073741823 := by omega
  have hm : 0 ≤ m % 1073741824 ∧ m % 1073741824 ≤ 1073741823 := by omega
  generalize a % 1073741824 = a at *
  generalize b % 1073741824 = b at *
  generalize r % 1073741824 = r at *
  generalize m % 1073741824 = m at *
  intro n0 e0 m0 n1 e1 m1 n2 e2 m2 n3 e3 m3
  unfold GrownR I64R gro at *
  rw [Int.add_mul] at m2
  rw [Int.mul_add] at m3
  have p1 := Int.mul_nonneg ha.1 hq.1
  have p2 := Int.mul_nonneg hb.1 hq.1
  have p3 := Int.mul_nonneg ha.1 hm.1
  have q1 : a * r ≤ 1073741823 * 1073741823 := Int.mul_le_mul ha.2 hq.2 hq.1 (by omega)
  have q2 : b * r ≤ 1073741823 * 1073741823 := Int.mul_le_mul hb.2 hq.2 hq.1 (by omega)
  have q3 : a * m ≤ 1073741823 * 1073741823 := Int.mul_le_mul ha.2 hm.2 hm.1 (by omega)
  generalize a * r = x at *
  generalize b * r = y at *
  generalize a * m = z at *
  obtain ⟨rfl, h0⟩ : e0 = 0 ∧ n0 = (x + 999999999) / 1000000000 := by omega
  obtain ⟨rfl, h1⟩ : e1 = 0 ∧ n1 = (y + 999999999) / 1000000000 := by omega
  obtain ⟨rfl, h2⟩ : e2 = 0 ∧ n2 = (x + y + 999999999) / 1000000000 := by omega
  obtain ⟨rfl, h3⟩ : e3 = 0 ∧ n3 = (x + z + 999999999) / 1000000000 := by omega
  clear m0 m1 m2 m3
  rw [s_i64 (n := n0 + n1) (by omega), s_i64 (n := n2 + 1) (by omega)]
  refine bsT rfl (bsT rfl (bsT rfl (bsT rfl (bsT (by simp; omega) (bsT (by simp; omega) (bsT (by simp; omega) (tru ?_)))))))
  simp; split <;> omega
end Go.Tb.W
