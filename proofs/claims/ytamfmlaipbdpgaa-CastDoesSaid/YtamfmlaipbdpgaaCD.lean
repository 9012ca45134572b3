/- Searches: small facts. -/
import Derived.Test.YtamfmlaipbdpgaaC8
set_option linter.all false
set_option maxRecDepth 100000
namespace Go.Tb.W
open Go Go.Proofs
theorem r_u8 {n : Int} (h : inK .u8 n = true) : 0 ≤ n ∧ n ≤ 255 := by simpa [inK_iff, loK, hiK] using h
theorem r_u16 {n : Int} (h : inK .u16 n = true) : 0 ≤ n ∧ n ≤ 65535 := by simpa [inK_iff, loK, hiK] using h
theorem r_u32 {n : Int} (h : inK .u32 n = true) : 0 ≤ n ∧ n ≤ 4294967295 := by simpa [inK_iff, loK, hiK] using h
theorem r_i8 {n : Int} (h : inK .i8 n = true) : -128 ≤ n ∧ n ≤ 127 := by simpa [inK_iff, loK, hiK] using h
theorem r_i64 {n : Int} (h : inK .i64 n = true) : -9223372036854775808 ≤ n ∧ n ≤ 9223372036854775807 := by simpa [inK_iff, loK, hiK] using h
abbrev IQ : Interp O := pkI pk
theorem minI_dbl {a M : Int} (h : 0 ≤ M) : minI (2 * minI a M) M = minI (2 * a) M := by unfold minI; split <;> split <;> (try split) <;> omega
theorem askS_same (s : O) (now : Int) : (askS s now).m = s.m ∧ (askS s now).w = s.w ∧ (askS s now).q = s.q ∧ (askS s now).ids = s.ids := by
  unfold askS; split <;> exact ⟨rfl, rfl, rfl, rfl⟩
theorem foundS_same {s : O} {id : Int} (h : foundE s id ≠ 0) : foundS s id = s := by unfold foundS; rw [if_neg h]
end Go.Tb.W
