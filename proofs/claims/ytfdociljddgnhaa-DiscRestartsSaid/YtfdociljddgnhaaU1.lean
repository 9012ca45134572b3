/- What the wide numbers' functions tell, of halves that are known by what they are worth. -/
import Derived.Test.YtfdociljddgnhaaW1
set_option linter.all false
set_option maxRecDepth 100000
namespace Go.Tb.W
open Go Go.Proofs
/-- h and l are the halves of x. -/
def Nm (h l x : Int) : Prop := (-9223372036854775808 ≤ h ∧ h ≤ 9223372036854775807) ∧ (0 ≤ l ∧ l ≤ 18446744073709551615) ∧ vl h l = x
def AddR (x h l e : Int) : Prop := (e = 0 ∧ Nm h l x) ∨ (e = 6 ∧ h = 0 ∧ l = 0 ∧ (x < -170141183460469231731687303715884105728 ∨ 170141183460469231731687303715884105727 < x))
def I64R (x n e : Int) : Prop := (e = 0 ∧ n = x ∧ -9223372036854775808 ≤ x ∧ x ≤ 9223372036854775807) ∨ (e = 6 ∧ n = 0 ∧ (x < -9223372036854775808 ∨ 9223372036854775807 < x))
def DivR (x y h l r e : Int) : Prop := (y < 1 ∧ h = 0 ∧ l = 0 ∧ r = 0 ∧ e = 1) ∨ (1 ≤ y ∧ Nm h l (x / y) ∧ r = x % y ∧ e = 0)
def PartR (a b y n e : Int) : Prop := (y < 1 ∧ n = 0 ∧ e = 1) ∨ (1 ≤ y ∧ I64R (a * b / y) n e)
def CmpR (x y n : Int) : Prop := (x < y ∧ n = -1) ∨ (x = y ∧ n = 0) ∨ (y < x ∧ n = 1)
def u_of (args : List AV) (K : AV → Prop) : Prop := match args with
  | [.int .i64 a] => ∀ h l, Nm h l a → K (.agg [.int .i64 h, .int .u64 l])
  | _ => False
def u_add (args : List AV) (K : AV → Prop) : Prop := match args with
  | [.agg [.int .i64 a, .int .u64 b], .agg [.int .i64 c, .int .u64 d]] => ∀ h l e, AddR (vl a b + vl c d) h l e → K (.tup [.agg [.int .i64 h, .int .u64 l], .int .i64 e])
  | _ => False
def u_sub (args : List AV) (K : AV → Prop) : Prop := match args with
  | [.agg [.int .i64 a, .int .u64 b], .agg [.int .i64 c, .int .u64 d]] => ∀ h l e, AddR (vl a b - vl c d) h l e → K (.tup [.agg [.int .i64 h, .int .u64 l], .int .i64 e])
  | _ => False
def u_int (args : List AV) (K : AV → Prop) : Prop := match args with
  | [.agg [.int .i64 a, .int .u64 b]] => ∀ n e, I64R (vl a b) n e → K (.tup [.int .i64 n, .int .i64 e])
  | _ => False
def u_times (args : List AV) (K : AV → Prop) : Prop := match args with
  | [.int .i64 a, .int .i64 b] => ∀ h l, Nm h l (a * b) → K (.agg [.int .i64 h, .int .u64 l])
  | _ => False
def u_div (args : List AV) (K : AV → Prop) : Prop := match args with
  | [.agg [.int .i64 a, .int .u64 b], .int .i64 y] => ∀ h l r e, DivR (vl a b) y h l r e → K (.tup [.agg [.int .i64 h, .int .u64 l], .int .i64 r, .int .i64 e])
  | _ => False
def u_part (args : List AV) (K : AV → Prop) : Prop := match args with
  | [.int .i64 a, .int .i64 b, .int .i64 y] => ∀ n e, PartR a b y n e → K (.tup [.int .i64 n, .int .i64 e])
  | _ => False
def u_cmp (args : List AV) (K : AV → Prop) : Prop := match args with
  | [.agg [.int .i64 a, .int .u64 b], .agg [.int .i64 c, .int .u64 d]] => ∀ n, CmpR (vl a b) (vl c d) n → K (.int .i64 n)
  | _ => False
noncomputable abbrev U : List (FuncId × Sp O) :=
  (25, .p u_of) ::
  (24, .p u_add) ::
  (33, .p u_sub) ::
  (26, .p u_int) ::
  (23, .p u_times) ::
  (22, .p u_div) ::
  (28, .p u_part) ::
  []
end Go.Tb.W
