/- The clocks' functions: what each one tells, in numbers. -/
import Derived.Test.YtfdociljddgnhaaU1
set_option linter.all false
set_option maxRecDepth 100000
namespace Go.Tb.W
open Go Go.Proofs
def mayB (r : Int) : Bool := decide (-100000000 ≤ r) && decide (r ≤ 100000000)
def c_may (args : List AV) (K : AV → Prop) : Prop := match args with
  | [.int .i64 r] => K (.bool (mayB r))
  | _ => False
def c_plus (args : List AV) (K : AV → Prop) : Prop := match args with
  | [.int .i64 a, .int .i64 b] => ∀ n e, I64R (a + b) n e → K (.tup [.int .i64 n, .int .i64 e])
  | _ => False
def c_since (args : List AV) (K : AV → Prop) : Prop := match args with
  | [.agg [.int .i64 a, .int .u64 b], .agg [.int .i64 c, .int .u64 d]] => ∀ n e, I64R (vl a b - vl c d) n e → K (.tup [.int .i64 n, .int .i64 e])
  | _ => False
def NewR (a b r f s q e : Int) : Prop := ((-100000000 ≤ r ∧ r ≤ 100000000) ∧ f = a ∧ s = b ∧ q = r ∧ e = 0) ∨ ((r < -100000000 ∨ 100000000 < r) ∧ f = 0 ∧ s = 0 ∧ q = 0 ∧ e = 3)
def c_new (args : List AV) (K : AV → Prop) : Prop := match args with
  | [.int .i64 a, .int .i64 b, .int .i64 r] => ∀ f s q e, NewR a b r f s q e → K (.tup [.agg [.int .i64 f, .int .i64 s, .int .i64 q], .int .i64 e])
  | _ => False
/-- What a clock shows, in whole numbers; what it tells, and the number of an error. -/
def shw (f s r t : Int) : Int := (t - f) * r / 1000000000 + (t - f) + s
def ReadR (f s r t n e : Int) : Prop := (t < f ∧ n = 0 ∧ e = 1) ∨ (f ≤ t ∧ 9223372036854775807 < t - f ∧ n = 0 ∧ e = 6) ∨ (f ≤ t ∧ t - f ≤ 9223372036854775807 ∧ I64R (shw f s r t) n e)
def c_read (args : List AV) (K : AV → Prop) : Prop := match args with
  | [.agg [.int .i64 f, .int .i64 s, .int .i64 r], .int .i64 t] => ∀ n e, ReadR f s r t n e → K (.tup [.int .i64 n, .int .i64 e])
  | _ => False
def ShownR (f s r t y n e : Int) : Prop := ∃ m d, ReadR f s r t m d ∧ ((d ≠ 0 ∧ n = 0 ∧ e = d) ∨ (d = 0 ∧ I64R (m + y) n e))
def c_shown (args : List AV) (K : AV → Prop) : Prop := match args with
  | [.agg [.int .i64 f, .int .i64 s, .int .i64 r], .int .i64 t, .int .i64 y] => ∀ n e, ShownR f s r t y n e → K (.tup [.int .i64 n, .int .i64 e])
  | _ => False
def StepR (f s r t y q f' s' r' e : Int) : Prop := ∃ n, ShownR f s r t y n e ∧ ((e ≠ 0 ∧ f' = 0 ∧ s' = 0 ∧ r' = 0) ∨ (e = 0 ∧ f' = t ∧ s' = n ∧ r' = q))
def TurnR (f s r t q f' s' r' e : Int) : Prop := ((q < -100000000 ∨ 100000000 < q) ∧ f' = 0 ∧ s' = 0 ∧ r' = 0 ∧ e = 3) ∨ ((-100000000 ≤ q ∧ q ≤ 100000000) ∧ StepR f s r t 0 q f' s' r' e)
def c_turn (args : List AV) (K : AV → Prop) : Prop := match args with
  | [.agg [.int .i64 f, .int .i64 s, .int .i64 r], .int .i64 t, .int .i64 q] =>
    ∀ f' s' r' e, TurnR f s r t q f' s' r' e → K (.tup [.agg [.int .i64 f', .int .i64 s', .int .i64 r'], .int .i64 e])
  | _ => False
def c_step (args : List AV) (K : AV → Prop) : Prop := match args with
  | [.agg [.int .i64 f, .int .i64 s, .int .i64 r], .int .i64 t, .int .i64 y] =>
    ∀ f' s' r' e, StepR f s r t y r f' s' r' e → K (.tup [.agg [.int .i64 f', .int .i64 s', .int .i64 r'], .int .i64 e])
  | _ => False
/-- A part of 10^9, none less. -/
def gro (s r : Int) : Int := (s * r + 999999999) / 1000000000
def GrownR (s r n e : Int) : Prop := ((s < 0 ∨ r < 0) ∧ n = 0 ∧ e = 1) ∨ (0 ≤ s ∧ 0 ≤ r ∧ I64R (gro s r) n e)
def c_grown (args : List AV) (K : AV → Prop) : Prop := match args with
  | [.int .i64 s, .int .i64 r] => ∀ n e, GrownR s r n e → K (.tup [.int .i64 n, .int .i64 e])
  | _ => False
noncomputable abbrev F3 : List (FuncId × Sp O) :=
  U
noncomputable abbrev F4 : List (FuncId × Sp O) :=
  F3
noncomputable abbrev F5 : List (FuncId × Sp O) :=
  F4
noncomputable abbrev F6 : List (FuncId × Sp O) :=
  (12, .p c_grown) ::
  F5
end Go.Tb.W
