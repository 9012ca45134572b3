/- The stamps' functions: what each one tells. -/
import Derived.Test.YtkpkhddlijokcaaD1
set_option linter.all false
set_option maxRecDepth 100000
namespace Go.Tb.W
open Go Go.Proofs
/-- d is a number of 64 bits, and as great as x but for eras. -/
def DiffR (x d : Int) : Prop := (-9223372036854775808 ≤ d ∧ d ≤ 9223372036854775807) ∧ (d - x) % 18446744073709551616 = 0
def SumR (x d : Int) : Prop := (0 ≤ d ∧ d ≤ 18446744073709551615) ∧ (d - x) % 18446744073709551616 = 0
def c_diff (args : List AV) (K : AV → Prop) : Prop := match args with
  | [.int .u64 a, .int .u64 b] => ∀ d, DiffR (a - b) d → K (.int .i64 d)
  | _ => False
def c_sadd (args : List AV) (K : AV → Prop) : Prop := match args with
  | [.int .u64 a, .int .i64 b] => ∀ d, SumR (a + b) d → K (.int .u64 d)
  | _ => False
def c_fold (args : List AV) (K : AV → Prop) : Prop := match args with
  | [.agg [.int .i64 h, .int .u64 l]] => K (.int .u64 l)
  | _ => False
def FarR (x y h l e : Int) : Prop := (x < y ∧ AddR (y - x) h l e) ∨ (y ≤ x ∧ AddR (x - y) h l e)
def c_far (args : List AV) (K : AV → Prop) : Prop := match args with
  | [.agg [.int .i64 a, .int .u64 b], .agg [.int .i64 c, .int .u64 d]] => ∀ h l e, FarR (vl a b) (vl c d) h l e → K (.tup [.agg [.int .i64 h, .int .u64 l], .int .i64 e])
  | _ => False
/-- Of two numbers: which one is nearer to p (0 if one is an era away; of two as near the greater one). -/
def NearerR (p x y n : Int) : Prop := ((x - p < -170141183460469231731687303715884105727 ∨ 170141183460469231731687303715884105727 < x - p ∨ y - p < -170141183460469231731687303715884105727 ∨ 170141183460469231731687303715884105727 < y - p) ∧ n = 0) ∨
  (((x - p).natAbs : Int) = ((y - p).natAbs : Int) ∧ CmpR y x n) ∨ (((x - p).natAbs : Int) ≠ ((y - p).natAbs : Int) ∧ CmpR ((x - p).natAbs : Int) ((y - p).natAbs : Int) n)
def c_nearer (args : List AV) (K : AV → Prop) : Prop := match args with
  | [.agg [.int .i64 ph, .int .u64 pl], .agg [.int .i64 a, .int .u64 b], .agg [.int .i64 c, .int .u64 d]] => ∀ n, NearerR (vl ph pl) (vl a b) (vl c d) n → K (.int .i64 n)
  | _ => False
def ShortR (span n e : Int) : Prop := ((span < 0 ∨ 281474976645120 < span) ∧ n = 0 ∧ e = 3) ∨ (0 ≤ span ∧ span ≤ 281474976645120 ∧ n = (span + 65535) / 65536 ∧ e = 0)
def c_short (args : List AV) (K : AV → Prop) : Prop := match args with
  | [.int .i64 s] => ∀ n e, ShortR s n e → K (.tup [.int .u32 n, .int .i64 e])
  | _ => False
def c_long (args : List AV) (K : AV → Prop) : Prop := match args with
  | [.int .u32 n] => K (.int .i64 (n * 65536))
  | _ => False
def c_micros (args : List AV) (K : AV → Prop) : Prop := match args with
  | [.int .i64 s] => K (.int .i64 (s * 1000000 / 4294967296))
  | _ => False
def c_ticks (args : List AV) (K : AV → Prop) : Prop := match args with
  | [.int .i64 s] => ∀ n e, I64R (s * 4294967296 / 1000000) n e → K (.tup [.int .i64 n, .int .i64 e])
  | _ => False
def NearR (s h l h' l' e : Int) : Prop := ∃ d, (-9223372036854775808 < d ∧ d ≤ 9223372036854775808) ∧ (d - (s - l)) % 18446744073709551616 = 0 ∧ AddR (vl h l + d) h' l' e
def c_near (args : List AV) (K : AV → Prop) : Prop := match args with
  | [.int .u64 s, .agg [.int .i64 h, .int .u64 l]] => ∀ h' l' e, NearR s h l h' l' e → K (.tup [.agg [.int .i64 h', .int .u64 l'], .int .i64 e])
  | _ => False
noncomputable abbrev S0 : List (FuncId × Sp O) :=
  (19, .p c_diff) ::
  (21, .p c_sadd) ::
  (22, .p c_fold) ::
  (54, .p c_far) ::
  (24, .p c_short) ::
  (28, .p c_long) ::
  (29, .p c_micros) ::
  (27, .p c_ticks) ::
  F6
noncomputable abbrev S1 : List (FuncId × Sp O) :=
  (35, .p c_nearer) ::
  S0
def nf (p q : Int) : AV := .fn (.func 35) [.agg [.int .i64 p, .int .u64 q]] []
abbrev two (a b c d : Int) : AO O := .cells 25 [.int .i64 a, .int .u64 b, .int .i64 c, .int .u64 d] 4
noncomputable abbrev j_is (p q a b c d i : Int) : St O := ⟨Tr.setL [(0, .sl 0 0 2 2), (1, .int .i64 0), (2, .int .i64 2), (3, .fn (.func 35) [.agg [.int .i64 p, .int .u64 q]] []), (8, .int .i64 i)] .leaf, Tr.setL [(0, two a b c d)] .leaf, 1, 53⟩
def c_blen (args : List AV) (K : AV → Prop) : Prop := match args with
  | [.int .u64 2] => K (.int .i64 2)
  | _ => False
noncomputable abbrev S2 : List (FuncId × Sp O) :=
  (71, .p c_blen) ::
  S1
noncomputable abbrev j_in (p q a b c d j : Int) : St O := ⟨Tr.setL [(0, .sl 0 0 2 2), (1, .int .i64 0), (2, .int .i64 2), (3, .fn (.func 35) [.agg [.int .i64 p, .int .u64 q]] []), (8, .int .i64 1), (9, .int .i64 j)] .leaf, Tr.setL [(0, two a b c d)] .leaf, 1, 53⟩
def c_isort (args : List AV) (hp : Tr (AO O)) (nx : Nat) (K : AV → Tr (AO O) → Nat → Prop) : Prop := match args with
  | [.sl n 0 2 2, .int .i64 0, .int .i64 2, .fn (.func 35) [.agg [.int .i64 p, .int .u64 q]] []] => match Nat.blt n 16777215, hp.get n with
    | true, some (.cells 25 [.int .i64 a, .int .u64 b, .int .i64 c, .int .u64 d] 4) =>
      ∀ r, NearerR (vl p q) (vl c d) (vl a b) r → (r < 0 → K (.tup []) (hp.set n (some (two c d a b))) nx) ∧ (0 ≤ r → K (.tup []) hp nx)
    | _, _ => False
  | _ => False
def c_pdq (args : List AV) (hp : Tr (AO O)) (nx : Nat) (K : AV → Tr (AO O) → Nat → Prop) : Prop := match args with
  | [.sl n 0 2 2, .int .i64 0, .int .i64 2, .int .i64 2, .fn (.func 35) [.agg [.int .i64 p, .int .u64 q]] []] => match Nat.blt n 16777215, hp.get n with
    | true, some (.cells 25 [.int .i64 a, .int .u64 b, .int .i64 c, .int .u64 d] 4) =>
      ∀ r, NearerR (vl p q) (vl c d) (vl a b) r → (r < 0 → K (.tup []) (hp.set n (some (two c d a b))) nx) ∧ (0 ≤ r → K (.tup []) hp nx)
    | _, _ => False
  | _ => False
def c_sortf (args : List AV) (hp : Tr (AO O)) (nx : Nat) (K : AV → Tr (AO O) → Nat → Prop) : Prop := match args with
  | [.sl n 0 2 2, .fn (.func 35) [.agg [.int .i64 p, .int .u64 q]] []] => match Nat.blt n 16777215, hp.get n with
    | true, some (.cells 25 [.int .i64 a, .int .u64 b, .int .i64 c, .int .u64 d] 4) =>
      ∀ r, NearerR (vl p q) (vl c d) (vl a b) r → (r < 0 → K (.tup []) (hp.set n (some (two c d a b))) nx) ∧ (0 ≤ r → K (.tup []) hp nx)
    | _, _ => False
  | _ => False
noncomputable abbrev j_pdq (p q a b c d : Int) : St O := ⟨Tr.setL [(0, .sl 0 0 2 2), (1, .int .i64 0), (2, .int .i64 2), (3, .int .i64 2), (4, .fn (.func 35) [.agg [.int .i64 p, .int .u64 q]] []), (10, .bool true), (11, .bool true)] .leaf, Tr.setL [(0, two a b c d)] .leaf, 1, 148⟩
noncomputable abbrev S3 : List (FuncId × Sp O) :=
  (53, .p c_blen) ::
  (62, .h c_isort) ::
  S2
noncomputable abbrev S4 : List (FuncId × Sp O) :=
  (52, .h c_pdq) ::
  S3
noncomputable abbrev S5 : List (FuncId × Sp O) :=
  (34, .h c_sortf) ::
  S4
noncomputable abbrev S6 : List (FuncId × Sp O) :=
  (12, .p c_near) ::
  S5
noncomputable abbrev S7 : List (FuncId × Sp O) :=
  (11, .p c_awake) ::
  S6
end Go.Tb.W
