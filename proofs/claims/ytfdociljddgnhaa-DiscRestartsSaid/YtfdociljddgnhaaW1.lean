/- The wide numbers' functions: what each one tells, in numbers. -/
import Derived.Test.YtfdociljddgnhaaM13
import Derived.Test.YtfdociljddgnhaaProg
set_option linter.all false
set_option maxRecDepth 100000
namespace Go.Tb.W

open Go Go.Proofs
abbrev O := Unit
noncomputable abbrev P : Program := Try.prog

def vl (h l : Int) : Int := h * 18446744073709551616 + l
def hi (x : Int) : Int := (x / 18446744073709551616 + 9223372036854775808) % 18446744073709551616 - 9223372036854775808
def lo (x : Int) : Int := x % 18446744073709551616
/-- A number of 128 bits. -/
def wd (x : Int) : AV := .agg [.int .i64 (hi x), .int .u64 (lo x)]
def ifB (b : Bool) (x y : Int) : Int := match b with | true => x | false => y
/-- Does a number fit into 128 bits; into 64? -/
def fit (x : Int) : Bool := decide (-170141183460469231731687303715884105728 ≤ x) && decide (x < 170141183460469231731687303715884105728)
def fit64 (x : Int) : Bool := decide (-9223372036854775808 ≤ x) && decide (x < 9223372036854775808)
def sgn (a b : Int) : Int := ifB (decide (a < b)) (-1) (ifB (decide (a = b)) 0 1)

def absI (a : Int) : Int := ifB (decide (a < 0)) (-a) a
def c_of (args : List AV) (K : AV → Prop) : Prop := match args with
  | [.int .i64 a] => K (wd a)
  | _ => False
def c_sum (args : List AV) (K : AV → Prop) : Prop := match args with
  | [.agg [.int .i64 a, .int .u64 b], .agg [.int .i64 c, .int .u64 d]] => K (wd (vl a b + vl c d))
  | _ => False
def c_less (args : List AV) (K : AV → Prop) : Prop := match args with
  | [.agg [.int .i64 a, .int .u64 b]] => K (wd (-(vl a b)))
  | _ => False
/-- A number, or that it is too great. -/
def ov (x : Int) : AV := .tup [.agg [.int .i64 (ifB (fit x) (hi x) 0), .int .u64 (ifB (fit x) (lo x) 0)], .int .i64 (ifB (fit x) 0 6)]
def c_add (args : List AV) (K : AV → Prop) : Prop := match args with
  | [.agg [.int .i64 a, .int .u64 b], .agg [.int .i64 c, .int .u64 d]] => K (ov (vl a b + vl c d))
  | _ => False
def c_sub (args : List AV) (K : AV → Prop) : Prop := match args with
  | [.agg [.int .i64 a, .int .u64 b], .agg [.int .i64 c, .int .u64 d]] => K (ov (vl a b - vl c d))
  | _ => False
def c_int (args : List AV) (K : AV → Prop) : Prop := match args with
  | [.agg [.int .i64 a, .int .u64 b]] => K (.tup [.int .i64 (ifB (fit64 (vl a b)) (vl a b) 0), .int .i64 (ifB (fit64 (vl a b)) 0 6)])
  | _ => False
def c_size (args : List AV) (K : AV → Prop) : Prop := match args with
  | [.int .i64 a] => K (.int .u64 (absI a))
  | _ => False
def c_times (args : List AV) (K : AV → Prop) : Prop := match args with
  | [.int .i64 a, .int .i64 b] => K (wd (a * b))
  | _ => False
/-- The number is taken as one of 128 bits that isn't below 0. -/
def c_parted (args : List AV) (K : AV → Prop) : Prop := match args with
  | [.agg [.int .i64 a, .int .u64 b], .int .u64 y] => must (decide (0 < y) && decide (y ≤ 9223372036854775808)) (K (.tup [wd (vl (a % 18446744073709551616) b / y), .int .u64 (vl (a % 18446744073709551616) b % y)]))
  | _ => False
def c_div (args : List AV) (K : AV → Prop) : Prop := match args with
  | [.agg [.int .i64 a, .int .u64 b], .int .i64 y] => K (.tup [.agg [.int .i64 (ifB (decide (y < 1)) 0 (hi (vl a b / y))), .int .u64 (ifB (decide (y < 1)) 0 (lo (vl a b / y)))], .int .i64 (ifB (decide (y < 1)) 0 (vl a b % y)), .int .i64 (ifB (decide (y < 1)) 1 0)])
  | _ => False
def c_part (args : List AV) (K : AV → Prop) : Prop := match args with
  | [.int .i64 a, .int .i64 b, .int .i64 y] => K (.tup [.int .i64 (ifB (decide (y < 1)) 0 (ifB (fit64 (a * b / y)) (a * b / y) 0)), .int .i64 (ifB (decide (y < 1)) 1 (ifB (fit64 (a * b / y)) 0 6))])
  | _ => False
def c_cmp (args : List AV) (K : AV → Prop) : Prop := match args with
  | [.agg [.int .i64 a, .int .u64 b], .agg [.int .i64 c, .int .u64 d]] => K (.int .i64 (sgn (vl a b) (vl c d)))
  | _ => False
def c_cmpi (args : List AV) (K : AV → Prop) : Prop := match args with
  | [.int .i64 a, .int .i64 b] => K (.int .i64 (sgn a b))
  | _ => False
def c_cmpu (args : List AV) (K : AV → Prop) : Prop := match args with
  | [.int .u64 a, .int .u64 b] => K (.int .i64 (sgn a b))
  | _ => False
def c_nani (args : List AV) (K : AV → Prop) : Prop := match args with
  | [.int .i64 a] => K (.bool false)
  | _ => False
def c_nanu (args : List AV) (K : AV → Prop) : Prop := match args with
  | [.int .u64 a] => K (.bool false)
  | _ => False
/-- The first one that isn't 0, of two. -/
def c_or (args : List AV) (hp : Tr (AO O)) (nx : Nat) (K : AV → Tr (AO O) → Nat → Prop) : Prop := match args with
  | [.sl n 0 2 2] => match Nat.blt n 16777215, hp.get n with
    | true, some (.cells 3 [.int .i64 a, .int .i64 b] 2) => K (.int .i64 (ifB (decide (a = 0)) b a)) hp nx
    | _, _ => False
  | _ => False
def c_awake (args : List AV) (K : AV → Prop) : Prop := match args with
  | [] => K (.bool true)
  | _ => False

noncomputable def j_or (a b : Int) : St O := ⟨Tr.setL [(2, .int .i64 0), (3, .int .i64 0), (6, .sl 0 0 2 2), (7, .int .i64 2), (8, .int .i64 0)] .leaf, Tr.setL [(0, .cells 3 [.int .i64 a, .int .i64 b] 2)] .leaf, 1, 18⟩
noncomputable def j_or1 (a b : Int) : St O := ⟨Tr.setL [(2, .int .i64 0), (3, .int .i64 0), (6, .sl 0 0 2 2), (7, .int .i64 2), (8, .int .i64 1)] .leaf, Tr.setL [(0, .cells 3 [.int .i64 a, .int .i64 b] 2)] .leaf, 1, 18⟩
noncomputable def j_or2 (a b : Int) : St O := ⟨Tr.setL [(2, .int .i64 0), (3, .int .i64 0), (6, .sl 0 0 2 2), (7, .int .i64 2), (8, .int .i64 2)] .leaf, Tr.setL [(0, .cells 3 [.int .i64 a, .int .i64 b] 2)] .leaf, 1, 18⟩
/-- 'parted' before a round: i more bits (less 1), what is left, the part; the number's halves, and what it is parted by. -/
noncomputable def j_parted (a b hh y i r qh ql : Int) : St O :=
  ⟨(.node (.node (.node (.node .leaf (some (.int IntKind.i64 (i))) .leaf) none .leaf) (some (.int IntKind.u64 (y))) (.node .leaf (some (.int IntKind.u64 (r))) .leaf)) none (.node (.node .leaf (some (.ptr 1 0)) .leaf) (some (.ptr 0 0)) (.node .leaf (some (.int IntKind.u64 (hh))) .leaf))),
   (.node (.node .leaf (some (.cells 56 [(.int IntKind.i64 (qh)), (.int IntKind.u64 (ql))] 2)) .leaf) (some (.cells 56 [(.int IntKind.i64 (a)), (.int IntKind.u64 (b))] 2)) .leaf), 2, 48⟩
noncomputable abbrev E0 : List (FuncId × Sp O) := []
noncomputable abbrev E1 : List (FuncId × Sp O) :=
  (25, .p c_of) ::
  (32, .p c_sum) ::
  (30, .p c_size) ::
  []
noncomputable abbrev E2 : List (FuncId × Sp O) :=
  (31, .p c_less) ::
  (26, .p c_int) ::
  (29, .p c_parted) ::
  E1
noncomputable abbrev E3 : List (FuncId × Sp O) :=
  (24, .p c_add) ::
  (33, .p c_sub) ::
  (23, .p c_times) ::
  (22, .p c_div) ::
  E2
noncomputable abbrev E4 : List (FuncId × Sp O) :=
  (28, .p c_part) ::
  E3

end Go.Tb.W
