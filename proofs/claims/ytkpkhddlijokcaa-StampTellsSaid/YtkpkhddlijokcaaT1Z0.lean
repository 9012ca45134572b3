/- Texts of this proof, run together. -/
import Derived.Test.YtkpkhddlijokcaaM13
import Derived.Test.YtkpkhddlijokcaaProg
import Derived.Test.YtkpkhddlijokcaaM19
/- The wide numbers' functions: what each one tells, in numbers. -/
set_option linter.all false
set_option maxRecDepth 100000
namespace Go.Tb.W

open Go Go.Proofs
abbrev O := Unit
noncomputable abbrev P : Program := Try.prog

def vl (h l : Int) : Int := h * 18446744073709551616 + l
def hi (x : Int) : Int := (x / 18446744073709551616 + 9223372036854775808) % 18446744073709551616 - 9223372036854775808
def lo (x : Int) : Int := x % 18446744073709551616
/-- A number of 128 bits. -/
def wd (x : Int) : AV := .agg [.int .i64 (hi x), .int .u64 (lo x)]
def ifB (b : Bool) (x y : Int) : Int := match b with | true => x | false => y
/-- Does a number fit into 128 bits; into 64? -/
def fit (x : Int) : Bool := decide (-170141183460469231731687303715884105728 ≤ x) && decide (x < 170141183460469231731687303715884105728)
def fit64 (x : Int) : Bool := decide (-9223372036854775808 ≤ x) && decide (x < 9223372036854775808)
def sgn (a b : Int) : Int := ifB (decide (a < b)) (-1) (ifB (decide (a = b)) 0 1)

def absI (a : Int) : Int := ifB (decide (a < 0)) (-a) a
def c_of (args : List AV) (K : AV → Prop) : Prop := match args with
  | [.int .i64 a] => K (wd a)
  | _ => False
def c_sum (args : List AV) (K : AV → Prop) : Prop := match args with
  | [.agg [.int .i64 a, .int .u64 b], .agg [.int .i64 c, .int .u64 d]] => K (wd (vl a b + vl c d))
  | _ => False
def c_less (args : List AV) (K : AV → Prop) : Prop := match args with
  | [.agg [.int .i64 a, .int .u64 b]] => K (wd (-(vl a b)))
  | _ => False
/-- A number, or that it is too great. -/
def ov (x : Int) : AV := .tup [.agg [.int .i64 (ifB (fit x) (hi x) 0), .int .u64 (ifB (fit x) (lo x) 0)], .int .i64 (ifB (fit x) 0 6)]
def c_add (args : List AV) (K : AV → Prop) : Prop := match args with
  | [.agg [.int .i64 a, .int .u64 b], .agg [.int .i64 c, .int .u64 d]] => K (ov (vl a b + vl c d))
  | _ => False
def c_sub (args : List AV) (K : AV → Prop) : Prop := match args with
  | [.agg [.int .i64 a, .int .u64 b], .agg [.int .i64 c, .int .u64 d]] => K (ov (vl a b - vl c d))
  | _ => False
def c_int (args : List AV) (K : AV → Prop) : Prop := match args with
  | [.agg [.int .i64 a, .int .u64 b]] => K (.tup [.int .i64 (ifB (fit64 (vl a b)) (vl a b) 0), .int .i64 (ifB (fit64 (vl a b)) 0 6)])
  | _ => False
def c_size (args : List AV) (K : AV → Prop) : Prop := match args with
  | [.int .i64 a] => K (.int .u64 (absI a))
  | _ => False
def c_times (args : List AV) (K : AV → Prop) : Prop := match args with
  | [.int .i64 a, .int .i64 b] => K (wd (a * b))
  | _ => False
/-- The number is taken as one of 128 bits that isn't below 0. -/
def c_parted (args : List AV) (K : AV → Prop) : Prop := match args with
  | [.agg [.int .i64 a, .int .u64 b], .int .u64 y] => must (decide (0 < y) && decide (y ≤ 9223372036854775808)) (K (.tup [wd (vl (a % 18446744073709551616) b / y), .int .u64 (vl (a % 18446744073709551616) b % y)]))
  | _ => False
def c_div (args : List AV) (K : AV → Prop) : Prop := match args with
  | [.agg [.int .i64 a, .int .u64 b], .int .i64 y] => K (.tup [.agg [.int .i64 (ifB (decide (y < 1)) 0 (hi (vl a b / y))), .int .u64 (ifB (decide (y < 1)) 0 (lo (vl a b / y)))], .int .i64 (ifB (decide (y < 1)) 0 (vl a b % y)), .int .i64 (ifB (decide (y < 1)) 1 0)])
  | _ => False
def c_part (args : List AV) (K : AV → Prop) : Prop := match args with
  | [.int .i64 a, .int .i64 b, .int .i64 y] => K (.tup [.int .i64 (ifB (decide (y < 1)) 0 (ifB (fit64 (a * b / y)) (a * b / y) 0)), .int .i64 (ifB (decide (y < 1)) 1 (ifB (fit64 (a * b / y)) 0 6))])
  | _ => False
def c_cmp (args : List AV) (K : AV → Prop) : Prop := match args with
  | [.agg [.int .i64 a, .int .u64 b], .agg [.int .i64 c, .int .u64 d]] => K (.int .i64 (sgn (vl a b) (vl c d)))
  | _ => False
def c_cmpi (args : List AV) (K : AV → Prop) : Prop := match args with
  | [.int .i64 a, .int .i64 b] => K (.int .i64 (sgn a b))
  | _ => False
def c_cmpu (args : List AV) (K : AV → Prop) : Prop := match args with
  | [.int .u64 a, .int .u64 b] => K (.int .i64 (sgn a b))
  | _ => False
def c_nani (args : List AV) (K : AV → Prop) : Prop := match args with
  | [.int .i64 a] => K (.bool false)
  | _ => False
def c_nanu (args : List AV) (K : AV → Prop) : Prop := match args with
  | [.int .u64 a] => K (.bool false)
  | _ => False
/-- The first one that isn't 0, of two. -/
def c_or (args : List AV) (hp : Tr (AO O)) (nx : Nat) (K : AV → Tr (AO O) → Nat → Prop) : Prop := match args with
  | [.sl n 0 2 2] => match Nat.blt n 16777215, hp.get n with
    | true, some (.cells 3 [.int .i64 a, .int .i64 b] 2) => K (.int .i64 (ifB (decide (a = 0)) b a)) hp nx
    | _, _ => False
  | _ => False
def c_awake (args : List AV) (K : AV → Prop) : Prop := match args with
  | [] => K (.bool true)
  | _ => False

noncomputable def j_or (a b : Int) : St O := ⟨Tr.setL [(2, .int .i64 0), (3, .int .i64 0), (6, .sl 0 0 2 2), (7, .int .i64 2), (8, .int .i64 0)] .leaf, Tr.setL [(0, .cells 3 [.int .i64 a, .int .i64 b] 2)] .leaf, 1, 18⟩
noncomputable def j_or1 (a b : Int) : St O := ⟨Tr.setL [(2, .int .i64 0), (3, .int .i64 0), (6, .sl 0 0 2 2), (7, .int .i64 2), (8, .int .i64 1)] .leaf, Tr.setL [(0, .cells 3 [.int .i64 a, .int .i64 b] 2)] .leaf, 1, 18⟩
noncomputable def j_or2 (a b : Int) : St O := ⟨Tr.setL [(2, .int .i64 0), (3, .int .i64 0), (6, .sl 0 0 2 2), (7, .int .i64 2), (8, .int .i64 2)] .leaf, Tr.setL [(0, .cells 3 [.int .i64 a, .int .i64 b] 2)] .leaf, 1, 18⟩
/-- 'parted' before a round: i more bits (less 1), what is left, the part; the number's halves, and what it is parted by. -/
noncomputable def j_parted (a b hh y i r qh ql : Int) : St O :=
  ⟨(.node (.node (.node (.node .leaf (some (.int IntKind.i64 (i))) .leaf) none .leaf) (some (.int IntKind.u64 (y))) (.node .leaf (some (.int IntKind.u64 (r))) .leaf)) none (.node (.node .leaf (some (.ptr 1 0)) .leaf) (some (.ptr 0 0)) (.node .leaf (some (.int IntKind.u64 (hh))) .leaf))),
   (.node (.node .leaf (some (.cells 25 [(.int IntKind.i64 (qh)), (.int IntKind.u64 (ql))] 2)) .leaf) (some (.cells 25 [(.int IntKind.i64 (a)), (.int IntKind.u64 (b))] 2)) .leaf), 2, 48⟩
noncomputable abbrev E0 : List (FuncId × Sp O) := []
noncomputable abbrev E1 : List (FuncId × Sp O) :=
  (31, .p c_of) ::
  (47, .p c_sum) ::
  (73, .p c_size) ::
  (60, .p c_nani) ::
  (61, .p c_nanu) ::
  (48, .h c_or) ::
  []
noncomputable abbrev E2 : List (FuncId × Sp O) :=
  (51, .p c_less) ::
  (43, .p c_int) ::
  (49, .p c_cmpi) ::
  (50, .p c_cmpu) ::
  (72, .p c_parted) ::
  E1
noncomputable abbrev E3 : List (FuncId × Sp O) :=
  (30, .p c_add) ::
  (33, .p c_sub) ::
  (32, .p c_cmp) ::
  (59, .p c_times) ::
  (58, .p c_div) ::
  E2
noncomputable abbrev E4 : List (FuncId × Sp O) :=
  (46, .p c_part) ::
  E3

end Go.Tb.W

/- What the functions' bodies come to: each line is what the abstract machine makes of one function, or of one round of a loop, over the contracts of the functions that it calls (the text was printed by a program of mine; Lean proves it again). -/
set_option linter.all false
set_option maxRecDepth 100000
namespace Go.Tb
open Go Go.Proofs
namespace W
theorem t_of (I : Interp O) (K : AV → Prop) (a : Int) : abody I P (Gm E0) (adraw P (Gm E0)) 0 Try.f31 [.int .i64 a] .leaf 0 (fun v _ _ => K v) =
  (K (.agg [(.int IntKind.i64 (a.fdiv (2 ^ min (Int.toNat 63) IntKind.i64.bits))), (.int IntKind.u64 (IntKind.u64.wrap a))])) := by kernel_rfl
theorem t_sum (I : Interp O) (K : AV → Prop) (a b c d : Int) : abody I P (Gm E0) (adraw P (Gm E0)) 0 Try.f47 [.agg [.int .i64 a, .int .u64 b], .agg [.int .i64 c, .int .u64 d]] .leaf 0 (fun v _ _ => K v) =
  (bsplit (decide (IntKind.u64.wrap (b + d) < b)) fun | true => (K (.agg [(.int IntKind.i64 (IntKind.i64.wrap (IntKind.i64.wrap (a + c) + 1))), (.int IntKind.u64 (IntKind.u64.wrap (b + d)))])) | false => (K (.agg [(.int IntKind.i64 (IntKind.i64.wrap (IntKind.i64.wrap (a + c) + 0))), (.int IntKind.u64 (IntKind.u64.wrap (b + d)))]))) := by kernel_rfl
theorem t_size (I : Interp O) (K : AV → Prop) (a : Int) : abody I P (Gm E0) (adraw P (Gm E0)) 0 Try.f73 [.int .i64 a] .leaf 0 (fun v _ _ => K v) =
  (bsplit (decide (a < 0)) fun | true => (K (.int IntKind.u64 (IntKind.u64.wrap (0 - IntKind.u64.wrap a)))) | false => (K (.int IntKind.u64 (IntKind.u64.wrap a)))) := by kernel_rfl
theorem t_nani (I : Interp O) (K : AV → Prop) (a : Int) : abody I P (Gm E0) (adraw P (Gm E0)) 0 Try.f60 [.int .i64 a] .leaf 0 (fun v _ _ => K v) =
  (K (.bool (a != a))) := by kernel_rfl
theorem t_nanu (I : Interp O) (K : AV → Prop) (a : Int) : abody I P (Gm E0) (adraw P (Gm E0)) 0 Try.f61 [.int .u64 a] .leaf 0 (fun v _ _ => K v) =
  (K (.bool (a != a))) := by kernel_rfl
theorem t_or (I : Interp O) (K : AV → Tr (AO O) → Nat → Prop) (a b : Int) : abody I P (Gm E0) (adraw P (Gm E0)) 1 Try.f48 [.sl 0 0 2 2] (Tr.ofList 0 [.cells 3 [.int .i64 a, .int .i64 b] 2] .leaf) 1 K =
  (ALoop I 1 (cd Try.f48 [true, true, false, true, false, false]) (acode I P (Gm E0) (adraw P (Gm E0)) 1 (cd Try.f48 [true, true, false, true, false, false])) (ablock 0 (athen (cd Try.f48 [true, true, true]) (fun s => acode I P (Gm E0) (adraw P (Gm E0)) 1 (cd Try.f48 [true, true, true]) s (kret P Try.f48 (K))) (kret P Try.f48 (K)))) ⟨(.node (.node (.node (.node .leaf (some (.int IntKind.i64 (2 : Int))) .leaf) (some (.int IntKind.i64 (0 : Int))) .leaf) none .leaf) (some (.sl 0 0 2 2)) (.node (.node (.node .leaf (some (.int IntKind.i64 (0 : Int))) .leaf) none .leaf) (some (.int IntKind.i64 (0 : Int))) (.node .leaf (some (.sl 0 0 2 2)) .leaf))), (.node .leaf (some (.cells 3 [(.int IntKind.i64 (a)), (.int IntKind.i64 (b))] 2)) .leaf), 1, 18⟩) := by kernel_rfl
theorem t_less (I : Interp O) (K : AV → Prop) (a b : Int) : abody I P (Gm E1) (adraw P (Gm E1)) 0 Try.f51 [.agg [.int .i64 a, .int .u64 b]] .leaf 0 (fun v _ _ => K v) =
  (K (.agg [(.int IntKind.i64 (hi (vl (bits BinOp.xor IntKind.i64 (if IntKind.i64.signed = true then -1 else IntKind.i64.max) a) (bits BinOp.xor IntKind.u64 (if IntKind.u64.signed = true then -1 else IntKind.u64.max) b) + vl 0 1))), (.int IntKind.u64 (lo (vl (bits BinOp.xor IntKind.i64 (if IntKind.i64.signed = true then -1 else IntKind.i64.max) a) (bits BinOp.xor IntKind.u64 (if IntKind.u64.signed = true then -1 else IntKind.u64.max) b) + vl 0 1)))])) := by kernel_rfl
theorem t_int (I : Interp O) (K : AV → Prop) (a b : Int) : abody I P (Gm E1) (adraw P (Gm E1)) 0 Try.f43 [.agg [.int .i64 a, .int .u64 b]] .leaf 0 (fun v _ _ => K v) =
  (bsplit (!(hi (IntKind.i64.wrap b) == a && (lo (IntKind.i64.wrap b) == b && true))) fun | true => (K (.tup [(.int IntKind.i64 (0 : Int)), (.int IntKind.i64 (6 : Int))])) | false => (K (.tup [(.int IntKind.i64 (IntKind.i64.wrap b)), (.int IntKind.i64 (0 : Int))]))) := by kernel_rfl
theorem t_cmpi (I : Interp O) (K : AV → Prop) (a b : Int) : abody I P (Gm E1) (adraw P (Gm E1)) 0 Try.f49 [.int .i64 a, .int .i64 b] .leaf 0 (fun v _ _ => K v) =
  (bsplit (decide (a < b)) fun | true => (K (.int IntKind.i64 (-1 : Int))) | false => (bsplit (decide (a > b)) fun | true => (K (.int IntKind.i64 (1 : Int))) | false => (K (.int IntKind.i64 (0 : Int))))) := by kernel_rfl
theorem t_cmpu (I : Interp O) (K : AV → Prop) (a b : Int) : abody I P (Gm E1) (adraw P (Gm E1)) 0 Try.f50 [.int .u64 a, .int .u64 b] .leaf 0 (fun v _ _ => K v) =
  (bsplit (decide (a < b)) fun | true => (K (.int IntKind.i64 (-1 : Int))) | false => (bsplit (decide (a > b)) fun | true => (K (.int IntKind.i64 (1 : Int))) | false => (K (.int IntKind.i64 (0 : Int))))) := by kernel_rfl
theorem t_parted (I : Interp O) (K : AV → Prop) (a b y : Int) : abody I P (Gm E1) (adraw P (Gm E1)) 0 Try.f72 [.agg [.int .i64 a, .int .u64 b], .int .u64 y] .leaf 0 (fun v _ _ => K v) =
  (ALoop I 0 (cd Try.f72 [true, false, true, true, false, true, false, false]) (acode I P (Gm E1) (adraw P (Gm E1)) 0 (cd Try.f72 [true, false, true, true, false, true, false, false])) (ablock 0 (athen (cd Try.f72 [true, false, true, true, true]) (fun s => acode I P (Gm E1) (adraw P (Gm E1)) 0 (cd Try.f72 [true, false, true, true, true]) s (kret P Try.f72 (fun v x x_1 => K v))) (kret P Try.f72 (fun v x x_1 => K v)))) ⟨(.node (.node (.node (.node .leaf (some (.int IntKind.i64 (127 : Int))) .leaf) none (.node .leaf (some (.int IntKind.u64 (IntKind.u64.wrap a))) .leaf)) (some (.int IntKind.u64 (y))) (.node (.node .leaf (some (.ptr 0 0)) .leaf) (some (.int IntKind.u64 (0 : Int))) .leaf)) (some (.agg [(.int IntKind.i64 (a)), (.int IntKind.u64 (b))])) (.node (.node .leaf (some (.ptr 1 0)) .leaf) (some (.ptr 0 0)) (.node (.node .leaf (some (.int IntKind.i64 (a))) .leaf) (some (.int IntKind.u64 (IntKind.u64.wrap a))) .leaf))), (.node (.node .leaf (some (.cells 25 [(.int IntKind.i64 (0 : Int)), (.int IntKind.u64 (0 : Int))] 2)) .leaf) (some (.cells 25 [(.int IntKind.i64 (a)), (.int IntKind.u64 (b))] 2)) .leaf), 2, 48⟩) := by kernel_rfl
theorem t_add (I : Interp O) (K : AV → Prop) (a b c d : Int) : abody I P (Gm E2) (adraw P (Gm E2)) 0 Try.f30 [.agg [.int .i64 a, .int .u64 b], .agg [.int .i64 c, .int .u64 d]] .leaf 0 (fun v _ _ => K v) =
  (bsplit (decide (a < 0) == decide (c < 0)) fun | true => (bsplit (!decide (hi (vl a b + vl c d) < 0) == decide (a < 0)) fun | true => (K (.tup [(.agg [(.int IntKind.i64 (0 : Int)), (.int IntKind.u64 (0 : Int))]), (.int IntKind.i64 (6 : Int))])) | false => (K (.tup [(.agg [(.int IntKind.i64 (hi (vl a b + vl c d))), (.int IntKind.u64 (lo (vl a b + vl c d)))]), (.int IntKind.i64 (0 : Int))]))) | false => (K (.tup [(.agg [(.int IntKind.i64 (hi (vl a b + vl c d))), (.int IntKind.u64 (lo (vl a b + vl c d)))]), (.int IntKind.i64 (0 : Int))]))) := by kernel_rfl
theorem t_sub (I : Interp O) (K : AV → Prop) (a b c d : Int) : abody I P (Gm E2) (adraw P (Gm E2)) 0 Try.f33 [.agg [.int .i64 a, .int .u64 b], .agg [.int .i64 c, .int .u64 d]] .leaf 0 (fun v _ _ => K v) =
  (bsplit (!decide (a < 0) == decide (c < 0)) fun | true => (bsplit (!decide (hi (vl a b + vl (hi (-vl c d)) (lo (-vl c d))) < 0) == decide (a < 0)) fun | true => (K (.tup [(.agg [(.int IntKind.i64 (0 : Int)), (.int IntKind.u64 (0 : Int))]), (.int IntKind.i64 (6 : Int))])) | false => (K (.tup [(.agg [(.int IntKind.i64 (hi (vl a b + vl (hi (-vl c d)) (lo (-vl c d))))), (.int IntKind.u64 (lo (vl a b + vl (hi (-vl c d)) (lo (-vl c d)))))]), (.int IntKind.i64 (0 : Int))]))) | false => (K (.tup [(.agg [(.int IntKind.i64 (hi (vl a b + vl (hi (-vl c d)) (lo (-vl c d))))), (.int IntKind.u64 (lo (vl a b + vl (hi (-vl c d)) (lo (-vl c d)))))]), (.int IntKind.i64 (0 : Int))]))) := by kernel_rfl
theorem t_cmp (I : Interp O) (K : AV → Prop) (a b c d : Int) : abody I P (Gm E2) (adraw P (Gm E2)) 0 Try.f32 [.agg [.int .i64 a, .int .u64 b], .agg [.int .i64 c, .int .u64 d]] .leaf 0 (fun v _ _ => K v) =
  (K (.int IntKind.i64 (ifB (decide (sgn a c = 0)) (sgn b d) (sgn a c)))) := by kernel_rfl
theorem t_times (I : Interp O) (K : AV → Prop) (a b : Int) : abody I P (Gm E2) (adraw P (Gm E2)) 0 Try.f59 [.int .i64 a, .int .i64 b] .leaf 0 (fun v _ _ => K v) =
  (bsplit (!decide (a < 0) == decide (b < 0)) fun | true => (K (.agg [(.int IntKind.i64 (hi (-vl (IntKind.i64.wrap (IntKind.u64.wrap (IntKind.u64.wrap (IntKind.u64.wrap ((absI a).fdiv (2 ^ min (Int.toNat 32) IntKind.u64.bits) * (absI b).fdiv (2 ^ min (Int.toNat 32) IntKind.u64.bits)) + (IntKind.u64.wrap (IntKind.u64.wrap ((absI a).fdiv (2 ^ min (Int.toNat 32) IntKind.u64.bits) * bits BinOp.and IntKind.u64 (absI b) 4294967295) + (IntKind.u64.wrap (bits BinOp.and IntKind.u64 (absI a) 4294967295 * bits BinOp.and IntKind.u64 (absI b) 4294967295)).fdiv (2 ^ min (Int.toNat 32) IntKind.u64.bits))).fdiv (2 ^ min (Int.toNat 32) IntKind.u64.bits)) + (IntKind.u64.wrap (IntKind.u64.wrap (bits BinOp.and IntKind.u64 (absI a) 4294967295 * (absI b).fdiv (2 ^ min (Int.toNat 32) IntKind.u64.bits)) + bits BinOp.and IntKind.u64 (IntKind.u64.wrap (IntKind.u64.wrap ((absI a).fdiv (2 ^ min (Int.toNat 32) IntKind.u64.bits) * bits BinOp.and IntKind.u64 (absI b) 4294967295) + (IntKind.u64.wrap (bits BinOp.and IntKind.u64 (absI a) 4294967295 * bits BinOp.and IntKind.u64 (absI b) 4294967295)).fdiv (2 ^ min (Int.toNat 32) IntKind.u64.bits))) 4294967295)).fdiv (2 ^ min (Int.toNat 32) IntKind.u64.bits)))) (bits BinOp.or IntKind.u64 (IntKind.u64.wrap (IntKind.u64.wrap (IntKind.u64.wrap (bits BinOp.and IntKind.u64 (absI a) 4294967295 * (absI b).fdiv (2 ^ min (Int.toNat 32) IntKind.u64.bits)) + bits BinOp.and IntKind.u64 (IntKind.u64.wrap (IntKind.u64.wrap ((absI a).fdiv (2 ^ min (Int.toNat 32) IntKind.u64.bits) * bits BinOp.and IntKind.u64 (absI b) 4294967295) + (IntKind.u64.wrap (bits BinOp.and IntKind.u64 (absI a) 4294967295 * bits BinOp.and IntKind.u64 (absI b) 4294967295)).fdiv (2 ^ min (Int.toNat 32) IntKind.u64.bits))) 4294967295) * 2 ^ min (Int.toNat 32) IntKind.u64.bits)) (bits BinOp.and IntKind.u64 (IntKind.u64.wrap (bits BinOp.and IntKind.u64 (absI a) 4294967295 * bits BinOp.and IntKind.u64 (absI b) 4294967295)) 4294967295))))), (.int IntKind.u64 (lo (-vl (IntKind.i64.wrap (IntKind.u64.wrap (IntKind.u64.wrap (IntKind.u64.wrap ((absI a).fdiv (2 ^ min (Int.toNat 32) IntKind.u64.bits) * (absI b).fdiv (2 ^ min (Int.toNat 32) IntKind.u64.bits)) + (IntKind.u64.wrap (IntKind.u64.wrap ((absI a).fdiv (2 ^ min (Int.toNat 32) IntKind.u64.bits) * bits BinOp.and IntKind.u64 (absI b) 4294967295) + (IntKind.u64.wrap (bits BinOp.and IntKind.u64 (absI a) 4294967295 * bits BinOp.and IntKind.u64 (absI b) 4294967295)).fdiv (2 ^ min (Int.toNat 32) IntKind.u64.bits))).fdiv (2 ^ min (Int.toNat 32) IntKind.u64.bits)) + (IntKind.u64.wrap (IntKind.u64.wrap (bits BinOp.and IntKind.u64 (absI a) 4294967295 * (absI b).fdiv (2 ^ min (Int.toNat 32) IntKind.u64.bits)) + bits BinOp.and IntKind.u64 (IntKind.u64.wrap (IntKind.u64.wrap ((absI a).fdiv (2 ^ min (Int.toNat 32) IntKind.u64.bits) * bits BinOp.and IntKind.u64 (absI b) 4294967295) + (IntKind.u64.wrap (bits BinOp.and IntKind.u64 (absI a) 4294967295 * bits BinOp.and IntKind.u64 (absI b) 4294967295)).fdiv (2 ^ min (Int.toNat 32) IntKind.u64.bits))) 4294967295)).fdiv (2 ^ min (Int.toNat 32) IntKind.u64.bits)))) (bits BinOp.or IntKind.u64 (IntKind.u64.wrap (IntKind.u64.wrap (IntKind.u64.wrap (bits BinOp.and IntKind.u64 (absI a) 4294967295 * (absI b).fdiv (2 ^ min (Int.toNat 32) IntKind.u64.bits)) + bits BinOp.and IntKind.u64 (IntKind.u64.wrap (IntKind.u64.wrap ((absI a).fdiv (2 ^ min (Int.toNat 32) IntKind.u64.bits) * bits BinOp.and IntKind.u64 (absI b) 4294967295) + (IntKind.u64.wrap (bits BinOp.and IntKind.u64 (absI a) 4294967295 * bits BinOp.and IntKind.u64 (absI b) 4294967295)).fdiv (2 ^ min (Int.toNat 32) IntKind.u64.bits))) 4294967295) * 2 ^ min (Int.toNat 32) IntKind.u64.bits)) (bits BinOp.and IntKind.u64 (IntKind.u64.wrap (bits BinOp.and IntKind.u64 (absI a) 4294967295 * bits BinOp.and IntKind.u64 (absI b) 4294967295)) 4294967295)))))])) | false => (K (.agg [(.int IntKind.i64 (IntKind.i64.wrap (IntKind.u64.wrap (IntKind.u64.wrap (IntKind.u64.wrap ((absI a).fdiv (2 ^ min (Int.toNat 32) IntKind.u64.bits) * (absI b).fdiv (2 ^ min (Int.toNat 32) IntKind.u64.bits)) + (IntKind.u64.wrap (IntKind.u64.wrap ((absI a).fdiv (2 ^ min (Int.toNat 32) IntKind.u64.bits) * bits BinOp.and IntKind.u64 (absI b) 4294967295) + (IntKind.u64.wrap (bits BinOp.and IntKind.u64 (absI a) 4294967295 * bits BinOp.and IntKind.u64 (absI b) 4294967295)).fdiv (2 ^ min (Int.toNat 32) IntKind.u64.bits))).fdiv (2 ^ min (Int.toNat 32) IntKind.u64.bits)) + (IntKind.u64.wrap (IntKind.u64.wrap (bits BinOp.and IntKind.u64 (absI a) 4294967295 * (absI b).fdiv (2 ^ min (Int.toNat 32) IntKind.u64.bits)) + bits BinOp.and IntKind.u64 (IntKind.u64.wrap (IntKind.u64.wrap ((absI a).fdiv (2 ^ min (Int.toNat 32) IntKind.u64.bits) * bits BinOp.and IntKind.u64 (absI b) 4294967295) + (IntKind.u64.wrap (bits BinOp.and IntKind.u64 (absI a) 4294967295 * bits BinOp.and IntKind.u64 (absI b) 4294967295)).fdiv (2 ^ min (Int.toNat 32) IntKind.u64.bits))) 4294967295)).fdiv (2 ^ min (Int.toNat 32) IntKind.u64.bits))))), (.int IntKind.u64 (bits BinOp.or IntKind.u64 (IntKind.u64.wrap (IntKind.u64.wrap (IntKind.u64.wrap (bits BinOp.and IntKind.u64 (absI a) 4294967295 * (absI b).fdiv (2 ^ min (Int.toNat 32) IntKind.u64.bits)) + bits BinOp.and IntKind.u64 (IntKind.u64.wrap (IntKind.u64.wrap ((absI a).fdiv (2 ^ min (Int.toNat 32) IntKind.u64.bits) * bits BinOp.and IntKind.u64 (absI b) 4294967295) + (IntKind.u64.wrap (bits BinOp.and IntKind.u64 (absI a) 4294967295 * bits BinOp.and IntKind.u64 (absI b) 4294967295)).fdiv (2 ^ min (Int.toNat 32) IntKind.u64.bits))) 4294967295) * 2 ^ min (Int.toNat 32) IntKind.u64.bits)) (bits BinOp.and IntKind.u64 (IntKind.u64.wrap (bits BinOp.and IntKind.u64 (absI a) 4294967295 * bits BinOp.and IntKind.u64 (absI b) 4294967295)) 4294967295)))]))) := by kernel_rfl
theorem t_div (I : Interp O) (K : AV → Prop) (a b y : Int) : abody I P (Gm E2) (adraw P (Gm E2)) 0 Try.f58 [.agg [.int .i64 a, .int .u64 b], .int .i64 y] .leaf 0 (fun v _ _ => K v) =
  (bsplit (decide (y < 1)) fun | true => (K (.tup [(.agg [(.int IntKind.i64 (0 : Int)), (.int IntKind.u64 (0 : Int))]), (.int IntKind.i64 (0 : Int)), (.int IntKind.i64 (1 : Int))])) | false => (bsplit (decide (a ≥ 0)) fun | true => (must (decide (0 < IntKind.u64.wrap y) && decide (IntKind.u64.wrap y ≤ 9223372036854775808)) (K (.tup [(.agg [(.int IntKind.i64 (hi (vl (a % 18446744073709551616) b / IntKind.u64.wrap y))), (.int IntKind.u64 (lo (vl (a % 18446744073709551616) b / IntKind.u64.wrap y)))]), (.int IntKind.i64 (IntKind.i64.wrap (vl (a % 18446744073709551616) b % IntKind.u64.wrap y))), (.int IntKind.i64 (0 : Int))]))) | false => (must (decide (0 < IntKind.u64.wrap y) && decide (IntKind.u64.wrap y ≤ 9223372036854775808)) (K (.tup [(.agg [(.int IntKind.i64 (bits BinOp.xor IntKind.i64 (if IntKind.i64.signed = true then -1 else IntKind.i64.max) (hi (vl (bits BinOp.xor IntKind.i64 (if IntKind.i64.signed = true then -1 else IntKind.i64.max) a % 18446744073709551616) (bits BinOp.xor IntKind.u64 (if IntKind.u64.signed = true then -1 else IntKind.u64.max) b) / IntKind.u64.wrap y)))), (.int IntKind.u64 (bits BinOp.xor IntKind.u64 (if IntKind.u64.signed = true then -1 else IntKind.u64.max) (lo (vl (bits BinOp.xor IntKind.i64 (if IntKind.i64.signed = true then -1 else IntKind.i64.max) a % 18446744073709551616) (bits BinOp.xor IntKind.u64 (if IntKind.u64.signed = true then -1 else IntKind.u64.max) b) / IntKind.u64.wrap y))))]), (.int IntKind.i64 (IntKind.i64.wrap (IntKind.i64.wrap (y - 1) - IntKind.i64.wrap (vl (bits BinOp.xor IntKind.i64 (if IntKind.i64.signed = true then -1 else IntKind.i64.max) a % 18446744073709551616) (bits BinOp.xor IntKind.u64 (if IntKind.u64.signed = true then -1 else IntKind.u64.max) b) % IntKind.u64.wrap y)))), (.int IntKind.i64 (0 : Int))]))))) := by kernel_rfl
theorem t_part (I : Interp O) (K : AV → Prop) (a b y : Int) : abody I P (Gm E3) (adraw P (Gm E3)) 0 Try.f46 [.int .i64 a, .int .i64 b, .int .i64 y] .leaf 0 (fun v _ _ => K v) =
  (bsplit (ifB (decide (y < 1)) 1 0 != 0) fun | true => (K (.tup [(.int IntKind.i64 (0 : Int)), (.int IntKind.i64 (ifB (decide (y < 1)) 1 0))])) | false => (K (.tup [(.int IntKind.i64 (ifB (fit64 (vl (ifB (decide (y < 1)) 0 (hi (vl (hi (a * b)) (lo (a * b)) / y))) (ifB (decide (y < 1)) 0 (lo (vl (hi (a * b)) (lo (a * b)) / y))))) (vl (ifB (decide (y < 1)) 0 (hi (vl (hi (a * b)) (lo (a * b)) / y))) (ifB (decide (y < 1)) 0 (lo (vl (hi (a * b)) (lo (a * b)) / y)))) 0)), (.int IntKind.i64 (ifB (fit64 (vl (ifB (decide (y < 1)) 0 (hi (vl (hi (a * b)) (lo (a * b)) / y))) (ifB (decide (y < 1)) 0 (lo (vl (hi (a * b)) (lo (a * b)) / y))))) 0 6))]))) := by kernel_rfl
theorem t_or0 (I : Interp O) (K : AV → Tr (AO O) → Nat → Prop) (X : St O → Prop) (a b : Int) : acode I P (Gm E0) (adraw P (Gm E0)) 1 (cd Try.f48 [true, true, false, true, false, false]) (j_or a b) (lpg 1 [] [2, 3, 6, 7, 8] 1 X (ablock 0 (athen (cd Try.f48 [true, true, true]) (fun s => acode I P (Gm E0) (adraw P (Gm E0)) 1 (cd Try.f48 [true, true, true]) s (kret P Try.f48 (K))) (kret P Try.f48 (K))))) =
  (bsplit (a != 0) fun | true => (K (.int IntKind.i64 (a)) (.node .leaf (some (.cells 3 [(.int IntKind.i64 (a)), (.int IntKind.i64 (b))] 2)) .leaf) 1) | false => (X ⟨(.node (.node (.node (.node .leaf (some (.int IntKind.i64 (2 : Int))) .leaf) (some (.int IntKind.i64 (0 : Int))) .leaf) none .leaf) none (.node (.node (.node .leaf (some (.int IntKind.i64 (1 : Int))) .leaf) none .leaf) (some (.int IntKind.i64 (0 : Int))) (.node .leaf (some (.sl 0 0 2 2)) .leaf))), (.node .leaf (some (.cells 3 [(.int IntKind.i64 (a)), (.int IntKind.i64 (b))] 2)) .leaf), 1, 18⟩)) := by kernel_rfl
theorem t_or2 (I : Interp O) (K : AV → Tr (AO O) → Nat → Prop) (X : St O → Prop) (a b : Int) : acode I P (Gm E0) (adraw P (Gm E0)) 1 (cd Try.f48 [true, true, false, true, false, false]) (j_or2 a b) (lpg 1 [] [2, 3, 6, 7, 8] 1 X (ablock 0 (athen (cd Try.f48 [true, true, true]) (fun s => acode I P (Gm E0) (adraw P (Gm E0)) 1 (cd Try.f48 [true, true, true]) s (kret P Try.f48 (K))) (kret P Try.f48 (K))))) =
  (K (.int IntKind.i64 (0 : Int)) (.node .leaf (some (.cells 3 [(.int IntKind.i64 (a)), (.int IntKind.i64 (b))] 2)) .leaf) 1) := by kernel_rfl
theorem t_or1 (I : Interp O) (K : AV → Tr (AO O) → Nat → Prop) (X : St O → Prop) (a b : Int) : acode I P (Gm E0) (adraw P (Gm E0)) 1 (cd Try.f48 [true, true, false, true, false, false]) (j_or1 a b) (lpg 1 [] [2, 3, 6, 7, 8] 1 X (ablock 0 (athen (cd Try.f48 [true, true, true]) (fun s => acode I P (Gm E0) (adraw P (Gm E0)) 1 (cd Try.f48 [true, true, true]) s (kret P Try.f48 (K))) (kret P Try.f48 (K))))) =
  (bsplit (b != 0) fun | true => (K (.int IntKind.i64 (b)) (.node .leaf (some (.cells 3 [(.int IntKind.i64 (a)), (.int IntKind.i64 (b))] 2)) .leaf) 1) | false => (X ⟨(.node (.node (.node (.node .leaf (some (.int IntKind.i64 (2 : Int))) .leaf) (some (.int IntKind.i64 (0 : Int))) .leaf) none .leaf) none (.node (.node (.node .leaf (some (.int IntKind.i64 (2 : Int))) .leaf) none .leaf) (some (.int IntKind.i64 (0 : Int))) (.node .leaf (some (.sl 0 0 2 2)) .leaf))), (.node .leaf (some (.cells 3 [(.int IntKind.i64 (a)), (.int IntKind.i64 (b))] 2)) .leaf), 1, 18⟩)) := by kernel_rfl
theorem t_parted1 (I : Interp O) (K : AV → Prop) (X : St O → Prop) (a b hh y i r qh ql : Int) : acode I P (Gm E1) (adraw P (Gm E1)) 0 (cd Try.f72 [true, false, true, true, false, true, false, false]) (j_parted a b hh y i r qh ql) (lpg 0 [(0, 0), (1, 1)] [1, 2, 4, 5, 6, 7] 2 X (ablock 0 (athen (cd Try.f72 [true, false, true, true, true]) (fun s => acode I P (Gm E1) (adraw P (Gm E1)) 0 (cd Try.f72 [true, false, true, true, true]) s (kret P Try.f72 (fun v x x_1 => K v))) (kret P Try.f72 (fun v x x_1 => K v))))) =
  (bsplit (decide (i ≥ 0)) fun | true => (must (decide (0 ≤ i.tmod 64)) (bsplit (decide (i ≥ 64)) fun | true => (must (decide (0 ≤ i.tmod 64)) (bsplit (decide (bits BinOp.or IntKind.u64 (IntKind.u64.wrap (r * 2 ^ min (Int.toNat 1) IntKind.u64.bits)) (bits BinOp.and IntKind.u64 (hh.fdiv (2 ^ min (i.tmod 64).toNat IntKind.u64.bits)) 1) < y)) fun | true => (X ⟨(.node (.node (.node (.node .leaf (some (.int IntKind.i64 (IntKind.i64.wrap (i - 1)))) .leaf) none .leaf) (some (.int IntKind.u64 (y))) (.node .leaf (some (.int IntKind.u64 (bits BinOp.or IntKind.u64 (IntKind.u64.wrap (r * 2 ^ min (Int.toNat 1) IntKind.u64.bits)) (bits BinOp.and IntKind.u64 (hh.fdiv (2 ^ min (i.tmod 64).toNat IntKind.u64.bits)) 1)))) .leaf)) none (.node (.node .leaf (some (.ptr 1 0)) .leaf) (some (.ptr 0 0)) (.node .leaf (some (.int IntKind.u64 (hh))) .leaf))), (.node (.node .leaf (some (.cells 25 [(.int IntKind.i64 (hi (vl qh ql + vl qh ql))), (.int IntKind.u64 (lo (vl qh ql + vl qh ql)))] 2)) .leaf) (some (.cells 25 [(.int IntKind.i64 (a)), (.int IntKind.u64 (b))] 2)) .leaf), 2, 48⟩) | false => (X ⟨(.node (.node (.node (.node .leaf (some (.int IntKind.i64 (IntKind.i64.wrap (i - 1)))) .leaf) none .leaf) (some (.int IntKind.u64 (y))) (.node .leaf (some (.int IntKind.u64 (IntKind.u64.wrap (bits BinOp.or IntKind.u64 (IntKind.u64.wrap (r * 2 ^ min (Int.toNat 1) IntKind.u64.bits)) (bits BinOp.and IntKind.u64 (hh.fdiv (2 ^ min (i.tmod 64).toNat IntKind.u64.bits)) 1) - y)))) .leaf)) none (.node (.node .leaf (some (.ptr 1 0)) .leaf) (some (.ptr 0 0)) (.node .leaf (some (.int IntKind.u64 (hh))) .leaf))), (.node (.node .leaf (some (.cells 25 [(.int IntKind.i64 (hi (vl qh ql + vl qh ql))), (.int IntKind.u64 (bits BinOp.or IntKind.u64 (lo (vl qh ql + vl qh ql)) 1))] 2)) .leaf) (some (.cells 25 [(.int IntKind.i64 (a)), (.int IntKind.u64 (b))] 2)) .leaf), 2, 48⟩))) | false => (bsplit (decide (bits BinOp.or IntKind.u64 (IntKind.u64.wrap (r * 2 ^ min (Int.toNat 1) IntKind.u64.bits)) (bits BinOp.and IntKind.u64 (b.fdiv (2 ^ min (i.tmod 64).toNat IntKind.u64.bits)) 1) < y)) fun | true => (X ⟨(.node (.node (.node (.node .leaf (some (.int IntKind.i64 (IntKind.i64.wrap (i - 1)))) .leaf) none .leaf) (some (.int IntKind.u64 (y))) (.node .leaf (some (.int IntKind.u64 (bits BinOp.or IntKind.u64 (IntKind.u64.wrap (r * 2 ^ min (Int.toNat 1) IntKind.u64.bits)) (bits BinOp.and IntKind.u64 (b.fdiv (2 ^ min (i.tmod 64).toNat IntKind.u64.bits)) 1)))) .leaf)) none (.node (.node .leaf (some (.ptr 1 0)) .leaf) (some (.ptr 0 0)) (.node .leaf (some (.int IntKind.u64 (hh))) .leaf))), (.node (.node .leaf (some (.cells 25 [(.int IntKind.i64 (hi (vl qh ql + vl qh ql))), (.int IntKind.u64 (lo (vl qh ql + vl qh ql)))] 2)) .leaf) (some (.cells 25 [(.int IntKind.i64 (a)), (.int IntKind.u64 (b))] 2)) .leaf), 2, 48⟩) | false => (X ⟨(.node (.node (.node (.node .leaf (some (.int IntKind.i64 (IntKind.i64.wrap (i - 1)))) .leaf) none .leaf) (some (.int IntKind.u64 (y))) (.node .leaf (some (.int IntKind.u64 (IntKind.u64.wrap (bits BinOp.or IntKind.u64 (IntKind.u64.wrap (r * 2 ^ min (Int.toNat 1) IntKind.u64.bits)) (bits BinOp.and IntKind.u64 (b.fdiv (2 ^ min (i.tmod 64).toNat IntKind.u64.bits)) 1) - y)))) .leaf)) none (.node (.node .leaf (some (.ptr 1 0)) .leaf) (some (.ptr 0 0)) (.node .leaf (some (.int IntKind.u64 (hh))) .leaf))), (.node (.node .leaf (some (.cells 25 [(.int IntKind.i64 (hi (vl qh ql + vl qh ql))), (.int IntKind.u64 (bits BinOp.or IntKind.u64 (lo (vl qh ql + vl qh ql)) 1))] 2)) .leaf) (some (.cells 25 [(.int IntKind.i64 (a)), (.int IntKind.u64 (b))] 2)) .leaf), 2, 48⟩)))) | false => (K (.tup [(.agg [(.int IntKind.i64 (qh)), (.int IntKind.u64 (ql))]), (.int IntKind.u64 (r))]))) := by kernel_rfl
end W
end Go.Tb

/- The wide numbers' functions do what their contracts say. -/
set_option linter.all false
set_option maxRecDepth 100000
namespace Go.Tb.W
open Go Go.Proofs
theorem mix : P.follows .mixedOrders = true := by kernel_rfl
variable {I : Interp O}
theorem f63 (a : Int) : a.fdiv (2 ^ min (Int.toNat 63) IntKind.i64.bits) = a / 9223372036854775808 := shr_eq (b := 9223372036854775808) a 63 _ (by decide) (by decide)
theorem wd_eq {x h l : Int} (h1 : h = hi x) (h2 : l = lo x) : AV.agg [.int .i64 h, .int .u64 l] = wd x := by subst h1; subst h2; rfl

theorem k_of : ∀ (args : List AV) (K : AV → Prop), c_of args K → ∀ hp, ACall I P 31 args hp (fun v hp' => K v ∧ hp' = hp) := by
  intro args K h hp
  unfold c_of at h; split at h
  · rename_i a
    refine pcall mix Gm.nil (fn := Try.f31) (by kernel_rfl) (by kernel_rfl) (by kernel_rfl) rfl rfl (fun hr => ?_) hp
    refine (t_of I (fun v => K v ∧ cl v = true) a).mpr ⟨?_, rfl⟩
    simp only [rgs, rg, Bool.and_eq_true] at hr
    have ha := r_i64 hr.1
    rw [wd_eq (x := a)]
    · exact h
    · rw [f63]; unfold hi; omega
    · rw [w_u64]; rfl
  · exact h.elim
theorem k_sum : ∀ (args : List AV) (K : AV → Prop), c_sum args K → ∀ hp, ACall I P 47 args hp (fun v hp' => K v ∧ hp' = hp) := by
  intro args K h hp
  unfold c_sum at h; split at h
  · rename_i a b c d
    refine pcall mix Gm.nil (fn := Try.f47) (by kernel_rfl) (by kernel_rfl) (by kernel_rfl) rfl rfl (fun hr => ?_) hp
    refine (t_sum I (fun v => K v ∧ cl v = true) a b c d).mpr ?_
    simp only [rgs, rg, Bool.and_eq_true] at hr
    obtain ⟨⟨ha, hb, _⟩, ⟨hc, hd, _⟩, _⟩ := hr
    have ha := r_i64 ha; have hb := r_u64 hb; have hc := r_i64 hc; have hd := r_u64 hd
    refine bsplit_both (fun hx => ⟨?_, rfl⟩) (fun hx => ⟨?_, rfl⟩)
    · rw [wd_eq (x := vl a b + vl c d)]
      · exact h
      · simp only [w_u64, w_i64, decide_eq_true_eq] at hx ⊢; unfold hi vl; omega
      · rw [w_u64]; unfold lo vl; omega
    · rw [wd_eq (x := vl a b + vl c d)]
      · exact h
      · simp only [w_u64, w_i64, decide_eq_false_iff_not] at hx ⊢; unfold hi vl; omega
      · rw [w_u64]; unfold lo vl; omega
  · exact h.elim
theorem k_size : ∀ (args : List AV) (K : AV → Prop), c_size args K → ∀ hp, ACall I P 73 args hp (fun v hp' => K v ∧ hp' = hp) := by
  intro args K h hp
  unfold c_size at h; split at h
  · rename_i a
    refine pcall mix Gm.nil (fn := Try.f73) (by kernel_rfl) (by kernel_rfl) (by kernel_rfl) rfl rfl (fun hr => ?_) hp
    refine (t_size I (fun v => K v ∧ cl v = true) a).mpr ?_
    simp only [rgs, rg, Bool.and_eq_true] at hr
    have ha := r_i64 hr.1
    refine bsplit_both (fun hx => ⟨?_, rfl⟩) (fun hx => ⟨?_, rfl⟩)
    · have hx' : a < 0 := by simpa using hx
      have : IntKind.u64.wrap (0 - IntKind.u64.wrap a) = absI a := by rw [w_u64, w_u64]; unfold absI; rw [hx]; simp only [ifB]; omega
      rw [this]; exact h
    · have hx' : ¬ a < 0 := by simpa using hx
      have : IntKind.u64.wrap a = absI a := by rw [w_u64]; unfold absI; rw [hx]; simp only [ifB]; omega
      rw [this]; exact h
  · exact h.elim
theorem k_nani : ∀ (args : List AV) (K : AV → Prop), c_nani args K → ∀ hp, ACall I P 60 args hp (fun v hp' => K v ∧ hp' = hp) := by
  intro args K h hp
  unfold c_nani at h; split at h
  · rename_i a
    refine pcall mix Gm.nil (fn := Try.f60) (by kernel_rfl) (by kernel_rfl) (by kernel_rfl) rfl rfl (fun hr => ?_) hp
    refine (t_nani I (fun v => K v ∧ cl v = true) a).mpr ⟨?_, rfl⟩
    rw [show (a != a) = false by simp]; exact h
  · exact h.elim
theorem k_nanu : ∀ (args : List AV) (K : AV → Prop), c_nanu args K → ∀ hp, ACall I P 61 args hp (fun v hp' => K v ∧ hp' = hp) := by
  intro args K h hp
  unfold c_nanu at h; split at h
  · rename_i a
    refine pcall mix Gm.nil (fn := Try.f61) (by kernel_rfl) (by kernel_rfl) (by kernel_rfl) rfl rfl (fun hr => ?_) hp
    refine (t_nanu I (fun v => K v ∧ cl v = true) a).mpr ⟨?_, rfl⟩
    rw [show (a != a) = false by simp]; exact h
  · exact h.elim
theorem k_or : ∀ (args : List AV) (hp : Tr (AO O)) (nx : Nat) (K : AV → Tr (AO O) → Nat → Prop), c_or args hp nx K → ACall I P 48 args hp (fun v hp' => ∃ nx', K v hp' nx') := by
  intro args hp nx K h
  unfold c_or at h; split at h
  · rename_i n
    split at h
    · rename_i a b hb hg
      have hb := blt_iff.1 hb
      have back : ∀ {x : Int}, x = ifB (decide (a = 0)) b a → ∃ news mods, Back hp [n] (Tr.setL [(0, AO.cells 3 [AV.int .i64 a, .int .i64 b] 2)] .leaf) (.int .i64 x) news mods (fun v hp' => ∃ nx', K v hp' nx') := fun {x} hx => by
        refine ⟨[], [], ?_, trivial, rfl, fun j g hj => (by cases hj), ⟨hg, trivial⟩, rfl, rfl, ⟨nx, ?_⟩⟩
        · simp [pairs, uniq, hb, lk, lkr]
        · rw [hx]; exact h
      refine hcall mix Gm.nil (fn := Try.f48) (by kernel_rfl) (by kernel_rfl) (by kernel_rfl) [n] [.cells 3 [.int .i64 a, .int .i64 b] 2] [.sl 0 0 2 2] rfl ?_ rfl ⟨hg, trivial⟩ rfl rfl (fun hr ho => ?_)
      · simp [pairs, uniq, hb, lk, lkr]
      refine (t_or I (fun v lh _ => ∃ news mods, Back hp [n] lh v news mods (fun v hp' => ∃ nx', K v hp' nx')) a b).mpr ?_
      refine ALoop.start [] [2, 3, 6, 7, 8] 1 (j_or a b) (by kernel_rfl) (by kernel_rfl) ?_
      refine ALoop.stepg [] [2, 3, 6, 7, 8] 1 ?_
      refine (t_or0 I _ _ a b).mpr ?_
      refine bsplit_both (fun hx => back ?_) (fun hx => ?_)
      · have : a ≠ 0 := by simpa using hx
        simp [ifB, this]
      have ha : a = 0 := by simpa using hx
      refine ALoop.stepg (s := j_or1 a b) [] [2, 3, 6, 7, 8] 1 ?_
      refine (t_or1 I _ _ a b).mpr ?_
      refine bsplit_both (fun hx => back ?_) (fun hx => ?_)
      · simp [ifB, ha]
      have hb0 : b = 0 := by simpa using hx
      refine ALoop.stepg (s := j_or2 a b) [] [2, 3, 6, 7, 8] 1 ?_
      refine (t_or2 I _ _ a b).mpr ?_
      exact back (by simp [ifB, ha, hb0])
    · exact h.elim
  · exact h.elim
theorem g1 : GOk I P (Gm E1) := by
  refine Gm.consP ?_ k_of
  refine Gm.consP ?_ k_sum
  refine Gm.consP ?_ k_size
  refine Gm.consP ?_ k_nani
  refine Gm.consP ?_ k_nanu
  refine Gm.consH ?_ k_or
  exact Gm.nil
end Go.Tb.W

/- The wide numbers' functions do what their contracts say, part 2. -/
set_option linter.all false
set_option maxRecDepth 100000
namespace Go.Tb.W
open Go Go.Proofs
variable {I : Interp O}
theorem k_less : ∀ (args : List AV) (K : AV → Prop), c_less args K → ∀ hp, ACall I P 51 args hp (fun v hp' => K v ∧ hp' = hp) := by
  intro args K h hp
  unfold c_less at h; split at h
  · rename_i a b
    refine pcall mix g1 (fn := Try.f51) (by kernel_rfl) (by kernel_rfl) (by kernel_rfl) rfl rfl (fun hr => ?_) hp
    refine (t_less I (fun v => K v ∧ cl v = true) a b).mpr ⟨?_, rfl⟩
    simp only [rgs, rg, Bool.and_eq_true] at hr
    obtain ⟨⟨ha, hb, _⟩, _⟩ := hr
    have ha := r_i64 ha; have hb := r_u64 hb
    rw [not_i64 a ha, not_u64 b hb]
    rw [wd_eq (x := -(vl a b))]
    · exact h
    · unfold hi vl; omega
    · unfold lo vl; omega
  · exact h.elim
theorem fit64_iff {x : Int} : fit64 x = true ↔ -9223372036854775808 ≤ x ∧ x < 9223372036854775808 := by
  unfold fit64; rw [Bool.and_eq_true, decide_eq_true_iff, decide_eq_true_iff]
theorem fit_iff {x : Int} : fit x = true ↔ -170141183460469231731687303715884105728 ≤ x ∧ x < 170141183460469231731687303715884105728 := by
  unfold fit; rw [Bool.and_eq_true, decide_eq_true_iff, decide_eq_true_iff]
theorem k_int : ∀ (args : List AV) (K : AV → Prop), c_int args K → ∀ hp, ACall I P 43 args hp (fun v hp' => K v ∧ hp' = hp) := by
  intro args K h hp
  unfold c_int at h; split at h
  · rename_i a b
    refine pcall mix g1 (fn := Try.f43) (by kernel_rfl) (by kernel_rfl) (by kernel_rfl) rfl rfl (fun hr => ?_) hp
    refine (t_int I (fun v => K v ∧ cl v = true) a b).mpr ?_
    simp only [rgs, rg, Bool.and_eq_true] at hr
    obtain ⟨⟨ha, hb, _⟩, _⟩ := hr
    have ha := r_i64 ha; have hb := r_u64 hb
    have hw : (b < 9223372036854775808 ∧ IntKind.i64.wrap b = b ∧ hi b = 0) ∨ (9223372036854775808 ≤ b ∧ IntKind.i64.wrap b = b - 18446744073709551616 ∧ hi (b - 18446744073709551616) = -1) := by
      rcases Int.lt_or_le b 9223372036854775808 with hlt | hle
      · exact .inl ⟨hlt, by rw [w_i64]; omega, by unfold hi; omega⟩
      · exact .inr ⟨hle, by rw [w_i64]; omega, by unfold hi; omega⟩
    have key : (hi (IntKind.i64.wrap b) == a && (lo (IntKind.i64.wrap b) == b && true)) = fit64 (vl a b) ∧ (fit64 (vl a b) = true → IntKind.i64.wrap b = vl a b) := by
      rcases hw with ⟨h1, h2, h3⟩ | ⟨h1, h2, h3⟩
      · rw [h2, h3]
        have : lo b = b := by unfold lo; omega
        rw [this]
        constructor
        · rw [Bool.eq_iff_iff, fit64_iff]; simp only [Bool.and_eq_true, beq_iff_eq, beq_self_eq_true, and_true, vl]; omega
        · rw [fit64_iff]; unfold vl; omega
      · rw [h2, h3]
        have : lo (b - 18446744073709551616) = b := by unfold lo; omega
        rw [this]
        constructor
        · rw [Bool.eq_iff_iff, fit64_iff]; simp only [Bool.and_eq_true, beq_iff_eq, beq_self_eq_true, and_true, vl]; omega
        · rw [fit64_iff]; unfold vl; omega
    rw [key.1]
    refine bsplit_both (fun hx => ⟨?_, rfl⟩) (fun hx => ⟨?_, rfl⟩)
    · have : fit64 (vl a b) = false := by simpa using hx
      rw [this] at h; exact h
    · have hf : fit64 (vl a b) = true := by simpa using hx
      rw [hf] at h; rw [key.2 hf]; exact h
  · exact h.elim
theorem sgn_cases {K : AV → Prop} {a b : Int} (h : K (.int .i64 (sgn a b))) : bsplit (decide (a < b)) fun | true => (K (.int .i64 (-1)) ∧ cl (.int .i64 (-1)) = true) | false => bsplit (decide (a > b)) fun | true => (K (.int .i64 1) ∧ cl (.int .i64 1) = true) | false => (K (.int .i64 0) ∧ cl (.int .i64 0) = true) := by
  unfold sgn at h
  refine bsplit_both (fun hx => ⟨?_, rfl⟩) (fun hx => bsplit_both (fun hy => ⟨?_, rfl⟩) (fun hy => ⟨?_, rfl⟩))
  · rw [hx] at h; exact h
  · rw [hx, show decide (a = b) = false by simp at hy ⊢; omega] at h; exact h
  · rw [hx, show decide (a = b) = true by simp at hx hy ⊢; omega] at h; exact h
theorem k_cmpi : ∀ (args : List AV) (K : AV → Prop), c_cmpi args K → ∀ hp, ACall I P 49 args hp (fun v hp' => K v ∧ hp' = hp) := by
  intro args K h hp
  unfold c_cmpi at h; split at h
  · rename_i a b
    refine pcall mix g1 (fn := Try.f49) (by kernel_rfl) (by kernel_rfl) (by kernel_rfl) rfl rfl (fun hr => ?_) hp
    exact (t_cmpi I (fun v => K v ∧ cl v = true) a b).mpr (sgn_cases h)
  · exact h.elim
theorem k_cmpu : ∀ (args : List AV) (K : AV → Prop), c_cmpu args K → ∀ hp, ACall I P 50 args hp (fun v hp' => K v ∧ hp' = hp) := by
  intro args K h hp
  unfold c_cmpu at h; split at h
  · rename_i a b
    refine pcall mix g1 (fn := Try.f50) (by kernel_rfl) (by kernel_rfl) (by kernel_rfl) rfl rfl (fun hr => ?_) hp
    exact (t_cmpu I (fun v => K v ∧ cl v = true) a b).mpr (sgn_cases h)
  · exact h.elim
end Go.Tb.W

/- The wide numbers' functions do what their contracts say, part 3: long division. -/
set_option linter.all false
set_option maxRecDepth 100000
namespace Go.Tb.W
open Go Go.Proofs
variable {I : Interp O}
theorem bit_hi (h b i : Nat) (hb : b < 18446744073709551616) (hi : 64 ≤ i) : (h * 18446744073709551616 + b) / 2 ^ i = h / 2 ^ (i - 64) := by
  have e : 2 ^ i = 18446744073709551616 * 2 ^ (i - 64) := by
    rw [show (18446744073709551616 : Nat) = 2 ^ 64 by decide, ← Nat.pow_add]; congr 1; omega
  rw [e, ← Nat.div_div_eq_div_mul]
  congr 1; omega
theorem bit_lo (h b i : Nat) (hi : i < 64) : (h * 18446744073709551616 + b) / 2 ^ i % 2 = b / 2 ^ i % 2 := by
  have e : (18446744073709551616 : Nat) = 2 ^ i * (2 * 2 ^ (63 - i)) := by
    rw [show (18446744073709551616 : Nat) = 2 ^ 64 by decide, ← Nat.pow_succ', ← Nat.pow_add]; congr 1; omega
  have e2 : h * 18446744073709551616 + b = b + 2 ^ i * (2 * (h * 2 ^ (63 - i))) := by
    rw [e, Nat.add_comm, Nat.mul_left_comm]; congr 2; rw [Nat.mul_left_comm]
  rw [e2, Nat.add_mul_div_left _ _ (Nat.two_pow_pos i)]
  omega
/-- One more bit. -/
theorem next_bit (V i : Nat) : V / 2 ^ i = 2 * (V / 2 ^ (i + 1)) + V / 2 ^ i % 2 := by
  rw [Nat.pow_succ, ← Nat.div_div_eq_div_mul]; omega
theorem long_lt {p y t : Nat} (hy : 0 < y) (h : 2 * (p % y) + t < y) : (2 * p + t) % y = 2 * (p % y) + t ∧ (2 * p + t) / y = 2 * (p / y) := by
  have e : 2 * p + t = (2 * (p % y) + t) + y * (2 * (p / y)) := by
    have := Nat.div_add_mod p y
    have : y * (2 * (p / y)) = 2 * (y * (p / y)) := by rw [Nat.mul_left_comm]
    omega
  constructor
  · rw [e, Nat.add_mul_mod_self_left, Nat.mod_eq_of_lt h]
  · rw [e, Nat.add_mul_div_left _ _ hy, Nat.div_eq_of_lt h, Nat.zero_add]
theorem long_ge {p y t : Nat} (hy : 0 < y) (ht : t < 2) (h : y ≤ 2 * (p % y) + t) : (2 * p + t) % y = 2 * (p % y) + t - y ∧ (2 * p + t) / y = 2 * (p / y) + 1 := by
  have hm := Nat.mod_lt p hy
  have e : 2 * p + t = (2 * (p % y) + t - y) + y * (2 * (p / y) + 1) := by
    have := Nat.div_add_mod p y
    have : y * (2 * (p / y) + 1) = 2 * (y * (p / y)) + y := by rw [Nat.mul_add, Nat.mul_left_comm, Nat.mul_one]
    omega
  have hlt : 2 * (p % y) + t - y < y := by omega
  constructor
  · rw [e, Nat.add_mul_mod_self_left, Nat.mod_eq_of_lt hlt]
  · rw [e, Nat.add_mul_div_left _ _ hy, Nat.div_eq_of_lt hlt, Nat.zero_add]
theorem hi_two (q : Int) : hi (vl (hi q) (lo q) + vl (hi q) (lo q)) = hi (2 * q) := by unfold hi lo vl; omega
theorem lo_two (q : Int) : lo (vl (hi q) (lo q) + vl (hi q) (lo q)) = lo (2 * q) := by unfold hi lo vl; omega
theorem hi_odd (q : Int) : hi (2 * q + 1) = hi (2 * q) := by unfold hi; omega
theorem lo_odd (q : Int) : bits BinOp.or IntKind.u64 (lo (2 * q)) 1 = lo (2 * q + 1) := by
  rw [or_add 1 _ _ (by unfold lo; omega) (by unfold lo; omega) (by decide) (by decide)]; unfold lo; omega
theorem fdiv_nat (x n : Nat) (hn : n ≤ 64) : ((x : Nat) : Int).fdiv (2 ^ min n IntKind.u64.bits) = ((x / 2 ^ n : Nat) : Int) := by
  rw [shr_eq (b := 2 ^ n) _ n .u64 hn (by simp), Int.natCast_ediv]
theorem bit_of (x n : Nat) (hn : n ≤ 64) (hx : x < 18446744073709551616) : bits BinOp.and IntKind.u64 (((x : Nat) : Int).fdiv (2 ^ min n IntKind.u64.bits)) 1 = ((x / 2 ^ n % 2 : Nat) : Int) := by
  have : x / 2 ^ n ≤ x := Nat.div_le_self _ _
  rw [fdiv_nat x n hn]
  generalize x / 2 ^ n = p at *
  rw [and_one _ ⟨by omega, by omega⟩]; omega
theorem shl_or (r t : Nat) (hr : 2 * r + 1 < 18446744073709551616) (ht : t < 2) : bits BinOp.or IntKind.u64 (IntKind.u64.wrap (((r : Nat) : Int) * 2 ^ min (Int.toNat 1) IntKind.u64.bits)) ((t : Nat) : Int) = ((2 * r + t : Nat) : Int) := by
  rw [show (2 : Int) ^ min (Int.toNat 1) IntKind.u64.bits = 2 by decide, s_u64 (by omega), or_add 1 _ _ (by omega) (by omega) (by simp; omega) (by omega)]; omega
noncomputable def jp (a : Int) (b y V : Nat) (i : Nat) : St O :=
  j_parted a b ((a % 18446744073709551616)) y ((i : Int) - 1) ((V / 2 ^ i % y : Nat) : Int) (hi ((V / 2 ^ i / y : Nat) : Int)) (lo ((V / 2 ^ i / y : Nat) : Int))
theorem k_parted : ∀ (args : List AV) (K : AV → Prop), c_parted args K → ∀ hp, ACall I P 72 args hp (fun v hp' => K v ∧ hp' = hp) := by
  intro args K h hp
  unfold c_parted at h; split at h
  · rename_i a b y
    obtain ⟨hy, h⟩ := must_spec h
    simp only [Bool.and_eq_true, decide_eq_true_eq] at hy
    refine pcall mix g1 (fn := Try.f72) (by kernel_rfl) (by kernel_rfl) (by kernel_rfl) rfl rfl (fun hr => ?_) hp
    simp only [rgs, rg, Bool.and_eq_true] at hr
    obtain ⟨⟨ha, hb, _⟩, _⟩ := hr
    have ha := r_i64 ha; have hb := r_u64 hb
    refine (t_parted I (fun v => K v ∧ cl v = true) a b y).mpr ?_
    obtain ⟨b, rfl⟩ := Int.eq_ofNat_of_zero_le hb.1
    obtain ⟨y, rfl⟩ := Int.eq_ofNat_of_zero_le (show 0 ≤ y by omega)
    have hh0 : 0 ≤ a % 18446744073709551616 ∧ a % 18446744073709551616 < 18446744073709551616 := by omega
    have hwa : IntKind.u64.wrap a = a % 18446744073709551616 := w_u64 a
    obtain ⟨hh, hhe⟩ := Int.eq_ofNat_of_zero_le hh0.1
    let V : Nat := hh * 18446744073709551616 + b
    have hV : vl (a % 18446744073709551616) (b : Int) = (V : Int) := by rw [hhe]; simp only [vl, V]; omega
    have hVlt : V < 2 ^ 128 := by
      have : (2 : Nat) ^ 128 = 340282366920938463463374607431768211456 := by decide
      omega
    rw [hV] at h
    have hy0 : 0 < y := by omega
    refine ALoop.invg (ps := [(0, 0), (1, 1)]) (ts := [1, 2, 4, 5, 6, 7]) (nx := 2) (jp a b y V) (fun i => i ≤ 128) (fun i => i) (fun i hi128 => ?_) (by kernel_rfl) 128 ?_ (Nat.le_refl _)
    · have hyV : ∀ n, V / 2 ^ n % y < y := fun n => Nat.mod_lt _ hy0
      unfold jp
      refine (t_parted1 I (fun v => K v ∧ cl v = true) _ a b _ y _ _ _ _).mpr ?_
      cases i with
      | zero =>
        refine bsplit_both (fun hx => by simp at hx) (fun _ => ⟨?_, rfl⟩)
        have e0 : V / 2 ^ 0 = V := by simp
        rw [e0, Int.natCast_emod, Int.natCast_ediv]
        exact h
      | succ k =>
        have hii : ((k + 1 : Nat) : Int) - 1 = (k : Int) := by omega
        rw [hii, hhe]
        have htm : ((k : Int).tmod 64) = ((k % 64 : Nat) : Int) := by rw [Int.tmod_eq_emod_of_nonneg (by omega)]; omega
        rw [htm, Int.toNat_natCast]
        have hnx := next_bit V k
        let t := V / 2 ^ k % 2
        have ht2 : t < 2 := Nat.mod_lt _ (by decide)
        have hrl : 2 * (V / 2 ^ (k + 1) % y) + 1 < 18446744073709551616 := by have := hyV (k + 1); omega
        -- both ways to fetch the bit
        have core : ∀ {s1 s2 : St O}, s1 = j_parted a b ((hh : Nat) : Int) y (IntKind.i64.wrap ((k : Int) - 1)) (bits BinOp.or IntKind.u64 (IntKind.u64.wrap (((V / 2 ^ (k + 1) % y : Nat) : Int) * 2 ^ min (Int.toNat 1) IntKind.u64.bits)) ((t : Nat) : Int)) (hi (vl (hi ((V / 2 ^ (k + 1) / y : Nat) : Int)) (lo ((V / 2 ^ (k + 1) / y : Nat) : Int)) + vl (hi ((V / 2 ^ (k + 1) / y : Nat) : Int)) (lo ((V / 2 ^ (k + 1) / y : Nat) : Int)))) (lo (vl (hi ((V / 2 ^ (k + 1) / y : Nat) : Int)) (lo ((V / 2 ^ (k + 1) / y : Nat) : Int)) + vl (hi ((V / 2 ^ (k + 1) / y : Nat) : Int)) (lo ((V / 2 ^ (k + 1) / y : Nat) : Int)))) →
            s2 = j_parted a b ((hh : Nat) : Int) y (IntKind.i64.wrap ((k : Int) - 1)) (IntKind.u64.wrap (bits BinOp.or IntKind.u64 (IntKind.u64.wrap (((V / 2 ^ (k + 1) % y : Nat) : Int) * 2 ^ min (Int.toNat 1) IntKind.u64.bits)) ((t : Nat) : Int) - y)) (hi (vl (hi ((V / 2 ^ (k + 1) / y : Nat) : Int)) (lo ((V / 2 ^ (k + 1) / y : Nat) : Int)) + vl (hi ((V / 2 ^ (k + 1) / y : Nat) : Int)) (lo ((V / 2 ^ (k + 1) / y : Nat) : Int)))) (bits BinOp.or IntKind.u64 (lo (vl (hi ((V / 2 ^ (k + 1) / y : Nat) : Int)) (lo ((V / 2 ^ (k + 1) / y : Nat) : Int)) + vl (hi ((V / 2 ^ (k + 1) / y : Nat) : Int)) (lo ((V / 2 ^ (k + 1) / y : Nat) : Int)))) 1) →
            bsplit (decide (bits BinOp.or IntKind.u64 (IntKind.u64.wrap (((V / 2 ^ (k + 1) % y : Nat) : Int) * 2 ^ min (Int.toNat 1) IntKind.u64.bits)) ((t : Nat) : Int) < (y : Int))) fun
              | true => ∃ z, z ≤ 128 ∧ z < k + 1 ∧ s1 = j_parted a b ((hh : Nat) : Int) y ((z : Int) - 1) ((V / 2 ^ z % y : Nat) : Int) (hi ((V / 2 ^ z / y : Nat) : Int)) (lo ((V / 2 ^ z / y : Nat) : Int))
              | false => ∃ z, z ≤ 128 ∧ z < k + 1 ∧ s2 = j_parted a b ((hh : Nat) : Int) y ((z : Int) - 1) ((V / 2 ^ z % y : Nat) : Int) (hi ((V / 2 ^ z / y : Nat) : Int)) (lo ((V / 2 ^ z / y : Nat) : Int)) := by
          intro s1 s2 h1 h2
          rw [shl_or _ t hrl ht2] at h1 h2 ⊢
          rw [hi_two, lo_two] at h1 h2
          refine bsplit_both (fun hx => ⟨k, by omega, by omega, ?_⟩) (fun hx => ⟨k, by omega, by omega, ?_⟩)
          · have hx' : 2 * (V / 2 ^ (k + 1) % y) + t < y := Int.ofNat_lt.1 (of_decide_eq_true hx)
            obtain ⟨e1, e2⟩ := long_lt hy0 hx'
            rw [h1]
            rw [hnx, e1, e2, s_i64 (by omega)]
            rfl
          · have hx' : y ≤ 2 * (V / 2 ^ (k + 1) % y) + t := Int.ofNat_le.1 (Int.not_lt.1 (of_decide_eq_false hx))
            obtain ⟨e1, e2⟩ := long_ge hy0 ht2 hx'
            rw [h2]
            have e3 : IntKind.u64.wrap (((2 * (V / 2 ^ (k + 1) % y) + t : Nat) : Int) - (y : Int)) = ((2 * (V / 2 ^ (k + 1) % y) + t - y : Nat) : Int) := by
              rw [s_u64 (by omega)]; omega
            rw [hnx, e1, e2, s_i64 (by omega), e3, lo_odd]
            rw [show (((2 * (V / 2 ^ (k + 1) / y) + 1 : Nat)) : Int) = 2 * ((V / 2 ^ (k + 1) / y : Nat) : Int) + 1 by omega, hi_odd]
        refine bsplit_both (fun hx => ?_) (fun hx => absurd hx (by simp))
        refine must_mk (decide_eq_true (by omega)) ?_
        refine bsplit_both (fun hx64 => ?_) (fun hx64 => ?_)
        · refine must_mk (decide_eq_true (by omega)) ?_
          have h64 : 64 ≤ k := by simp at hx64; omega
          have eb : bits BinOp.and IntKind.u64 (((hh : Nat) : Int).fdiv (2 ^ min (k % 64) IntKind.u64.bits)) 1 = ((t : Nat) : Int) := by
            rw [bit_of hh (k % 64) (by omega) (by omega)]
            have : k % 64 = k - 64 := by omega
            rw [this]
            show _ = ((V / 2 ^ k % 2 : Nat) : Int)
            rw [bit_hi hh b k (by omega) h64]
          rw [eb]
          exact core rfl rfl
        · have h64 : k < 64 := by simp at hx64; omega
          have eb : bits BinOp.and IntKind.u64 (((b : Nat) : Int).fdiv (2 ^ min (k % 64) IntKind.u64.bits)) 1 = ((t : Nat) : Int) := by
            rw [bit_of b (k % 64) (by omega) (by omega)]
            have : k % 64 = k := by omega
            rw [this]
            show _ = ((V / 2 ^ k % 2 : Nat) : Int)
            rw [bit_lo hh b k h64]
          rw [eb]
          exact core rfl rfl
    · refine (show _ = j_parted a b (IntKind.u64.wrap a) y 127 0 0 0 by kernel_rfl).trans ?_
      have : V / 2 ^ 128 = 0 := Nat.div_eq_of_lt hVlt
      unfold jp
      rw [this, hwa]
      simp [hi, lo]
  · exact h.elim
end Go.Tb.W

/- The wide numbers' functions do what their contracts say, part 4. -/
set_option linter.all false
set_option maxRecDepth 100000
namespace Go.Tb.W
open Go Go.Proofs
variable {I : Interp O}
theorem g2 : GOk I P (Gm E2) := by
  refine Gm.consP ?_ k_less
  refine Gm.consP ?_ k_int
  refine Gm.consP ?_ k_cmpi
  refine Gm.consP ?_ k_cmpu
  refine Gm.consP ?_ k_parted
  exact g1
theorem ov_eq {K : AV → Prop} {x : Int} (h : K (ov x)) : (fit x = true → K (.tup [.agg [.int .i64 (hi x), .int .u64 (lo x)], .int .i64 0])) ∧ (fit x = false → K (.tup [.agg [.int .i64 0, .int .u64 0], .int .i64 6])) := by
  unfold ov at h
  constructor <;> (intro hf; rw [hf] at h; exact h)
theorem k_add : ∀ (args : List AV) (K : AV → Prop), c_add args K → ∀ hp, ACall I P 30 args hp (fun v hp' => K v ∧ hp' = hp) := by
  intro args K h hp
  unfold c_add at h; split at h
  · rename_i a b c d
    refine pcall mix g2 (fn := Try.f30) (by kernel_rfl) (by kernel_rfl) (by kernel_rfl) rfl rfl (fun hr => ?_) hp
    refine (t_add I (fun v => K v ∧ cl v = true) a b c d).mpr ?_
    simp only [rgs, rg, Bool.and_eq_true] at hr
    obtain ⟨⟨ha, hb, _⟩, ⟨hc, hd, _⟩, _⟩ := hr
    have ha := r_i64 ha; have hb := r_u64 hb; have hc := r_i64 hc; have hd := r_u64 hd
    obtain ⟨h1, h2⟩ := ov_eq h
    refine bsplit_both (fun hx => bsplit_both (fun hy => ⟨h2 ?_, rfl⟩) (fun hy => ⟨h1 ?_, rfl⟩)) (fun hx => ⟨h1 ?_, rfl⟩)
    · rw [← Bool.not_eq_true, fit_iff]
      rcases Int.lt_or_le a 0 with h | h <;> rcases Int.lt_or_le c 0 with h' | h' <;> rcases Int.lt_or_le (hi (vl a b + vl c d)) 0 with h'' | h'' <;> simp [h, h', h'', Int.not_lt.2 h, Int.not_lt.2 h', Int.not_lt.2 h''] at hx hy <;> unfold hi vl at h'' <;> unfold vl <;> omega
    · rw [fit_iff]
      rcases Int.lt_or_le a 0 with h | h <;> rcases Int.lt_or_le c 0 with h' | h' <;> rcases Int.lt_or_le (hi (vl a b + vl c d)) 0 with h'' | h'' <;> simp [h, h', h'', Int.not_lt.2 h, Int.not_lt.2 h', Int.not_lt.2 h''] at hx hy <;> unfold hi vl at h'' <;> unfold vl <;> omega
    · rw [fit_iff]
      rcases Int.lt_or_le a 0 with h | h <;> rcases Int.lt_or_le c 0 with h' | h' <;> simp [h, h', Int.not_lt.2 h, Int.not_lt.2 h'] at hx <;> unfold vl <;> omega
  · exact h.elim
theorem hi_less (x a c d : Int) : hi (x + vl (hi (-vl c d)) (lo (-vl c d))) = hi (x - vl c d) := by unfold hi lo vl; omega
theorem lo_less (x a c d : Int) : lo (x + vl (hi (-vl c d)) (lo (-vl c d))) = lo (x - vl c d) := by unfold hi lo vl; omega
theorem k_sub : ∀ (args : List AV) (K : AV → Prop), c_sub args K → ∀ hp, ACall I P 33 args hp (fun v hp' => K v ∧ hp' = hp) := by
  intro args K h hp
  unfold c_sub at h; split at h
  · rename_i a b c d
    refine pcall mix g2 (fn := Try.f33) (by kernel_rfl) (by kernel_rfl) (by kernel_rfl) rfl rfl (fun hr => ?_) hp
    refine (t_sub I (fun v => K v ∧ cl v = true) a b c d).mpr ?_
    simp only [rgs, rg, Bool.and_eq_true] at hr
    obtain ⟨⟨ha, hb, _⟩, ⟨hc, hd, _⟩, _⟩ := hr
    have ha := r_i64 ha; have hb := r_u64 hb; have hc := r_i64 hc; have hd := r_u64 hd
    obtain ⟨h1, h2⟩ := ov_eq h
    rw [hi_less _ a c d, lo_less _ a c d]
    refine bsplit_both (fun hx => bsplit_both (fun hy => ⟨h2 ?_, rfl⟩) (fun hy => ⟨h1 ?_, rfl⟩)) (fun hx => ⟨h1 ?_, rfl⟩)
    · rw [← Bool.not_eq_true, fit_iff]
      rcases Int.lt_or_le a 0 with h | h <;> rcases Int.lt_or_le c 0 with h' | h' <;> rcases Int.lt_or_le (hi (vl a b - vl c d)) 0 with h'' | h'' <;> simp [h, h', h'', Int.not_lt.2 h, Int.not_lt.2 h', Int.not_lt.2 h''] at hx hy <;> unfold hi vl at h'' <;> unfold vl <;> omega
    · rw [fit_iff]
      rcases Int.lt_or_le a 0 with h | h <;> rcases Int.lt_or_le c 0 with h' | h' <;> rcases Int.lt_or_le (hi (vl a b - vl c d)) 0 with h'' | h'' <;> simp [h, h', h'', Int.not_lt.2 h, Int.not_lt.2 h', Int.not_lt.2 h''] at hx hy <;> unfold hi vl at h'' <;> unfold vl <;> omega
    · rw [fit_iff]
      rcases Int.lt_or_le a 0 with h | h <;> rcases Int.lt_or_le c 0 with h' | h' <;> simp [h, h', Int.not_lt.2 h, Int.not_lt.2 h'] at hx <;> unfold vl <;> omega
  · exact h.elim
theorem sgn_lex (a b c d : Int) (hb : 0 ≤ b ∧ b ≤ 18446744073709551615) (hd : 0 ≤ d ∧ d ≤ 18446744073709551615) : ifB (decide (sgn a c = 0)) (sgn b d) (sgn a c) = sgn (vl a b) (vl c d) := by
  have s3 : ∀ x y : Int, (x < y ∧ sgn x y = -1) ∨ (x = y ∧ sgn x y = 0) ∨ (y < x ∧ sgn x y = 1) := fun x y => by
    unfold sgn
    rcases Int.lt_trichotomy x y with h | h | h
    · exact .inl ⟨h, by simp [h, ifB]⟩
    · subst h; exact .inr (.inl ⟨rfl, by simp [ifB]⟩)
    · refine .inr (.inr ⟨h, ?_⟩)
      have h1 : ¬ x < y := by omega
      have h2 : x ≠ y := by omega
      simp [h1, h2, ifB]
  rcases s3 a c with ⟨h, e⟩ | ⟨h, e⟩ | ⟨h, e⟩ <;> rcases s3 b d with ⟨h', e'⟩ | ⟨h', e'⟩ | ⟨h', e'⟩ <;> rcases s3 (vl a b) (vl c d) with ⟨h'', e''⟩ | ⟨h'', e''⟩ | ⟨h'', e''⟩ <;> rw [e, e', e''] <;> first | rfl | (exfalso; unfold vl at h''; omega)
theorem k_cmp : ∀ (args : List AV) (K : AV → Prop), c_cmp args K → ∀ hp, ACall I P 32 args hp (fun v hp' => K v ∧ hp' = hp) := by
  intro args K h hp
  unfold c_cmp at h; split at h
  · rename_i a b c d
    refine pcall mix g2 (fn := Try.f32) (by kernel_rfl) (by kernel_rfl) (by kernel_rfl) rfl rfl (fun hr => ?_) hp
    refine (t_cmp I (fun v => K v ∧ cl v = true) a b c d).mpr ⟨?_, rfl⟩
    simp only [rgs, rg, Bool.and_eq_true] at hr
    obtain ⟨⟨ha, hb, _⟩, ⟨hc, hd, _⟩, _⟩ := hr
    rw [sgn_lex a b c d (r_u64 hb) (r_u64 hd)]
    exact h
  · exact h.elim
end Go.Tb.W

/- The wide numbers' functions do what their contracts say, part 5: products, division, and what is fixed. -/
set_option linter.all false
set_option maxRecDepth 100000
namespace Go.Tb.W
open Go Go.Proofs
variable {I : Interp O}
def q32 (x : Int) : Int := x.fdiv (2 ^ min (Int.toNat 32) IntKind.u64.bits)
def m32 (x : Int) : Int := bits BinOp.and IntKind.u64 x 4294967295
def tLow (x y : Int) : Int := IntKind.u64.wrap (m32 x * m32 y)
def tMid (x y : Int) : Int := IntKind.u64.wrap (IntKind.u64.wrap (q32 x * m32 y) + q32 (tLow x y))
def tMore (x y : Int) : Int := IntKind.u64.wrap (IntKind.u64.wrap (m32 x * q32 y) + m32 (tMid x y))
def tHigh (x y : Int) : Int := IntKind.i64.wrap (IntKind.u64.wrap (IntKind.u64.wrap (IntKind.u64.wrap (q32 x * q32 y) + q32 (tMid x y)) + q32 (tMore x y)))
def tL (x y : Int) : Int := bits BinOp.or IntKind.u64 (IntKind.u64.wrap (tMore x y * 2 ^ min (Int.toNat 32) IntKind.u64.bits)) (m32 (tLow x y))
theorem q32_eq (x : Int) : q32 x = x / 4294967296 := shr_eq (b := 4294967296) x 32 _ (by decide) (by decide)
theorem school (x y : Int) (hx : 0 ≤ x ∧ x ≤ 9223372036854775808) (hy : 0 ≤ y ∧ y ≤ 9223372036854775808) : tHigh x y = x * y / 18446744073709551616 ∧ tL x y = x * y % 18446744073709551616 := by
  have mx : m32 x = x % 4294967296 := and_half x (by omega)
  have my : m32 y = y % 4294967296 := and_half y (by omega)
  have hx1 : 0 ≤ x / 4294967296 ∧ x / 4294967296 ≤ 2147483648 := by omega
  have hy1 : 0 ≤ y / 4294967296 ∧ y / 4294967296 ≤ 2147483648 := by omega
  have hx0 : 0 ≤ x % 4294967296 ∧ x % 4294967296 ≤ 4294967295 := by omega
  have hy0 : 0 ≤ y % 4294967296 ∧ y % 4294967296 ≤ 4294967295 := by omega
  have bound : ∀ {u v p q : Int}, 0 ≤ u ∧ u ≤ p → 0 ≤ v ∧ v ≤ q → 0 ≤ u * v ∧ u * v ≤ p * q := fun {u v p q} hu hv =>
    ⟨Int.mul_nonneg hu.1 hv.1, Int.mul_le_mul hu.2 hv.2 hv.1 (Int.le_trans hu.1 hu.2)⟩
  have p00 := bound hx0 hy0
  have p10 := bound hx1 hy0
  have p01 := bound hx0 hy1
  have p11 := bound hx1 hy1
  have hxy : x * y = (x / 4294967296) * (y / 4294967296) * 18446744073709551616 + ((x / 4294967296) * (y % 4294967296) + (x % 4294967296) * (y / 4294967296)) * 4294967296 + (x % 4294967296) * (y % 4294967296) := by
    have ex : x = (x / 4294967296) * 4294967296 + x % 4294967296 := by omega
    have ey : y = (y / 4294967296) * 4294967296 + y % 4294967296 := by omega
    generalize x / 4294967296 = a at *
    generalize x % 4294967296 = b at *
    generalize y / 4294967296 = c at *
    generalize y % 4294967296 = d at *
    subst ex; subst ey
    rw [Int.add_mul, Int.mul_add, Int.mul_add, Int.mul_assoc a, Int.mul_comm 4294967296 (c * _), Int.mul_assoc c, ← Int.mul_assoc a, Int.mul_assoc a 4294967296 d, Int.mul_comm 4294967296 d, ← Int.mul_assoc a d, ← Int.mul_assoc b c]
    omega
  have hlow : tLow x y = (x % 4294967296) * (y % 4294967296) := by unfold tLow; rw [mx, my]; exact s_u64 (by omega)
  have hmid : tMid x y = (x / 4294967296) * (y % 4294967296) + (x % 4294967296) * (y % 4294967296) / 4294967296 := by
    unfold tMid; rw [hlow, q32_eq, q32_eq, my, s_u64 (n := x / 4294967296 * (y % 4294967296)) (by omega)]; exact s_u64 (by omega)
  have hmore : tMore x y = (x % 4294967296) * (y / 4294967296) + tMid x y % 4294967296 := by
    unfold tMore
    have : m32 (tMid x y) = tMid x y % 4294967296 := and_half _ (by rw [hmid]; omega)
    rw [this, q32_eq, mx, s_u64 (n := x % 4294967296 * (y / 4294967296)) (by omega)]; exact s_u64 (by omega)
  have hbl : tL x y = tMore x y % 4294967296 * 4294967296 + (x % 4294967296) * (y % 4294967296) % 4294967296 := by
    unfold tL
    have e1 : m32 (tLow x y) = (x % 4294967296) * (y % 4294967296) % 4294967296 := by rw [hlow]; exact and_half _ (by omega)
    have e2 : IntKind.u64.wrap (tMore x y * 2 ^ min (Int.toNat 32) IntKind.u64.bits) = tMore x y % 4294967296 * 4294967296 := by
      rw [show (2 : Int) ^ min (Int.toNat 32) IntKind.u64.bits = 4294967296 by decide, w_u64]; omega
    rw [e1, e2, or_add 32 _ _ (by omega) (by omega) (by omega) (by omega)]
  have hhigh : tHigh x y = (x / 4294967296) * (y / 4294967296) + tMid x y / 4294967296 + tMore x y / 4294967296 := by
    unfold tHigh
    rw [q32_eq, q32_eq, q32_eq, q32_eq, s_u64 (n := x / 4294967296 * (y / 4294967296)) (by omega), s_u64 (n := _ + tMid x y / 4294967296) (by omega), s_u64 (by omega)]
    exact s_i64 (by omega)
  rw [hhigh, hbl, hmore, hmid, hxy]
  generalize (x / 4294967296) * (y / 4294967296) = A at *
  generalize (x / 4294967296) * (y % 4294967296) = B at *
  generalize (x % 4294967296) * (y / 4294967296) = C at *
  generalize (x % 4294967296) * (y % 4294967296) = D at *
  constructor <;> omega
theorem k_times : ∀ (args : List AV) (K : AV → Prop), c_times args K → ∀ hp, ACall I P 59 args hp (fun v hp' => K v ∧ hp' = hp) := by
  intro args K h hp
  unfold c_times at h; split at h
  · rename_i a b
    refine pcall mix g2 (fn := Try.f59) (by kernel_rfl) (by kernel_rfl) (by kernel_rfl) rfl rfl (fun hr => ?_) hp
    refine (t_times I (fun v => K v ∧ cl v = true) a b).mpr ?_
    simp only [rgs, rg, Bool.and_eq_true] at hr
    obtain ⟨ha, hb, _⟩ := hr
    have ha := r_i64 ha; have hb := r_i64 hb
    have aa : (a < 0 ∧ absI a = -a) ∨ (0 ≤ a ∧ absI a = a) := by
      rcases Int.lt_or_le a 0 with h | h
      · exact .inl ⟨h, by simp [absI, h, ifB]⟩
      · exact .inr ⟨h, by simp [absI, Int.not_lt.2 h, ifB]⟩
    have bb : (b < 0 ∧ absI b = -b) ∨ (0 ≤ b ∧ absI b = b) := by
      rcases Int.lt_or_le b 0 with h | h
      · exact .inl ⟨h, by simp [absI, h, ifB]⟩
      · exact .inr ⟨h, by simp [absI, Int.not_lt.2 h, ifB]⟩
    have hs := school (absI a) (absI b) (by omega) (by omega)
    have hp : 0 ≤ absI a * absI b := Int.mul_nonneg (by omega) (by omega)
    have hpu : absI a * absI b ≤ 9223372036854775808 * 9223372036854775808 := Int.mul_le_mul (by omega) (by omega) (by omega) (by omega)
    show bsplit (!decide (a < 0) == decide (b < 0)) fun
      | true => (K (.agg [.int .i64 (hi (-vl (tHigh (absI a) (absI b)) (tL (absI a) (absI b)))), .int .u64 (lo (-vl (tHigh (absI a) (absI b)) (tL (absI a) (absI b))))]) ∧ cl (.agg [.int .i64 (hi (-vl (tHigh (absI a) (absI b)) (tL (absI a) (absI b)))), .int .u64 (lo (-vl (tHigh (absI a) (absI b)) (tL (absI a) (absI b))))]) = true)
      | false => (K (.agg [.int .i64 (tHigh (absI a) (absI b)), .int .u64 (tL (absI a) (absI b))]) ∧ cl (.agg [.int .i64 (tHigh (absI a) (absI b)), .int .u64 (tL (absI a) (absI b))]) = true)
    rw [hs.1, hs.2]
    refine bsplit_both (fun hx => ⟨?_, rfl⟩) (fun hx => ⟨?_, rfl⟩)
    · have e : -(vl (absI a * absI b / 18446744073709551616) (absI a * absI b % 18446744073709551616)) = a * b := by
        have : vl (absI a * absI b / 18446744073709551616) (absI a * absI b % 18446744073709551616) = absI a * absI b := by unfold vl; omega
        rw [this]
        rcases aa with ⟨h1, e1⟩ | ⟨h1, e1⟩ <;> rcases bb with ⟨h2, e2⟩ | ⟨h2, e2⟩ <;> rw [e1, e2]
        · simp [h1, h2] at hx
        · rw [Int.neg_mul, Int.neg_neg]
        · rw [Int.mul_neg, Int.neg_neg]
        · simp [Int.not_lt.2 h1, Int.not_lt.2 h2] at hx
      rw [e]; exact h
    · have e : absI a * absI b = a * b := by
        rcases aa with ⟨h1, e1⟩ | ⟨h1, e1⟩ <;> rcases bb with ⟨h2, e2⟩ | ⟨h2, e2⟩ <;> rw [e1, e2]
        · rw [Int.neg_mul_neg]
        · simp [h1, Int.not_lt.2 h2] at hx
        · simp [Int.not_lt.2 h1, h2] at hx
      rw [wd_eq (x := a * b)]
      · exact h
      · rw [e] at hp hpu ⊢; unfold hi; omega
      · rw [e]; rfl
  · exact h.elim
end Go.Tb.W

/- The wide numbers' functions do what their contracts say, part 6: division, and what is fixed. -/
set_option linter.all false
set_option maxRecDepth 100000
namespace Go.Tb.W
open Go Go.Proofs
variable {I : Interp O}
theorem ifB_true {b : Bool} (h : b = true) (x y : Int) : ifB b x y = x := by subst h; rfl
theorem ifB_false {b : Bool} (h : b = false) (x y : Int) : ifB b x y = y := by subst h; rfl
/-- Division that goes down, of what is below 0: by the other number, -x - 1. -/
theorem div_neg' (x y : Int) (hy : 0 < y) : x / y = -((-x - 1) / y) - 1 ∧ x % y = y - 1 - (-x - 1) % y := by
  have h1 := Int.emod_add_mul_ediv (-x - 1) y
  have h2 := Int.emod_nonneg (-x - 1) (show y ≠ 0 by omega)
  have h3 := Int.emod_lt_of_pos (-x - 1) hy
  have e : x = (y - 1 - (-x - 1) % y) + y * (-((-x - 1) / y) - 1) := by
    rw [Int.mul_sub, Int.mul_neg, Int.mul_one]; omega
  have hr : 0 ≤ y - 1 - (-x - 1) % y ∧ y - 1 - (-x - 1) % y < y := by omega
  constructor
  · have h := Int.add_mul_ediv_left (y - 1 - (-x - 1) % y) (-((-x - 1) / y) - 1) (show y ≠ 0 by omega)
    rw [← e, Int.ediv_eq_zero_of_lt hr.1 hr.2] at h
    omega
  · have h := Int.add_mul_emod_self_left (y - 1 - (-x - 1) % y) y (-((-x - 1) / y) - 1)
    rw [← e, Int.emod_eq_of_lt hr.1 hr.2] at h
    exact h
theorem k_div : ∀ (args : List AV) (K : AV → Prop), c_div args K → ∀ hp, ACall I P 58 args hp (fun v hp' => K v ∧ hp' = hp) := by
  intro args K h hp
  unfold c_div at h; split at h
  · rename_i a b y
    refine pcall mix g2 (fn := Try.f58) (by kernel_rfl) (by kernel_rfl) (by kernel_rfl) rfl rfl (fun hr => ?_) hp
    refine (t_div I (fun v => K v ∧ cl v = true) a b y).mpr ?_
    simp only [rgs, rg, Bool.and_eq_true] at hr
    obtain ⟨⟨ha, hb, _⟩, hy, _⟩ := hr
    have ha := r_i64 ha; have hb := r_u64 hb; have hy := r_i64 hy
    refine bsplit_both (fun hx => ⟨?_, rfl⟩) (fun hx => ?_)
    · simp only [ifB_true hx] at h; exact h
    · simp only [ifB_false hx] at h
      have hy1 : 1 ≤ y := by simpa using hx
      have hwy : IntKind.u64.wrap y = y := s_u64 (by omega)
      have hyz : y ≠ 0 := by omega
      rw [hwy]
      refine bsplit_both (fun hp => must_mk (by simp; omega) ?_) (fun hn => must_mk (by simp; omega) ?_)
      · have ha0 : 0 ≤ a := by simpa using hp
        have : a % 18446744073709551616 = a := by omega
        rw [this]
        have h1 := Int.emod_nonneg (vl a b) hyz
        have h2 := Int.emod_lt_of_pos (vl a b) (show 0 < y by omega)
        rw [s_i64 (n := vl a b % y) (by omega)]
        exact ⟨h, rfl⟩
      · have ha0 : a < 0 := by simpa using hn
        rw [not_i64 a ha, not_u64 b hb]
        have : (-a - 1) % 18446744073709551616 = -a - 1 := by omega
        rw [this]
        have hvl : vl (-a - 1) (18446744073709551615 - b) = -(vl a b) - 1 := by unfold vl; omega
        rw [hvl]
        obtain ⟨e1, e2⟩ := div_neg' (vl a b) y (by omega)
        have h1 := Int.emod_nonneg (-(vl a b) - 1) hyz
        have h2 := Int.emod_lt_of_pos (-(vl a b) - 1) (show 0 < y by omega)
        rw [s_i64 (n := (-(vl a b) - 1) % y) (by omega), s_i64 (n := y - 1) (by omega), s_i64 (by omega), ← e2]
        have b1 : -9223372036854775808 ≤ hi ((-(vl a b) - 1) / y) ∧ hi ((-(vl a b) - 1) / y) ≤ 9223372036854775807 := by unfold hi; omega
        have b2 : 0 ≤ lo ((-(vl a b) - 1) / y) ∧ lo ((-(vl a b) - 1) / y) ≤ 18446744073709551615 := by unfold lo; omega
        rw [not_i64 _ b1, not_u64 _ b2]
        rw [e1] at h
        generalize (-(vl a b) - 1) / y = q at *
        have e3 : -hi q - 1 = hi (-q - 1) := by unfold hi; omega
        have e4 : 18446744073709551615 - lo q = lo (-q - 1) := by unfold lo; omega
        rw [e3, e4]
        exact ⟨h, rfl⟩
  · exact h.elim
theorem g3 : GOk I P (Gm E3) := by
  refine Gm.consP ?_ k_add
  refine Gm.consP ?_ k_sub
  refine Gm.consP ?_ k_cmp
  refine Gm.consP ?_ k_times
  refine Gm.consP ?_ k_div
  exact g2
theorem k_part : ∀ (args : List AV) (K : AV → Prop), c_part args K → ∀ hp, ACall I P 46 args hp (fun v hp' => K v ∧ hp' = hp) := by
  intro args K h hp
  unfold c_part at h; split at h
  · rename_i a b y
    refine pcall mix g3 (fn := Try.f46) (by kernel_rfl) (by kernel_rfl) (by kernel_rfl) rfl rfl (fun hr => ?_) hp
    refine (t_part I (fun v => K v ∧ cl v = true) a b y).mpr ?_
    simp only [rgs, rg, Bool.and_eq_true] at hr
    obtain ⟨ha, hb, hy, _⟩ := hr
    have ha := r_i64 ha; have hb := r_i64 hb; have hy := r_i64 hy
    cases hx : decide (y < 1) with
    | true =>
      rw [hx] at h
      exact ⟨h, rfl⟩
    | false =>
      rw [hx] at h
      have hy1 : 1 ≤ y := by simpa using hx
      -- the product, and its part, fit into 128 bits
      have hab : -85070591730234615865843651857942052864 ≤ a * b ∧ a * b ≤ 85070591730234615865843651857942052864 := by
        have h1 : (a * b).natAbs ≤ 9223372036854775808 * 9223372036854775808 := by rw [Int.natAbs_mul]; exact Nat.mul_le_mul (by omega) (by omega)
        omega
      have v1 : vl (hi (a * b)) (lo (a * b)) = a * b := by unfold vl hi lo; omega
      have hq : -85070591730234615865843651857942052864 ≤ a * b / y ∧ a * b / y ≤ 85070591730234615865843651857942052864 := by
        constructor
        · rw [Int.le_ediv_iff_mul_le (by omega)]
          have := Int.mul_le_mul_of_nonpos_left (show (-85070591730234615865843651857942052864 : Int) ≤ 0 by decide) hy1
          omega
        · rcases Int.le_total 0 (a * b) with h0 | h0
          · exact Int.le_trans (Int.ediv_le_self y h0) hab.2
          · have := Int.ediv_le_ediv (show 0 < y by omega) h0; rw [Int.zero_ediv] at this; omega
      have v2 : vl (hi (a * b / y)) (lo (a * b / y)) = a * b / y := by unfold vl hi lo; omega
      rw [v1]
      simp only [ifB_false rfl] at h ⊢
      rw [v2]
      exact ⟨h, rfl⟩
  · exact h.elim
theorem g4 : GOk I P (Gm E4) := by
  refine Gm.consP ?_ k_part
  exact g3
end Go.Tb.W

/- What the wide numbers' functions tell, of halves that are known by what they are worth. -/
set_option linter.all false
set_option maxRecDepth 100000
namespace Go.Tb.W
open Go Go.Proofs
/-- h and l are the halves of x. -/
def Nm (h l x : Int) : Prop := (-9223372036854775808 ≤ h ∧ h ≤ 9223372036854775807) ∧ (0 ≤ l ∧ l ≤ 18446744073709551615) ∧ vl h l = x
def AddR (x h l e : Int) : Prop := (e = 0 ∧ Nm h l x) ∨ (e = 6 ∧ h = 0 ∧ l = 0 ∧ (x < -170141183460469231731687303715884105728 ∨ 170141183460469231731687303715884105727 < x))
def I64R (x n e : Int) : Prop := (e = 0 ∧ n = x ∧ -9223372036854775808 ≤ x ∧ x ≤ 9223372036854775807) ∨ (e = 6 ∧ n = 0 ∧ (x < -9223372036854775808 ∨ 9223372036854775807 < x))
def DivR (x y h l r e : Int) : Prop := (y < 1 ∧ h = 0 ∧ l = 0 ∧ r = 0 ∧ e = 1) ∨ (1 ≤ y ∧ Nm h l (x / y) ∧ r = x % y ∧ e = 0)
def PartR (a b y n e : Int) : Prop := (y < 1 ∧ n = 0 ∧ e = 1) ∨ (1 ≤ y ∧ I64R (a * b / y) n e)
def CmpR (x y n : Int) : Prop := (x < y ∧ n = -1) ∨ (x = y ∧ n = 0) ∨ (y < x ∧ n = 1)
def u_of (args : List AV) (K : AV → Prop) : Prop := match args with
  | [.int .i64 a] => ∀ h l, Nm h l a → K (.agg [.int .i64 h, .int .u64 l])
  | _ => False
def u_add (args : List AV) (K : AV → Prop) : Prop := match args with
  | [.agg [.int .i64 a, .int .u64 b], .agg [.int .i64 c, .int .u64 d]] => ∀ h l e, AddR (vl a b + vl c d) h l e → K (.tup [.agg [.int .i64 h, .int .u64 l], .int .i64 e])
  | _ => False
def u_sub (args : List AV) (K : AV → Prop) : Prop := match args with
  | [.agg [.int .i64 a, .int .u64 b], .agg [.int .i64 c, .int .u64 d]] => ∀ h l e, AddR (vl a b - vl c d) h l e → K (.tup [.agg [.int .i64 h, .int .u64 l], .int .i64 e])
  | _ => False
def u_int (args : List AV) (K : AV → Prop) : Prop := match args with
  | [.agg [.int .i64 a, .int .u64 b]] => ∀ n e, I64R (vl a b) n e → K (.tup [.int .i64 n, .int .i64 e])
  | _ => False
def u_times (args : List AV) (K : AV → Prop) : Prop := match args with
  | [.int .i64 a, .int .i64 b] => ∀ h l, Nm h l (a * b) → K (.agg [.int .i64 h, .int .u64 l])
  | _ => False
def u_div (args : List AV) (K : AV → Prop) : Prop := match args with
  | [.agg [.int .i64 a, .int .u64 b], .int .i64 y] => ∀ h l r e, DivR (vl a b) y h l r e → K (.tup [.agg [.int .i64 h, .int .u64 l], .int .i64 r, .int .i64 e])
  | _ => False
def u_part (args : List AV) (K : AV → Prop) : Prop := match args with
  | [.int .i64 a, .int .i64 b, .int .i64 y] => ∀ n e, PartR a b y n e → K (.tup [.int .i64 n, .int .i64 e])
  | _ => False
def u_cmp (args : List AV) (K : AV → Prop) : Prop := match args with
  | [.agg [.int .i64 a, .int .u64 b], .agg [.int .i64 c, .int .u64 d]] => ∀ n, CmpR (vl a b) (vl c d) n → K (.int .i64 n)
  | _ => False
noncomputable abbrev U : List (FuncId × Sp O) :=
  (31, .p u_of) ::
  (30, .p u_add) ::
  (33, .p u_sub) ::
  (43, .p u_int) ::
  (59, .p u_times) ::
  (58, .p u_div) ::
  (46, .p u_part) ::
  (32, .p u_cmp) ::
  []
end Go.Tb.W

/- What the wide numbers' functions tell, of halves that are known by what they are worth: proved. -/
set_option linter.all false
set_option maxRecDepth 100000
namespace Go.Tb.W
open Go Go.Proofs
variable {I : Interp O}
theorem bsT {b : Bool} {K : Bool → Prop} (h : b = true) (k : K true) : bsplit b K := by subst h; exact k
theorem bsF {b : Bool} {K : Bool → Prop} (h : b = false) (k : K false) : bsplit b K := by subst h; exact k
theorem nm_of {x : Int} (h : -170141183460469231731687303715884105728 ≤ x ∧ x ≤ 170141183460469231731687303715884105727) : Nm (hi x) (lo x) x := by unfold Nm vl hi lo; omega
theorem nm_inj {h l h' l' x : Int} (a : Nm h l x) (b : Nm h' l' x) : h = h' ∧ l = l' := by unfold Nm vl at *; omega
theorem nm_iff {h l h' l' x y : Int} (a : Nm h l x) (b : Nm h' l' y) : (h = h' ∧ l = l') ↔ x = y := by unfold Nm vl at *; omega
theorem nm_neg {h l x : Int} (a : Nm h l x) : h < 0 ↔ x < 0 := by unfold Nm vl at *; omega
theorem nm_bound {h l x : Int} (a : Nm h l x) : -170141183460469231731687303715884105728 ≤ x ∧ x ≤ 170141183460469231731687303715884105727 := by unfold Nm vl at *; omega
theorem nm_self {h l : Int} (h1 : -9223372036854775808 ≤ h ∧ h ≤ 9223372036854775807) (h2 : 0 ≤ l ∧ l ≤ 18446744073709551615) : Nm h l (vl h l) := ⟨h1, h2, rfl⟩
theorem ulift {f : FuncId} {fn : Func} (hf : P.funcs[f]? = some fn) (hname : (fn.name == "runtime.NumGoroutine") = false) (hb : fn.body.isSome = true)
    {s s' : List AV → (AV → Prop) → Prop} (k : ∀ (args : List AV) (K : AV → Prop), s args K → ∀ hp, ACall I P f args hp (fun v hp' => K v ∧ hp' = hp))
    (imp : ∀ (args : List AV) (K : AV → Prop), s' args K → rgs args = true → s args K) : ∀ (args : List AV) (K : AV → Prop), s' args K → ∀ hp, ACall I P f args hp (fun v hp' => K v ∧ hp' = hp) :=
  fun args K h hp => ACall.of_rg (callable hf hname hb) fun hr => k args K (imp args K h hr) hp
theorem addR_ov {x : Int} : AddR x (ifB (fit x) (hi x) 0) (ifB (fit x) (lo x) 0) (ifB (fit x) 0 6) := by
  cases hx : fit x with
  | true => have := fit_iff.1 hx; exact .inl ⟨rfl, nm_of (by omega)⟩
  | false => exact .inr ⟨rfl, rfl, rfl, by have := mt (fit_iff (x := x)).2 (by simp [hx]); omega⟩
theorem i64R_ov {x : Int} : I64R x (ifB (fit64 x) x 0) (ifB (fit64 x) 0 6) := by
  cases hx : fit64 x with
  | true => have := fit64_iff.1 hx; exact .inl ⟨rfl, rfl, by omega⟩
  | false => exact .inr ⟨rfl, rfl, by have := mt (fit64_iff (x := x)).2 (by simp [hx]); omega⟩
theorem cmpR_sgn {x y : Int} : CmpR x y (sgn x y) := by
  unfold CmpR sgn
  rcases Int.lt_trichotomy x y with h | h | h
  · simp [h, ifB]
  · subst h; simp [ifB]
  · have h1 : ¬ x < y := by omega
    have h2 : x ≠ y := by omega
    simp [h1, h2, ifB, h]
theorem mul_bd {a b : Int} (ha : -9223372036854775808 ≤ a ∧ a ≤ 9223372036854775807) (hb : -9223372036854775808 ≤ b ∧ b ≤ 9223372036854775807) : -85070591730234615865843651857942052864 ≤ a * b ∧ a * b ≤ 85070591730234615865843651857942052864 := by
  have h1 : (a * b).natAbs ≤ 9223372036854775808 * 9223372036854775808 := by rw [Int.natAbs_mul]; exact Nat.mul_le_mul (by omega) (by omega)
  omega
theorem div_bd {x y : Int} (hx : -170141183460469231731687303715884105728 ≤ x ∧ x ≤ 170141183460469231731687303715884105727) (hy : 1 ≤ y) : -170141183460469231731687303715884105728 ≤ x / y ∧ x / y ≤ 170141183460469231731687303715884105727 := by
  constructor
  · rw [Int.le_ediv_iff_mul_le (by omega)]
    have := Int.mul_le_mul_of_nonpos_left (show (-170141183460469231731687303715884105728 : Int) ≤ 0 by decide) hy
    omega
  · rcases Int.le_total 0 x with h0 | h0
    · exact Int.le_trans (Int.ediv_le_self y h0) hx.2
    · have := Int.ediv_le_ediv (show 0 < y by omega) h0; rw [Int.zero_ediv] at this; omega
theorem v_of : ∀ (args : List AV) (K : AV → Prop), u_of args K → ∀ hp, ACall I P 31 args hp (fun v hp' => K v ∧ hp' = hp) :=
  ulift (fn := Try.f31) (by kernel_rfl) (by kernel_rfl) (by kernel_rfl) k_of fun args K h hr => by
    unfold u_of at h; split at h
    · simp only [rgs, rg, Bool.and_eq_true] at hr
      have := r_i64 hr.1
      exact h _ _ (nm_of (by omega))
    · exact h.elim
theorem v_add : ∀ (args : List AV) (K : AV → Prop), u_add args K → ∀ hp, ACall I P 30 args hp (fun v hp' => K v ∧ hp' = hp) :=
  ulift (fn := Try.f30) (by kernel_rfl) (by kernel_rfl) (by kernel_rfl) k_add fun args K h hr => by
    unfold u_add at h; split at h
    · exact h _ _ _ addR_ov
    · exact h.elim
theorem v_sub : ∀ (args : List AV) (K : AV → Prop), u_sub args K → ∀ hp, ACall I P 33 args hp (fun v hp' => K v ∧ hp' = hp) :=
  ulift (fn := Try.f33) (by kernel_rfl) (by kernel_rfl) (by kernel_rfl) k_sub fun args K h hr => by
    unfold u_sub at h; split at h
    · exact h _ _ _ addR_ov
    · exact h.elim
theorem v_int : ∀ (args : List AV) (K : AV → Prop), u_int args K → ∀ hp, ACall I P 43 args hp (fun v hp' => K v ∧ hp' = hp) :=
  ulift (fn := Try.f43) (by kernel_rfl) (by kernel_rfl) (by kernel_rfl) k_int fun args K h hr => by
    unfold u_int at h; split at h
    · exact h _ _ i64R_ov
    · exact h.elim
theorem v_times : ∀ (args : List AV) (K : AV → Prop), u_times args K → ∀ hp, ACall I P 59 args hp (fun v hp' => K v ∧ hp' = hp) :=
  ulift (fn := Try.f59) (by kernel_rfl) (by kernel_rfl) (by kernel_rfl) k_times fun args K h hr => by
    unfold u_times at h; split at h
    · simp only [rgs, rg, Bool.and_eq_true] at hr
      have := mul_bd (r_i64 hr.1) (r_i64 hr.2.1)
      exact h _ _ (nm_of (by omega))
    · exact h.elim
theorem v_div : ∀ (args : List AV) (K : AV → Prop), u_div args K → ∀ hp, ACall I P 58 args hp (fun v hp' => K v ∧ hp' = hp) :=
  ulift (fn := Try.f58) (by kernel_rfl) (by kernel_rfl) (by kernel_rfl) k_div fun args K h hr => by
    unfold u_div at h; split at h
    · rename_i a b y
      simp only [rgs, rg, Bool.and_eq_true] at hr
      have ha := r_i64 hr.1.1; have hb := r_u64 hr.1.2.1
      refine h _ _ _ _ ?_
      cases hx : decide (y < 1) with
      | true => exact .inl ⟨by simpa using hx, rfl, rfl, rfl, rfl⟩
      | false =>
        have hy : 1 ≤ y := by simpa using hx
        exact .inr ⟨hy, nm_of (div_bd (by unfold vl; omega) hy), rfl, rfl⟩
    · exact h.elim
theorem v_part : ∀ (args : List AV) (K : AV → Prop), u_part args K → ∀ hp, ACall I P 46 args hp (fun v hp' => K v ∧ hp' = hp) :=
  ulift (fn := Try.f46) (by kernel_rfl) (by kernel_rfl) (by kernel_rfl) k_part fun args K h hr => by
    unfold u_part at h; split at h
    · rename_i a b y
      refine h _ _ ?_
      cases hx : decide (y < 1) with
      | true => exact .inl ⟨by simpa using hx, rfl, rfl⟩
      | false => exact .inr ⟨by simpa using hx, i64R_ov⟩
    · exact h.elim
theorem v_cmp : ∀ (args : List AV) (K : AV → Prop), u_cmp args K → ∀ hp, ACall I P 32 args hp (fun v hp' => K v ∧ hp' = hp) :=
  ulift (fn := Try.f32) (by kernel_rfl) (by kernel_rfl) (by kernel_rfl) k_cmp fun args K h hr => by
    unfold u_cmp at h; split at h
    · exact h _ cmpR_sgn
    · exact h.elim
theorem gu : GOk I P (Gm U) := by
  refine Gm.consP ?_ v_of
  refine Gm.consP ?_ v_add
  refine Gm.consP ?_ v_sub
  refine Gm.consP ?_ v_int
  refine Gm.consP ?_ v_times
  refine Gm.consP ?_ v_div
  refine Gm.consP ?_ v_part
  refine Gm.consP ?_ v_cmp
  exact Gm.nil
end Go.Tb.W

/- The document's numbers, bit by bit: what its functions tell. -/
set_option linter.all false
set_option maxRecDepth 100000
namespace Go.Tb.W
open Go Go.Proofs
/-- What bits are worth, the lowest first; one of them. -/
def bv : List Rw → Nat
  | [] => 0
  | x :: r => match x.b 0 with | true => 1 + 2 * bv r | false => 2 * bv r
def bit (xs : List Rw) (i : Nat) : Bool := match xs[i]? with | some x => x.b 0 | none => false
def c1 (b : Bool) : Int := match b with | true => 1 | false => 0
def sv (s : Bool) (n : Nat) : Int := match s with | true => -(n : Int) | false => n
/-- The number v: its sign, and its bits, of which the last one isn't 0. -/
def NR (s : Bool) (xs : List Rw) (k : Nat) (v : Int) : Prop := k ≤ xs.length ∧ (k = 0 ∨ bit xs (k - 1) = true) ∧ sv s (bv (xs.take k)) = v ∧ (s = true → v < 0)
def nv (s : Bool) (xs : List Rw) (k : Nat) : Int := sv s (bv (xs.take k))
def Pre (s : Bool) (xs : List Rw) (k : Nat) : Prop := NR s xs k (nv s xs k) ∧ k ≤ 900
def lenB (xs : List Rw) (l : Nat) : Prop := l ≤ xs.length ∧ l ≤ 2000
def c_at (args : List AV) (hp : Tr (AO O)) (nx : Nat) (K : AV → Tr (AO O) → Nat → Prop) : Prop := match args with
  | [.sl n 0 l c, .int .i64 i] => match Nat.blt n 16777215, hp.get n with
    | true, some (.rows 4 [.b] xs room) => (0 ≤ i ∧ l ≤ xs.length) ∧ K (.bool (bit (xs.take l) i.toNat)) hp nx
    | _, _ => False
  | _ => False
def c_bare (args : List AV) (hp : Tr (AO O)) (nx : Nat) (K : AV → Tr (AO O) → Nat → Prop) : Prop := match args with
  | [.agg [.bool s, .sl n 0 l c]] => match Nat.blt n 16777215, hp.get n with
    | true, some (.rows 4 [.b] xs room) => lenB xs l ∧ ∀ k : Nat, (k ≤ l ∧ bv (xs.take k) = bv (xs.take l) ∧ (k = 0 ∨ bit xs (k - 1) = true)) → K (.agg [.bool (s && decide (0 < k)), .sl n 0 k c]) hp nx
    | _, _ => False
  | _ => False
def c_rsum (args : List AV) (hp : Tr (AO O)) (nx : Nat) (K : AV → Tr (AO O) → Nat → Prop) : Prop := match args with
  | [.sl n 0 l c, .sl m 0 k d] => match Nat.blt n 16777215 && Nat.blt m 16777215 && Nat.blt nx 16777215 && !Nat.beq n m, hp.get n, hp.get m, hp.get nx with
    | true, some (.rows 4 [.b] xs r1), some (.rows 4 [.b] ys r2), none => (lenB xs l ∧ lenB ys k) ∧ ∀ (zs : List Rw) (e room : Nat), (bv zs = bv (xs.take l) + bv (ys.take k) ∧ zs.length ≤ Nat.max l k + 1) →
      K (.sl nx 0 zs.length e) (hp.set nx (some (.rows 4 [.b] zs room))) (nx + 1)
    | _, _, _, _ => False
  | _ => False
def c_greater (args : List AV) (hp : Tr (AO O)) (nx : Nat) (K : AV → Tr (AO O) → Nat → Prop) : Prop := match args with
  | [.sl n 0 l c, .sl m 0 k d] => match Nat.blt n 16777215 && Nat.blt m 16777215 && !Nat.beq n m, hp.get n, hp.get m with
    | true, some (.rows 4 [.b] xs r1), some (.rows 4 [.b] ys r2) => (lenB xs l ∧ lenB ys k) ∧ ∀ r, CmpR (bv (xs.take l)) (bv (ys.take k)) r → K (.int .i64 r) hp nx
    | _, _, _ => False
  | _ => False
def c_off (args : List AV) (hp : Tr (AO O)) (nx : Nat) (K : AV → Tr (AO O) → Nat → Prop) : Prop := match args with
  | [.sl n 0 l c, .sl m 0 k d] => match Nat.blt n 16777215 && Nat.blt m 16777215 && Nat.blt nx 16777215 && !Nat.beq n m, hp.get n, hp.get m, hp.get nx with
    | true, some (.rows 4 [.b] xs r1), some (.rows 4 [.b] ys r2), none => (lenB xs l ∧ lenB ys k ∧ bv (ys.take k) ≤ bv (xs.take l)) ∧ ∀ (zs : List Rw) (e room : Nat), (bv zs + bv (ys.take k) = bv (xs.take l) ∧ zs.length = l) →
      K (.sl nx 0 zs.length e) (hp.set nx (some (.rows 4 [.b] zs room))) (nx + 1)
    | _, _, _, _ => False
  | _ => False
abbrev bo (xs : List Rw) (room : Nat) : AO O := .rows 4 [.b] xs room
noncomputable abbrev Q0 : List (FuncId × Sp O) :=
  (42, .h c_at) ::
  (41, .h c_bare) ::
  []
noncomputable abbrev Q1 : List (FuncId × Sp O) :=
  (55, .h c_rsum) ::
  (56, .h c_greater) ::
  (57, .h c_off) ::
  Q0
noncomputable abbrev j_bare (s : Bool) (l c r : Nat) (xs : List Rw) (k : Int) : St O := ⟨Tr.setL [(1, .ptr 1 0), (2, .ptr 2 0), (3, .int .i64 k)] .leaf,
  Tr.setL [(0, bo xs r), (1, .cells 32 [.bool s, .sl 0 0 l c] 2), (2, .cells 32 [.bool false, .nils] 2)] .leaf, 3, 31⟩
noncomputable abbrev j_rsum (l c r k d q : Nat) (xs ys zs : List Rw) (n e room : Nat) (cy i : Int) : St O := ⟨Tr.setL [(0, .sl 0 0 l c), (1, .sl 1 0 k d), (5, .sl 2 0 n e), (6, .int .i64 cy), (7, .int .i64 i)] .leaf,
  Tr.setL [(0, bo xs r), (1, bo ys q), (2, bo zs room)] .leaf, 3, 46⟩
noncomputable abbrev j_greater (l c r k d q : Nat) (xs ys : List Rw) (i : Int) : St O := ⟨Tr.setL [(0, .sl 0 0 l c), (1, .sl 1 0 k d), (5, .int .i64 i)] .leaf, Tr.setL [(0, bo xs r), (1, bo ys q)] .leaf, 2, 26⟩
noncomputable abbrev j_off (l c r k d q : Nat) (xs ys zs : List Rw) (n e room : Nat) (cy i : Int) : St O := ⟨Tr.setL [(0, .sl 0 0 l c), (1, .sl 1 0 k d), (5, .sl 2 0 n e), (6, .int .i64 cy), (7, .int .i64 i)] .leaf,
  Tr.setL [(0, bo xs r), (1, bo ys q), (2, bo zs room)] .leaf, 3, 40⟩
noncomputable abbrev j_of (s : Bool) (zs : List Rw) (n e room : Nat) (m i : Int) : St O := ⟨Tr.setL [(2, .ptr 0 0), (3, .ptr 1 0), (4, .int .u64 m), (5, .int .i64 i)] .leaf,
  Tr.setL [(0, .cells 32 [.bool false, .nils] 2), (1, .cells 32 [.bool s, .sl 2 0 n e] 2), (2, bo zs room)] .leaf, 3, 32⟩
noncomputable abbrev j_of0 (s : Bool) (m : Int) : St O := ⟨Tr.setL [(2, .ptr 0 0), (3, .ptr 1 0), (4, .int .u64 m), (5, .int .i64 0)] .leaf,
  Tr.setL [(0, .cells 32 [.bool false, .nils] 2), (1, .cells 32 [.bool s, .nils] 2)] .leaf, 2, 32⟩
end Go.Tb.W

/- What the functions' bodies come to: each line is what the abstract machine makes of one function, or of one round of a loop, over the contracts of the functions that it calls (the text was printed by a program of mine; Lean proves it again). -/
set_option linter.all false
set_option maxRecDepth 100000
namespace Go.Tb
open Go Go.Proofs
namespace W
theorem t_at (I : Interp O) (K : AV → Tr (AO O) → Nat → Prop) (l c r : Nat) (i : Int) (xs : List Rw) : abody I P (Gm E0) (adraw P (Gm E0)) 1 Try.f42 [.sl 0 0 l c, .int .i64 i] (Tr.ofList 0 [bo xs r] .leaf) 1 K =
  (bsplit (decide (i < (↑l : Int))) fun | true => (must (decide (0 ≤ i ∧ i < (↑l : Int))) (xget (xs) (i.toNat) fun x0 => (K (.bool ((x0).b 0)) (.node .leaf (some (.rows 4 [Sh.b] (xs) (r))) .leaf) 1))) | false => (K (.bool false) (.node .leaf (some (.rows 4 [Sh.b] (xs) (r))) .leaf) 1)) := by kernel_rfl
theorem t_bare (I : Interp O) (K : AV → Tr (AO O) → Nat → Prop) (s : Bool) (l c r : Nat) (xs : List Rw) : abody I P (Gm E0) (adraw P (Gm E0)) 1 Try.f41 [.agg [.bool s, .sl 0 0 l c]] (Tr.ofList 0 [bo xs r] .leaf) 1 K =
  (ALoop I 1 (cd Try.f41 [true, true, false, false, false]) (acode I P (Gm E0) (adraw P (Gm E0)) 1 (cd Try.f41 [true, true, false, false, false])) (ablock 0 (athen (cd Try.f41 [true, true, true]) (fun s => acode I P (Gm E0) (adraw P (Gm E0)) 1 (cd Try.f41 [true, true, true]) s (kret P Try.f41 (K))) (kret P Try.f41 (K)))) ⟨(.node (.node (.node .leaf (some (.int IntKind.i64 ((↑l : Int)))) .leaf) (some (.ptr 1 0)) (.node .leaf (some (.sl 0 0 (l) (c))) .leaf)) (some (.agg [(.bool (s)), (.sl 0 0 (l) (c))])) (.node (.node .leaf (some (.ptr 1 1)) .leaf) (some (.ptr 2 0)) (.node .leaf (some (.int IntKind.i64 ((↑l : Int)))) .leaf))), (.node (.node .leaf (some (.cells 32 [(.bool (s)), (.sl 0 0 (l) (c))] 2)) .leaf) (some (.rows 4 [Sh.b] (xs) (r))) (.node .leaf (some (.cells 32 [(.bool false), .nils] 2)) .leaf)), 3, 31⟩) := by kernel_rfl
theorem t_rsum (I : Interp O) (K : AV → Tr (AO O) → Nat → Prop) (l c r k d q : Nat) (xs ys : List Rw) : abody I P (Gm Q0) (adraw P (Gm Q0)) 2 Try.f55 [.sl 0 0 l c, .sl 1 0 k d] (Tr.ofList 0 [bo xs r, bo ys q] .leaf) 2 K =
  (ALoop I 2 (cd Try.f55 [true, true, true, false, true, false, false]) (acode I P (Gm Q0) (adraw P (Gm Q0)) 2 (cd Try.f55 [true, true, true, false, true, false, false])) (ablock 0 (athen (cd Try.f55 [true, true, true, true]) (fun s => acode I P (Gm Q0) (adraw P (Gm Q0)) 2 (cd Try.f55 [true, true, true, true]) s (kret P Try.f55 (K))) (kret P Try.f55 (K)))) ⟨(.node (.node (.node (.node .leaf (some (.int IntKind.i64 (0 : Int))) .leaf) none .leaf) (some (.sl 1 0 (k) (d))) (.node (.node .leaf (some (.sl 2 0 0 0)) .leaf) (some (.sl 2 0 0 0)) .leaf)) (some (.sl 0 0 (l) (c))) (.node (.node .leaf (some .nils) .leaf) none (.node .leaf (some (.int IntKind.i64 (0 : Int))) .leaf))), (.node (.node .leaf (some (.rows 4 [Sh.b] (ys) (q))) .leaf) (some (.rows 4 [Sh.b] (xs) (r))) (.node .leaf (some (.cells 4 [] 0)) .leaf)), 3, 46⟩) := by kernel_rfl
theorem t_greater (I : Interp O) (K : AV → Tr (AO O) → Nat → Prop) (l c r k d q : Nat) (xs ys : List Rw) : abody I P (Gm Q0) (adraw P (Gm Q0)) 2 Try.f56 [.sl 0 0 l c, .sl 1 0 k d] (Tr.ofList 0 [bo xs r, bo ys q] .leaf) 2 K =
  (ALoop I 2 (cd Try.f56 [true, false, true, false, false]) (acode I P (Gm Q0) (adraw P (Gm Q0)) 2 (cd Try.f56 [true, false, true, false, false])) (ablock 0 (athen (cd Try.f56 [true, true]) (fun s => acode I P (Gm Q0) (adraw P (Gm Q0)) 2 (cd Try.f56 [true, true]) s (kret P Try.f56 (K))) (kret P Try.f56 (K)))) ⟨(.node (.node (.node (.node .leaf (some (.int IntKind.i64 ((↑l : Int)))) .leaf) none (.node .leaf (some (.int IntKind.i64 (IntKind.i64.wrap ((if (↑k : Int) > (↑l : Int) then (↑k : Int) else (↑l : Int)) - 1)))) .leaf)) (some (.sl 1 0 (k) (d))) (.node (.node .leaf (some (.int IntKind.i64 ((↑k : Int)))) .leaf) (some (.int IntKind.i64 (IntKind.i64.wrap ((if (↑k : Int) > (↑l : Int) then (↑k : Int) else (↑l : Int)) - 1)))) .leaf)) (some (.sl 0 0 (l) (c))) (.node (.node (.node .leaf (some (.sl 1 0 (k) (d))) .leaf) (some (.int IntKind.i64 (0 : Int))) .leaf) none (.node (.node .leaf (some (.int IntKind.i64 (if (↑k : Int) > (↑l : Int) then (↑k : Int) else (↑l : Int)))) .leaf) (some (.sl 0 0 (l) (c))) .leaf))), (.node (.node .leaf (some (.rows 4 [Sh.b] (ys) (q))) .leaf) (some (.rows 4 [Sh.b] (xs) (r))) .leaf), 2, 26⟩) := by kernel_rfl
theorem t_off (I : Interp O) (K : AV → Tr (AO O) → Nat → Prop) (l c r k d q : Nat) (xs ys : List Rw) : abody I P (Gm Q0) (adraw P (Gm Q0)) 2 Try.f57 [.sl 0 0 l c, .sl 1 0 k d] (Tr.ofList 0 [bo xs r, bo ys q] .leaf) 2 K =
  (ALoop I 2 (cd Try.f57 [true, true, true, false, true, false, false]) (acode I P (Gm Q0) (adraw P (Gm Q0)) 2 (cd Try.f57 [true, true, true, false, true, false, false])) (ablock 0 (athen (cd Try.f57 [true, true, true, true]) (fun s => acode I P (Gm Q0) (adraw P (Gm Q0)) 2 (cd Try.f57 [true, true, true, true]) s (kret P Try.f57 (K))) (kret P Try.f57 (K)))) ⟨(.node (.node (.node (.node .leaf (some (.int IntKind.i64 (0 : Int))) .leaf) none .leaf) (some (.sl 1 0 (k) (d))) (.node (.node .leaf (some (.sl 2 0 0 0)) .leaf) (some (.sl 2 0 0 0)) .leaf)) (some (.sl 0 0 (l) (c))) (.node (.node .leaf (some .nils) .leaf) none (.node .leaf (some (.int IntKind.i64 (0 : Int))) .leaf))), (.node (.node .leaf (some (.rows 4 [Sh.b] (ys) (q))) .leaf) (some (.rows 4 [Sh.b] (xs) (r))) (.node .leaf (some (.cells 4 [] 0)) .leaf)), 3, 40⟩) := by kernel_rfl
theorem t_bareR (I : Interp O) (K : AV → Tr (AO O) → Nat → Prop) (X : St O → Prop) (s : Bool) (l c r : Nat) (xs : List Rw) (k : Int) : acode I P (Gm E0) (adraw P (Gm E0)) 1 (cd Try.f41 [true, true, false, false, false]) (j_bare s l c r xs k) (lpg 1 [(1, 1), (2, 2)] [1, 2, 3] 3 X (ablock 0 (athen (cd Try.f41 [true, true, true]) (fun s => acode I P (Gm E0) (adraw P (Gm E0)) 1 (cd Try.f41 [true, true, true]) s (kret P Try.f41 (K))) (kret P Try.f41 (K))))) =
  (bsplit (decide (k > 0)) fun | true => (must (decide (0 ≤ IntKind.i64.wrap (k - 1) ∧ IntKind.i64.wrap (k - 1) < (↑l : Int))) (xget (xs) ((IntKind.i64.wrap (k - 1)).toNat) fun x0 => (bsplit (!x0.b 0) fun | true => (X ⟨(.node (.node (.node .leaf (some (.int IntKind.i64 (IntKind.i64.wrap (k - 1)))) .leaf) (some (.ptr 1 0)) .leaf) none (.node .leaf (some (.ptr 2 0)) .leaf)), (.node (.node .leaf (some (.cells 32 [(.bool (s)), (.sl 0 0 (l) (c))] 2)) .leaf) (some (.rows 4 [Sh.b] (xs) (r))) (.node .leaf (some (.cells 32 [(.bool false), .nils] 2)) .leaf)), 3, 31⟩) | false => (bsplit (s) fun | true => (must (decide (0 ≤ k ∧ k ≤ (↑c : Int))) (K (.agg [(.bool (decide (k > 0))), (.sl 0 0 (k.toNat) (c))]) (.node (.node .leaf (some (.cells 32 [(.bool (s)), (.sl 0 0 (l) (c))] 2)) .leaf) (some (.rows 4 [Sh.b] (xs) (r))) (.node .leaf (some (.cells 32 [(.bool (decide (k > 0))), (.sl 0 0 (k.toNat) (c))] 2)) .leaf)) 3)) | false => (must (decide (0 ≤ k ∧ k ≤ (↑c : Int))) (K (.agg [(.bool false), (.sl 0 0 (k.toNat) (c))]) (.node (.node .leaf (some (.cells 32 [(.bool (s)), (.sl 0 0 (l) (c))] 2)) .leaf) (some (.rows 4 [Sh.b] (xs) (r))) (.node .leaf (some (.cells 32 [(.bool false), (.sl 0 0 (k.toNat) (c))] 2)) .leaf)) 3)))))) | false => (bsplit (s) fun | true => (must (decide (0 ≤ k ∧ k ≤ (↑c : Int))) (K (.agg [(.bool (decide (k > 0))), (.sl 0 0 (k.toNat) (c))]) (.node (.node .leaf (some (.cells 32 [(.bool (s)), (.sl 0 0 (l) (c))] 2)) .leaf) (some (.rows 4 [Sh.b] (xs) (r))) (.node .leaf (some (.cells 32 [(.bool (decide (k > 0))), (.sl 0 0 (k.toNat) (c))] 2)) .leaf)) 3)) | false => (must (decide (0 ≤ k ∧ k ≤ (↑c : Int))) (K (.agg [(.bool false), (.sl 0 0 (k.toNat) (c))]) (.node (.node .leaf (some (.cells 32 [(.bool (s)), (.sl 0 0 (l) (c))] 2)) .leaf) (some (.rows 4 [Sh.b] (xs) (r))) (.node .leaf (some (.cells 32 [(.bool false), (.sl 0 0 (k.toNat) (c))] 2)) .leaf)) 3)))) := by kernel_rfl
theorem t_rsumR (I : Interp O) (K : AV → Tr (AO O) → Nat → Prop) (X : St O → Prop) (l c r k d q : Nat) (xs ys zs : List Rw) (n e room : Nat) (cy i : Int) : acode I P (Gm Q0) (adraw P (Gm Q0)) 2 (cd Try.f55 [true, true, true, false, true, false, false]) (j_rsum l c r k d q xs ys zs n e room cy i) (lpg 2 [(4, 2)] [0, 1, 5, 6, 7] 3 X (ablock 0 (athen (cd Try.f55 [true, true, true, true]) (fun s => acode I P (Gm Q0) (adraw P (Gm Q0)) 2 (cd Try.f55 [true, true, true, true]) s (kret P Try.f55 (K))) (kret P Try.f55 (K))))) =
  (bsplit (decide (i < (↑l : Int))) fun | true => (((0 : Int) ≤ i ∧ l ≤ xs.length) ∧ (bsplit (bit (List.take l xs) i.toNat) fun | true => (((0 : Int) ≤ i ∧ k ≤ ys.length) ∧ (bsplit (bit (List.take k ys) i.toNat) fun | true => (must (n.ble zs.length && (e * [Sh.b].length).ble room && Nat.blt 2 16777215) ((n + (1 : Nat) ≤ (137438953472 : Nat)) ∧ (∀ (c'0 : Nat), (n + 1 ≤ c'0 → (c'0 ≤ 9223372036854775807 → (X ⟨(.node (.node (.node (.node .leaf (some (.int IntKind.i64 (IntKind.i64.wrap (i + 1)))) .leaf) none .leaf) (some (.sl 1 0 (k) (d))) (.node .leaf (some (.sl 2 0 (n + 1) (c'0))) .leaf)) (some (.sl 0 0 (l) (c))) (.node .leaf none (.node .leaf (some (.int IntKind.i64 (IntKind.i64.wrap ((IntKind.i64.wrap (IntKind.i64.wrap (cy + 1) + 1)).tdiv 2)))) .leaf))), (.node (.node .leaf (some (.rows 4 [Sh.b] (ys) (q))) .leaf) (some (.rows 4 [Sh.b] (xs) (r))) (.node .leaf (some (.rows 4 [Sh.b] ((List.take n zs) ++ ((rwA [(.bool ((IntKind.i64.wrap (IntKind.i64.wrap (cy + 1) + 1)).tmod 2 == 1))]) :: [])) (c'0 * [Sh.b].length))) .leaf)), 3, 46⟩)))))) | false => (must (n.ble zs.length && (e * [Sh.b].length).ble room && Nat.blt 2 16777215) ((n + (1 : Nat) ≤ (137438953472 : Nat)) ∧ (∀ (c'1 : Nat), (n + 1 ≤ c'1 → (c'1 ≤ 9223372036854775807 → (X ⟨(.node (.node (.node (.node .leaf (some (.int IntKind.i64 (IntKind.i64.wrap (i + 1)))) .leaf) none .leaf) (some (.sl 1 0 (k) (d))) (.node .leaf (some (.sl 2 0 (n + 1) (c'1))) .leaf)) (some (.sl 0 0 (l) (c))) (.node .leaf none (.node .leaf (some (.int IntKind.i64 (IntKind.i64.wrap ((IntKind.i64.wrap (cy + 1)).tdiv 2)))) .leaf))), (.node (.node .leaf (some (.rows 4 [Sh.b] (ys) (q))) .leaf) (some (.rows 4 [Sh.b] (xs) (r))) (.node .leaf (some (.rows 4 [Sh.b] ((List.take n zs) ++ ((rwA [(.bool ((IntKind.i64.wrap (cy + 1)).tmod 2 == 1))]) :: [])) (c'1 * [Sh.b].length))) .leaf)), 3, 46⟩)))))))) | false => (((0 : Int) ≤ i ∧ k ≤ ys.length) ∧ (bsplit (bit (List.take k ys) i.toNat) fun | true => (must (n.ble zs.length && (e * [Sh.b].length).ble room && Nat.blt 2 16777215) ((n + (1 : Nat) ≤ (137438953472 : Nat)) ∧ (∀ (c'2 : Nat), (n + 1 ≤ c'2 → (c'2 ≤ 9223372036854775807 → (X ⟨(.node (.node (.node (.node .leaf (some (.int IntKind.i64 (IntKind.i64.wrap (i + 1)))) .leaf) none .leaf) (some (.sl 1 0 (k) (d))) (.node .leaf (some (.sl 2 0 (n + 1) (c'2))) .leaf)) (some (.sl 0 0 (l) (c))) (.node .leaf none (.node .leaf (some (.int IntKind.i64 (IntKind.i64.wrap ((IntKind.i64.wrap (cy + 1)).tdiv 2)))) .leaf))), (.node (.node .leaf (some (.rows 4 [Sh.b] (ys) (q))) .leaf) (some (.rows 4 [Sh.b] (xs) (r))) (.node .leaf (some (.rows 4 [Sh.b] ((List.take n zs) ++ ((rwA [(.bool ((IntKind.i64.wrap (cy + 1)).tmod 2 == 1))]) :: [])) (c'2 * [Sh.b].length))) .leaf)), 3, 46⟩)))))) | false => (must (n.ble zs.length && (e * [Sh.b].length).ble room && Nat.blt 2 16777215) ((n + (1 : Nat) ≤ (137438953472 : Nat)) ∧ (∀ (c'3 : Nat), (n + 1 ≤ c'3 → (c'3 ≤ 9223372036854775807 → (X ⟨(.node (.node (.node (.node .leaf (some (.int IntKind.i64 (IntKind.i64.wrap (i + 1)))) .leaf) none .leaf) (some (.sl 1 0 (k) (d))) (.node .leaf (some (.sl 2 0 (n + 1) (c'3))) .leaf)) (some (.sl 0 0 (l) (c))) (.node .leaf none (.node .leaf (some (.int IntKind.i64 (IntKind.i64.wrap (cy.tdiv 2)))) .leaf))), (.node (.node .leaf (some (.rows 4 [Sh.b] (ys) (q))) .leaf) (some (.rows 4 [Sh.b] (xs) (r))) (.node .leaf (some (.rows 4 [Sh.b] ((List.take n zs) ++ ((rwA [(.bool (cy.tmod 2 == 1))]) :: [])) (c'3 * [Sh.b].length))) .leaf)), 3, 46⟩)))))))))) | false => (bsplit (decide (i < (↑k : Int))) fun | true => (((0 : Int) ≤ i ∧ l ≤ xs.length) ∧ (bsplit (bit (List.take l xs) i.toNat) fun | true => (((0 : Int) ≤ i ∧ k ≤ ys.length) ∧ (bsplit (bit (List.take k ys) i.toNat) fun | true => (must (n.ble zs.length && (e * [Sh.b].length).ble room && Nat.blt 2 16777215) ((n + (1 : Nat) ≤ (137438953472 : Nat)) ∧ (∀ (c'4 : Nat), (n + 1 ≤ c'4 → (c'4 ≤ 9223372036854775807 → (X ⟨(.node (.node (.node (.node .leaf (some (.int IntKind.i64 (IntKind.i64.wrap (i + 1)))) .leaf) none .leaf) (some (.sl 1 0 (k) (d))) (.node .leaf (some (.sl 2 0 (n + 1) (c'4))) .leaf)) (some (.sl 0 0 (l) (c))) (.node .leaf none (.node .leaf (some (.int IntKind.i64 (IntKind.i64.wrap ((IntKind.i64.wrap (IntKind.i64.wrap (cy + 1) + 1)).tdiv 2)))) .leaf))), (.node (.node .leaf (some (.rows 4 [Sh.b] (ys) (q))) .leaf) (some (.rows 4 [Sh.b] (xs) (r))) (.node .leaf (some (.rows 4 [Sh.b] ((List.take n zs) ++ ((rwA [(.bool ((IntKind.i64.wrap (IntKind.i64.wrap (cy + 1) + 1)).tmod 2 == 1))]) :: [])) (c'4 * [Sh.b].length))) .leaf)), 3, 46⟩)))))) | false => (must (n.ble zs.length && (e * [Sh.b].length).ble room && Nat.blt 2 16777215) ((n + (1 : Nat) ≤ (137438953472 : Nat)) ∧ (∀ (c'5 : Nat), (n + 1 ≤ c'5 → (c'5 ≤ 9223372036854775807 → (X ⟨(.node (.node (.node (.node .leaf (some (.int IntKind.i64 (IntKind.i64.wrap (i + 1)))) .leaf) none .leaf) (some (.sl 1 0 (k) (d))) (.node .leaf (some (.sl 2 0 (n + 1) (c'5))) .leaf)) (some (.sl 0 0 (l) (c))) (.node .leaf none (.node .leaf (some (.int IntKind.i64 (IntKind.i64.wrap ((IntKind.i64.wrap (cy + 1)).tdiv 2)))) .leaf))), (.node (.node .leaf (some (.rows 4 [Sh.b] (ys) (q))) .leaf) (some (.rows 4 [Sh.b] (xs) (r))) (.node .leaf (some (.rows 4 [Sh.b] ((List.take n zs) ++ ((rwA [(.bool ((IntKind.i64.wrap (cy + 1)).tmod 2 == 1))]) :: [])) (c'5 * [Sh.b].length))) .leaf)), 3, 46⟩)))))))) | false => (((0 : Int) ≤ i ∧ k ≤ ys.length) ∧ (bsplit (bit (List.take k ys) i.toNat) fun | true => (must (n.ble zs.length && (e * [Sh.b].length).ble room && Nat.blt 2 16777215) ((n + (1 : Nat) ≤ (137438953472 : Nat)) ∧ (∀ (c'6 : Nat), (n + 1 ≤ c'6 → (c'6 ≤ 9223372036854775807 → (X ⟨(.node (.node (.node (.node .leaf (some (.int IntKind.i64 (IntKind.i64.wrap (i + 1)))) .leaf) none .leaf) (some (.sl 1 0 (k) (d))) (.node .leaf (some (.sl 2 0 (n + 1) (c'6))) .leaf)) (some (.sl 0 0 (l) (c))) (.node .leaf none (.node .leaf (some (.int IntKind.i64 (IntKind.i64.wrap ((IntKind.i64.wrap (cy + 1)).tdiv 2)))) .leaf))), (.node (.node .leaf (some (.rows 4 [Sh.b] (ys) (q))) .leaf) (some (.rows 4 [Sh.b] (xs) (r))) (.node .leaf (some (.rows 4 [Sh.b] ((List.take n zs) ++ ((rwA [(.bool ((IntKind.i64.wrap (cy + 1)).tmod 2 == 1))]) :: [])) (c'6 * [Sh.b].length))) .leaf)), 3, 46⟩)))))) | false => (must (n.ble zs.length && (e * [Sh.b].length).ble room && Nat.blt 2 16777215) ((n + (1 : Nat) ≤ (137438953472 : Nat)) ∧ (∀ (c'7 : Nat), (n + 1 ≤ c'7 → (c'7 ≤ 9223372036854775807 → (X ⟨(.node (.node (.node (.node .leaf (some (.int IntKind.i64 (IntKind.i64.wrap (i + 1)))) .leaf) none .leaf) (some (.sl 1 0 (k) (d))) (.node .leaf (some (.sl 2 0 (n + 1) (c'7))) .leaf)) (some (.sl 0 0 (l) (c))) (.node .leaf none (.node .leaf (some (.int IntKind.i64 (IntKind.i64.wrap (cy.tdiv 2)))) .leaf))), (.node (.node .leaf (some (.rows 4 [Sh.b] (ys) (q))) .leaf) (some (.rows 4 [Sh.b] (xs) (r))) (.node .leaf (some (.rows 4 [Sh.b] ((List.take n zs) ++ ((rwA [(.bool (cy.tmod 2 == 1))]) :: [])) (c'7 * [Sh.b].length))) .leaf)), 3, 46⟩)))))))))) | false => (bsplit (decide (cy > 0)) fun | true => (((0 : Int) ≤ i ∧ l ≤ xs.length) ∧ (bsplit (bit (List.take l xs) i.toNat) fun | true => (((0 : Int) ≤ i ∧ k ≤ ys.length) ∧ (bsplit (bit (List.take k ys) i.toNat) fun | true => (must (n.ble zs.length && (e * [Sh.b].length).ble room && Nat.blt 2 16777215) ((n + (1 : Nat) ≤ (137438953472 : Nat)) ∧ (∀ (c'8 : Nat), (n + 1 ≤ c'8 → (c'8 ≤ 9223372036854775807 → (X ⟨(.node (.node (.node (.node .leaf (some (.int IntKind.i64 (IntKind.i64.wrap (i + 1)))) .leaf) none .leaf) (some (.sl 1 0 (k) (d))) (.node .leaf (some (.sl 2 0 (n + 1) (c'8))) .leaf)) (some (.sl 0 0 (l) (c))) (.node .leaf none (.node .leaf (some (.int IntKind.i64 (IntKind.i64.wrap ((IntKind.i64.wrap (IntKind.i64.wrap (cy + 1) + 1)).tdiv 2)))) .leaf))), (.node (.node .leaf (some (.rows 4 [Sh.b] (ys) (q))) .leaf) (some (.rows 4 [Sh.b] (xs) (r))) (.node .leaf (some (.rows 4 [Sh.b] ((List.take n zs) ++ ((rwA [(.bool ((IntKind.i64.wrap (IntKind.i64.wrap (cy + 1) + 1)).tmod 2 == 1))]) :: [])) (c'8 * [Sh.b].length))) .leaf)), 3, 46⟩)))))) | false => (must (n.ble zs.length && (e * [Sh.b].length).ble room && Nat.blt 2 16777215) ((n + (1 : Nat) ≤ (137438953472 : Nat)) ∧ (∀ (c'9 : Nat), (n + 1 ≤ c'9 → (c'9 ≤ 9223372036854775807 → (X ⟨(.node (.node (.node (.node .leaf (some (.int IntKind.i64 (IntKind.i64.wrap (i + 1)))) .leaf) none .leaf) (some (.sl 1 0 (k) (d))) (.node .leaf (some (.sl 2 0 (n + 1) (c'9))) .leaf)) (some (.sl 0 0 (l) (c))) (.node .leaf none (.node .leaf (some (.int IntKind.i64 (IntKind.i64.wrap ((IntKind.i64.wrap (cy + 1)).tdiv 2)))) .leaf))), (.node (.node .leaf (some (.rows 4 [Sh.b] (ys) (q))) .leaf) (some (.rows 4 [Sh.b] (xs) (r))) (.node .leaf (some (.rows 4 [Sh.b] ((List.take n zs) ++ ((rwA [(.bool ((IntKind.i64.wrap (cy + 1)).tmod 2 == 1))]) :: [])) (c'9 * [Sh.b].length))) .leaf)), 3, 46⟩)))))))) | false => (((0 : Int) ≤ i ∧ k ≤ ys.length) ∧ (bsplit (bit (List.take k ys) i.toNat) fun | true => (must (n.ble zs.length && (e * [Sh.b].length).ble room && Nat.blt 2 16777215) ((n + (1 : Nat) ≤ (137438953472 : Nat)) ∧ (∀ (c'10 : Nat), (n + 1 ≤ c'10 → (c'10 ≤ 9223372036854775807 → (X ⟨(.node (.node (.node (.node .leaf (some (.int IntKind.i64 (IntKind.i64.wrap (i + 1)))) .leaf) none .leaf) (some (.sl 1 0 (k) (d))) (.node .leaf (some (.sl 2 0 (n + 1) (c'10))) .leaf)) (some (.sl 0 0 (l) (c))) (.node .leaf none (.node .leaf (some (.int IntKind.i64 (IntKind.i64.wrap ((IntKind.i64.wrap (cy + 1)).tdiv 2)))) .leaf))), (.node (.node .leaf (some (.rows 4 [Sh.b] (ys) (q))) .leaf) (some (.rows 4 [Sh.b] (xs) (r))) (.node .leaf (some (.rows 4 [Sh.b] ((List.take n zs) ++ ((rwA [(.bool ((IntKind.i64.wrap (cy + 1)).tmod 2 == 1))]) :: [])) (c'10 * [Sh.b].length))) .leaf)), 3, 46⟩)))))) | false => (must (n.ble zs.length && (e * [Sh.b].length).ble room && Nat.blt 2 16777215) ((n + (1 : Nat) ≤ (137438953472 : Nat)) ∧ (∀ (c'11 : Nat), (n + 1 ≤ c'11 → (c'11 ≤ 9223372036854775807 → (X ⟨(.node (.node (.node (.node .leaf (some (.int IntKind.i64 (IntKind.i64.wrap (i + 1)))) .leaf) none .leaf) (some (.sl 1 0 (k) (d))) (.node .leaf (some (.sl 2 0 (n + 1) (c'11))) .leaf)) (some (.sl 0 0 (l) (c))) (.node .leaf none (.node .leaf (some (.int IntKind.i64 (IntKind.i64.wrap (cy.tdiv 2)))) .leaf))), (.node (.node .leaf (some (.rows 4 [Sh.b] (ys) (q))) .leaf) (some (.rows 4 [Sh.b] (xs) (r))) (.node .leaf (some (.rows 4 [Sh.b] ((List.take n zs) ++ ((rwA [(.bool (cy.tmod 2 == 1))]) :: [])) (c'11 * [Sh.b].length))) .leaf)), 3, 46⟩)))))))))) | false => (K (.sl 2 0 (n) (e)) (.node (.node .leaf (some (.rows 4 [Sh.b] (ys) (q))) .leaf) (some (.rows 4 [Sh.b] (xs) (r))) (.node .leaf (some (.rows 4 [Sh.b] (zs) (room))) .leaf)) 3)))) := by kernel_rfl
theorem t_greaterR (I : Interp O) (K : AV → Tr (AO O) → Nat → Prop) (X : St O → Prop) (l c r k d q : Nat) (xs ys : List Rw) (i : Int) : acode I P (Gm Q0) (adraw P (Gm Q0)) 2 (cd Try.f56 [true, false, true, false, false]) (j_greater l c r k d q xs ys i) (lpg 2 [] [0, 1, 5] 2 X (ablock 0 (athen (cd Try.f56 [true, true]) (fun s => acode I P (Gm Q0) (adraw P (Gm Q0)) 2 (cd Try.f56 [true, true]) s (kret P Try.f56 (K))) (kret P Try.f56 (K))))) =
  (bsplit (decide (i ≥ 0)) fun | true => (((0 : Int) ≤ i ∧ l ≤ xs.length) ∧ (((0 : Int) ≤ i ∧ k ≤ ys.length) ∧ (bsplit (!bit (List.take l xs) i.toNat == bit (List.take k ys) i.toNat) fun | true => (((0 : Int) ≤ i ∧ l ≤ xs.length) ∧ (bsplit (bit (List.take l xs) i.toNat) fun | true => (K (.int IntKind.i64 (1 : Int)) (.node (.node .leaf (some (.rows 4 [Sh.b] (ys) (q))) .leaf) (some (.rows 4 [Sh.b] (xs) (r))) .leaf) 2) | false => (K (.int IntKind.i64 (-1 : Int)) (.node (.node .leaf (some (.rows 4 [Sh.b] (ys) (q))) .leaf) (some (.rows 4 [Sh.b] (xs) (r))) .leaf) 2))) | false => (X ⟨(.node (.node .leaf (some (.sl 1 0 (k) (d))) (.node .leaf (some (.int IntKind.i64 (IntKind.i64.wrap (i - 1)))) .leaf)) (some (.sl 0 0 (l) (c))) .leaf), (.node (.node .leaf (some (.rows 4 [Sh.b] (ys) (q))) .leaf) (some (.rows 4 [Sh.b] (xs) (r))) .leaf), 2, 26⟩)))) | false => (K (.int IntKind.i64 (0 : Int)) (.node (.node .leaf (some (.rows 4 [Sh.b] (ys) (q))) .leaf) (some (.rows 4 [Sh.b] (xs) (r))) .leaf) 2)) := by kernel_rfl
theorem t_offR (I : Interp O) (K : AV → Tr (AO O) → Nat → Prop) (X : St O → Prop) (l c r k d q : Nat) (xs ys zs : List Rw) (n e room : Nat) (cy i : Int) : acode I P (Gm Q0) (adraw P (Gm Q0)) 2 (cd Try.f57 [true, true, true, false, true, false, false]) (j_off l c r k d q xs ys zs n e room cy i) (lpg 2 [(4, 2)] [0, 1, 5, 6, 7] 3 X (ablock 0 (athen (cd Try.f57 [true, true, true, true]) (fun s => acode I P (Gm Q0) (adraw P (Gm Q0)) 2 (cd Try.f57 [true, true, true, true]) s (kret P Try.f57 (K))) (kret P Try.f57 (K))))) =
  (bsplit (decide (i < (↑l : Int))) fun | true => (((0 : Int) ≤ i ∧ l ≤ xs.length) ∧ (bsplit (bit (List.take l xs) i.toNat) fun | true => (((0 : Int) ≤ i ∧ k ≤ ys.length) ∧ (bsplit (bit (List.take k ys) i.toNat) fun | true => (bsplit (IntKind.i64.wrap (IntKind.i64.wrap (IntKind.i64.wrap (0 - cy) + 1) - 1) == 1) fun | true => (must (n.ble zs.length && (e * [Sh.b].length).ble room && Nat.blt 2 16777215) ((n + (1 : Nat) ≤ (137438953472 : Nat)) ∧ (∀ (c'0 : Nat), (n + 1 ≤ c'0 → (c'0 ≤ 9223372036854775807 → (bsplit (decide (IntKind.i64.wrap (IntKind.i64.wrap (IntKind.i64.wrap (0 - cy) + 1) - 1) < 0)) fun | true => (X ⟨(.node (.node (.node (.node .leaf (some (.int IntKind.i64 (IntKind.i64.wrap (i + 1)))) .leaf) none .leaf) (some (.sl 1 0 (k) (d))) (.node .leaf (some (.sl 2 0 (n + 1) (c'0))) .leaf)) (some (.sl 0 0 (l) (c))) (.node .leaf none (.node .leaf (some (.int IntKind.i64 (1 : Int))) .leaf))), (.node (.node .leaf (some (.rows 4 [Sh.b] (ys) (q))) .leaf) (some (.rows 4 [Sh.b] (xs) (r))) (.node .leaf (some (.rows 4 [Sh.b] ((List.take n zs) ++ ((rwA [(.bool true)]) :: [])) (c'0 * [Sh.b].length))) .leaf)), 3, 40⟩) | false => (X ⟨(.node (.node (.node (.node .leaf (some (.int IntKind.i64 (IntKind.i64.wrap (i + 1)))) .leaf) none .leaf) (some (.sl 1 0 (k) (d))) (.node .leaf (some (.sl 2 0 (n + 1) (c'0))) .leaf)) (some (.sl 0 0 (l) (c))) (.node .leaf none (.node .leaf (some (.int IntKind.i64 (0 : Int))) .leaf))), (.node (.node .leaf (some (.rows 4 [Sh.b] (ys) (q))) .leaf) (some (.rows 4 [Sh.b] (xs) (r))) (.node .leaf (some (.rows 4 [Sh.b] ((List.take n zs) ++ ((rwA [(.bool true)]) :: [])) (c'0 * [Sh.b].length))) .leaf)), 3, 40⟩))))))) | false => (must (n.ble zs.length && (e * [Sh.b].length).ble room && Nat.blt 2 16777215) ((n + (1 : Nat) ≤ (137438953472 : Nat)) ∧ (∀ (c'1 : Nat), (n + 1 ≤ c'1 → (c'1 ≤ 9223372036854775807 → (bsplit (decide (IntKind.i64.wrap (IntKind.i64.wrap (IntKind.i64.wrap (0 - cy) + 1) - 1) < 0)) fun | true => (X ⟨(.node (.node (.node (.node .leaf (some (.int IntKind.i64 (IntKind.i64.wrap (i + 1)))) .leaf) none .leaf) (some (.sl 1 0 (k) (d))) (.node .leaf (some (.sl 2 0 (n + 1) (c'1))) .leaf)) (some (.sl 0 0 (l) (c))) (.node .leaf none (.node .leaf (some (.int IntKind.i64 (1 : Int))) .leaf))), (.node (.node .leaf (some (.rows 4 [Sh.b] (ys) (q))) .leaf) (some (.rows 4 [Sh.b] (xs) (r))) (.node .leaf (some (.rows 4 [Sh.b] ((List.take n zs) ++ ((rwA [(.bool (IntKind.i64.wrap (IntKind.i64.wrap (IntKind.i64.wrap (0 - cy) + 1) - 1) == -1))]) :: [])) (c'1 * [Sh.b].length))) .leaf)), 3, 40⟩) | false => (X ⟨(.node (.node (.node (.node .leaf (some (.int IntKind.i64 (IntKind.i64.wrap (i + 1)))) .leaf) none .leaf) (some (.sl 1 0 (k) (d))) (.node .leaf (some (.sl 2 0 (n + 1) (c'1))) .leaf)) (some (.sl 0 0 (l) (c))) (.node .leaf none (.node .leaf (some (.int IntKind.i64 (0 : Int))) .leaf))), (.node (.node .leaf (some (.rows 4 [Sh.b] (ys) (q))) .leaf) (some (.rows 4 [Sh.b] (xs) (r))) (.node .leaf (some (.rows 4 [Sh.b] ((List.take n zs) ++ ((rwA [(.bool (IntKind.i64.wrap (IntKind.i64.wrap (IntKind.i64.wrap (0 - cy) + 1) - 1) == -1))]) :: [])) (c'1 * [Sh.b].length))) .leaf)), 3, 40⟩)))))))) | false => (bsplit (IntKind.i64.wrap (IntKind.i64.wrap (0 - cy) + 1) == 1) fun | true => (must (n.ble zs.length && (e * [Sh.b].length).ble room && Nat.blt 2 16777215) ((n + (1 : Nat) ≤ (137438953472 : Nat)) ∧ (∀ (c'2 : Nat), (n + 1 ≤ c'2 → (c'2 ≤ 9223372036854775807 → (bsplit (decide (IntKind.i64.wrap (IntKind.i64.wrap (0 - cy) + 1) < 0)) fun | true => (X ⟨(.node (.node (.node (.node .leaf (some (.int IntKind.i64 (IntKind.i64.wrap (i + 1)))) .leaf) none .leaf) (some (.sl 1 0 (k) (d))) (.node .leaf (some (.sl 2 0 (n + 1) (c'2))) .leaf)) (some (.sl 0 0 (l) (c))) (.node .leaf none (.node .leaf (some (.int IntKind.i64 (1 : Int))) .leaf))), (.node (.node .leaf (some (.rows 4 [Sh.b] (ys) (q))) .leaf) (some (.rows 4 [Sh.b] (xs) (r))) (.node .leaf (some (.rows 4 [Sh.b] ((List.take n zs) ++ ((rwA [(.bool true)]) :: [])) (c'2 * [Sh.b].length))) .leaf)), 3, 40⟩) | false => (X ⟨(.node (.node (.node (.node .leaf (some (.int IntKind.i64 (IntKind.i64.wrap (i + 1)))) .leaf) none .leaf) (some (.sl 1 0 (k) (d))) (.node .leaf (some (.sl 2 0 (n + 1) (c'2))) .leaf)) (some (.sl 0 0 (l) (c))) (.node .leaf none (.node .leaf (some (.int IntKind.i64 (0 : Int))) .leaf))), (.node (.node .leaf (some (.rows 4 [Sh.b] (ys) (q))) .leaf) (some (.rows 4 [Sh.b] (xs) (r))) (.node .leaf (some (.rows 4 [Sh.b] ((List.take n zs) ++ ((rwA [(.bool true)]) :: [])) (c'2 * [Sh.b].length))) .leaf)), 3, 40⟩))))))) | false => (must (n.ble zs.length && (e * [Sh.b].length).ble room && Nat.blt 2 16777215) ((n + (1 : Nat) ≤ (137438953472 : Nat)) ∧ (∀ (c'3 : Nat), (n + 1 ≤ c'3 → (c'3 ≤ 9223372036854775807 → (bsplit (decide (IntKind.i64.wrap (IntKind.i64.wrap (0 - cy) + 1) < 0)) fun | true => (X ⟨(.node (.node (.node (.node .leaf (some (.int IntKind.i64 (IntKind.i64.wrap (i + 1)))) .leaf) none .leaf) (some (.sl 1 0 (k) (d))) (.node .leaf (some (.sl 2 0 (n + 1) (c'3))) .leaf)) (some (.sl 0 0 (l) (c))) (.node .leaf none (.node .leaf (some (.int IntKind.i64 (1 : Int))) .leaf))), (.node (.node .leaf (some (.rows 4 [Sh.b] (ys) (q))) .leaf) (some (.rows 4 [Sh.b] (xs) (r))) (.node .leaf (some (.rows 4 [Sh.b] ((List.take n zs) ++ ((rwA [(.bool (IntKind.i64.wrap (IntKind.i64.wrap (0 - cy) + 1) == -1))]) :: [])) (c'3 * [Sh.b].length))) .leaf)), 3, 40⟩) | false => (X ⟨(.node (.node (.node (.node .leaf (some (.int IntKind.i64 (IntKind.i64.wrap (i + 1)))) .leaf) none .leaf) (some (.sl 1 0 (k) (d))) (.node .leaf (some (.sl 2 0 (n + 1) (c'3))) .leaf)) (some (.sl 0 0 (l) (c))) (.node .leaf none (.node .leaf (some (.int IntKind.i64 (0 : Int))) .leaf))), (.node (.node .leaf (some (.rows 4 [Sh.b] (ys) (q))) .leaf) (some (.rows 4 [Sh.b] (xs) (r))) (.node .leaf (some (.rows 4 [Sh.b] ((List.take n zs) ++ ((rwA [(.bool (IntKind.i64.wrap (IntKind.i64.wrap (0 - cy) + 1) == -1))]) :: [])) (c'3 * [Sh.b].length))) .leaf)), 3, 40⟩)))))))))) | false => (((0 : Int) ≤ i ∧ k ≤ ys.length) ∧ (bsplit (bit (List.take k ys) i.toNat) fun | true => (bsplit (IntKind.i64.wrap (IntKind.i64.wrap (0 - cy) - 1) == 1) fun | true => (must (n.ble zs.length && (e * [Sh.b].length).ble room && Nat.blt 2 16777215) ((n + (1 : Nat) ≤ (137438953472 : Nat)) ∧ (∀ (c'4 : Nat), (n + 1 ≤ c'4 → (c'4 ≤ 9223372036854775807 → (bsplit (decide (IntKind.i64.wrap (IntKind.i64.wrap (0 - cy) - 1) < 0)) fun | true => (X ⟨(.node (.node (.node (.node .leaf (some (.int IntKind.i64 (IntKind.i64.wrap (i + 1)))) .leaf) none .leaf) (some (.sl 1 0 (k) (d))) (.node .leaf (some (.sl 2 0 (n + 1) (c'4))) .leaf)) (some (.sl 0 0 (l) (c))) (.node .leaf none (.node .leaf (some (.int IntKind.i64 (1 : Int))) .leaf))), (.node (.node .leaf (some (.rows 4 [Sh.b] (ys) (q))) .leaf) (some (.rows 4 [Sh.b] (xs) (r))) (.node .leaf (some (.rows 4 [Sh.b] ((List.take n zs) ++ ((rwA [(.bool true)]) :: [])) (c'4 * [Sh.b].length))) .leaf)), 3, 40⟩) | false => (X ⟨(.node (.node (.node (.node .leaf (some (.int IntKind.i64 (IntKind.i64.wrap (i + 1)))) .leaf) none .leaf) (some (.sl 1 0 (k) (d))) (.node .leaf (some (.sl 2 0 (n + 1) (c'4))) .leaf)) (some (.sl 0 0 (l) (c))) (.node .leaf none (.node .leaf (some (.int IntKind.i64 (0 : Int))) .leaf))), (.node (.node .leaf (some (.rows 4 [Sh.b] (ys) (q))) .leaf) (some (.rows 4 [Sh.b] (xs) (r))) (.node .leaf (some (.rows 4 [Sh.b] ((List.take n zs) ++ ((rwA [(.bool true)]) :: [])) (c'4 * [Sh.b].length))) .leaf)), 3, 40⟩))))))) | false => (must (n.ble zs.length && (e * [Sh.b].length).ble room && Nat.blt 2 16777215) ((n + (1 : Nat) ≤ (137438953472 : Nat)) ∧ (∀ (c'5 : Nat), (n + 1 ≤ c'5 → (c'5 ≤ 9223372036854775807 → (bsplit (decide (IntKind.i64.wrap (IntKind.i64.wrap (0 - cy) - 1) < 0)) fun | true => (X ⟨(.node (.node (.node (.node .leaf (some (.int IntKind.i64 (IntKind.i64.wrap (i + 1)))) .leaf) none .leaf) (some (.sl 1 0 (k) (d))) (.node .leaf (some (.sl 2 0 (n + 1) (c'5))) .leaf)) (some (.sl 0 0 (l) (c))) (.node .leaf none (.node .leaf (some (.int IntKind.i64 (1 : Int))) .leaf))), (.node (.node .leaf (some (.rows 4 [Sh.b] (ys) (q))) .leaf) (some (.rows 4 [Sh.b] (xs) (r))) (.node .leaf (some (.rows 4 [Sh.b] ((List.take n zs) ++ ((rwA [(.bool (IntKind.i64.wrap (IntKind.i64.wrap (0 - cy) - 1) == -1))]) :: [])) (c'5 * [Sh.b].length))) .leaf)), 3, 40⟩) | false => (X ⟨(.node (.node (.node (.node .leaf (some (.int IntKind.i64 (IntKind.i64.wrap (i + 1)))) .leaf) none .leaf) (some (.sl 1 0 (k) (d))) (.node .leaf (some (.sl 2 0 (n + 1) (c'5))) .leaf)) (some (.sl 0 0 (l) (c))) (.node .leaf none (.node .leaf (some (.int IntKind.i64 (0 : Int))) .leaf))), (.node (.node .leaf (some (.rows 4 [Sh.b] (ys) (q))) .leaf) (some (.rows 4 [Sh.b] (xs) (r))) (.node .leaf (some (.rows 4 [Sh.b] ((List.take n zs) ++ ((rwA [(.bool (IntKind.i64.wrap (IntKind.i64.wrap (0 - cy) - 1) == -1))]) :: [])) (c'5 * [Sh.b].length))) .leaf)), 3, 40⟩)))))))) | false => (bsplit (IntKind.i64.wrap (0 - cy) == 1) fun | true => (must (n.ble zs.length && (e * [Sh.b].length).ble room && Nat.blt 2 16777215) ((n + (1 : Nat) ≤ (137438953472 : Nat)) ∧ (∀ (c'6 : Nat), (n + 1 ≤ c'6 → (c'6 ≤ 9223372036854775807 → (bsplit (decide (IntKind.i64.wrap (0 - cy) < 0)) fun | true => (X ⟨(.node (.node (.node (.node .leaf (some (.int IntKind.i64 (IntKind.i64.wrap (i + 1)))) .leaf) none .leaf) (some (.sl 1 0 (k) (d))) (.node .leaf (some (.sl 2 0 (n + 1) (c'6))) .leaf)) (some (.sl 0 0 (l) (c))) (.node .leaf none (.node .leaf (some (.int IntKind.i64 (1 : Int))) .leaf))), (.node (.node .leaf (some (.rows 4 [Sh.b] (ys) (q))) .leaf) (some (.rows 4 [Sh.b] (xs) (r))) (.node .leaf (some (.rows 4 [Sh.b] ((List.take n zs) ++ ((rwA [(.bool true)]) :: [])) (c'6 * [Sh.b].length))) .leaf)), 3, 40⟩) | false => (X ⟨(.node (.node (.node (.node .leaf (some (.int IntKind.i64 (IntKind.i64.wrap (i + 1)))) .leaf) none .leaf) (some (.sl 1 0 (k) (d))) (.node .leaf (some (.sl 2 0 (n + 1) (c'6))) .leaf)) (some (.sl 0 0 (l) (c))) (.node .leaf none (.node .leaf (some (.int IntKind.i64 (0 : Int))) .leaf))), (.node (.node .leaf (some (.rows 4 [Sh.b] (ys) (q))) .leaf) (some (.rows 4 [Sh.b] (xs) (r))) (.node .leaf (some (.rows 4 [Sh.b] ((List.take n zs) ++ ((rwA [(.bool true)]) :: [])) (c'6 * [Sh.b].length))) .leaf)), 3, 40⟩))))))) | false => (must (n.ble zs.length && (e * [Sh.b].length).ble room && Nat.blt 2 16777215) ((n + (1 : Nat) ≤ (137438953472 : Nat)) ∧ (∀ (c'7 : Nat), (n + 1 ≤ c'7 → (c'7 ≤ 9223372036854775807 → (bsplit (decide (IntKind.i64.wrap (0 - cy) < 0)) fun | true => (X ⟨(.node (.node (.node (.node .leaf (some (.int IntKind.i64 (IntKind.i64.wrap (i + 1)))) .leaf) none .leaf) (some (.sl 1 0 (k) (d))) (.node .leaf (some (.sl 2 0 (n + 1) (c'7))) .leaf)) (some (.sl 0 0 (l) (c))) (.node .leaf none (.node .leaf (some (.int IntKind.i64 (1 : Int))) .leaf))), (.node (.node .leaf (some (.rows 4 [Sh.b] (ys) (q))) .leaf) (some (.rows 4 [Sh.b] (xs) (r))) (.node .leaf (some (.rows 4 [Sh.b] ((List.take n zs) ++ ((rwA [(.bool (IntKind.i64.wrap (0 - cy) == -1))]) :: [])) (c'7 * [Sh.b].length))) .leaf)), 3, 40⟩) | false => (X ⟨(.node (.node (.node (.node .leaf (some (.int IntKind.i64 (IntKind.i64.wrap (i + 1)))) .leaf) none .leaf) (some (.sl 1 0 (k) (d))) (.node .leaf (some (.sl 2 0 (n + 1) (c'7))) .leaf)) (some (.sl 0 0 (l) (c))) (.node .leaf none (.node .leaf (some (.int IntKind.i64 (0 : Int))) .leaf))), (.node (.node .leaf (some (.rows 4 [Sh.b] (ys) (q))) .leaf) (some (.rows 4 [Sh.b] (xs) (r))) (.node .leaf (some (.rows 4 [Sh.b] ((List.take n zs) ++ ((rwA [(.bool (IntKind.i64.wrap (0 - cy) == -1))]) :: [])) (c'7 * [Sh.b].length))) .leaf)), 3, 40⟩)))))))))))) | false => (K (.sl 2 0 (n) (e)) (.node (.node .leaf (some (.rows 4 [Sh.b] (ys) (q))) .leaf) (some (.rows 4 [Sh.b] (xs) (r))) (.node .leaf (some (.rows 4 [Sh.b] (zs) (room))) .leaf)) 3)) := by kernel_rfl
end W
end Go.Tb

/- Bits: what they are worth; the functions on bits do what their contracts say. -/
set_option linter.all false
set_option maxRecDepth 100000
namespace Go.Tb.W
open Go Go.Proofs
variable {I : Interp O}
def nb (b : Bool) : Nat := match b with | true => 1 | false => 0
theorem bv_cons (x : Rw) (r : List Rw) : bv (x :: r) = nb (x.b 0) + 2 * bv r := by cases h : x.b 0 <;> simp [bv, h, nb]
theorem bv_app (a b : List Rw) : bv (a ++ b) = bv a + 2 ^ a.length * bv b := by
  induction a with
  | nil => simp [bv]
  | cons x a ih =>
    rw [List.cons_append, bv_cons, ih, bv_cons, List.length_cons, Nat.pow_succ, Nat.mul_add, ← Nat.mul_assoc, Nat.mul_comm 2 (2 ^ a.length)]; omega
theorem bv_lt (xs : List Rw) : bv xs < 2 ^ xs.length := by
  induction xs with
  | nil => simp [bv]
  | cons x a ih => rw [bv_cons, List.length_cons, Nat.pow_succ]; have : nb (x.b 0) ≤ 1 := by cases x.b 0 <;> simp [nb]
                   omega
theorem bit_some {xs : List Rw} {i : Nat} {x : Rw} (h : xs[i]? = some x) : bit xs i = x.b 0 := by unfold bit; rw [h]
theorem bit_none {xs : List Rw} {i : Nat} (h : xs.length ≤ i) : bit xs i = false := by unfold bit; rw [List.getElem?_eq_none h]
theorem bv_succ (xs : List Rw) (i : Nat) : bv (xs.take (i + 1)) = bv (xs.take i) + 2 ^ i * nb (bit xs i) := by
  by_cases h : i < xs.length
  · have hx : xs[i]? = some xs[i] := List.getElem?_eq_getElem h
    rw [List.take_add_one, bv_app, hx, bit_some hx, List.length_take, Nat.min_eq_left (by omega)]
    congr 2
  · rw [bit_none (by omega), List.take_of_length_le (by omega), List.take_of_length_le (by omega)]; simp [nb]
theorem bv_take_lt (xs : List Rw) (i : Nat) : bv (xs.take i) < 2 ^ i := by
  have h := bv_lt (xs.take i)
  have : 2 ^ (xs.take i).length ≤ 2 ^ i := Nat.pow_le_pow_right (by omega) (by rw [List.length_take]; omega)
  omega
theorem bv_take_le (xs : List Rw) (i : Nat) : bv (xs.take i) ≤ bv xs := by
  have := bv_app (xs.take i) (xs.drop i)
  rw [List.take_append_drop] at this; omega
theorem bit_take {xs : List Rw} {l i : Nat} (h : i < l) : bit (xs.take l) i = bit xs i := by unfold bit; rw [List.getElem?_take_of_lt h]
theorem nb_rwA (b : Bool) : bit [rwA [.bool b]] 0 = b := rfl
theorem bv_one (b : Bool) : bv [rwA [.bool b]] = nb b := by rw [bv_cons]; simp [bv, rwA]
theorem k_at : ∀ (args : List AV) (hp : Tr (AO O)) (nx : Nat) (K : AV → Tr (AO O) → Nat → Prop), c_at args hp nx K → ACall I P 42 args hp (fun v hp' => ∃ nx', K v hp' nx') := by
  intro args hp nx K h
  unfold c_at at h; split at h
  · rename_i n l c i
    split at h
    · rename_i xs room hb hg
      obtain ⟨⟨hi, hl⟩, h⟩ := h
      refine hrows mix Gm.nil (fn := Try.f42) (by kernel_rfl) (by kernel_rfl) (by kernel_rfl) [n] [bo xs room] [.sl 0 0 l c, .int .i64 i] (nx := nx) rfl (uniq1 hb) rfl ⟨hg, trivial⟩ rfl rfl (fun hr ho => ?_)
      refine (t_at I _ l c room i xs).mpr ?_
      refine bsplit_both (fun hx => ?_) (fun hx => ⟨⟨rfl, trivial⟩, .inl ⟨rfl, ?_⟩⟩)
      · have hx : i < l := by simpa using hx
        refine must_mk (by simp; omega) ?_
        have hx' : xs[i.toNat]? = some (xs[i.toNat]'(by omega)) := List.getElem?_eq_getElem _
        refine xget_mk hx' ⟨⟨rfl, trivial⟩, .inl ⟨rfl, ?_⟩⟩
        rw [bit_take (by omega), bit_some hx'] at h
        exact h
      · have hx : ¬ i < l := by simpa using hx
        rw [bit_none (by rw [List.length_take]; omega)] at h
        exact h
    · exact h.elim
  · exact h.elim
theorem k_bare : ∀ (args : List AV) (hp : Tr (AO O)) (nx : Nat) (K : AV → Tr (AO O) → Nat → Prop), c_bare args hp nx K → ACall I P 41 args hp (fun v hp' => ∃ nx', K v hp' nx') := by
  intro args hp nx K h
  unfold c_bare at h; split at h
  · rename_i s n l c
    split at h
    · rename_i xs room hb hg
      obtain ⟨⟨hl, hl2⟩, h⟩ := h
      refine hrows mix Gm.nil (fn := Try.f41) (by kernel_rfl) (by kernel_rfl) (by kernel_rfl) [n] [bo xs room] [.agg [.bool s, .sl 0 0 l c]] (nx := nx) rfl (uniq1 hb) rfl ⟨hg, trivial⟩ rfl rfl (fun hr ho => ?_)
      simp only [rgs, rg, Bool.and_eq_true, Nat.ble_eq] at hr
      have hlc : l ≤ c := hr.1.2.1.1
      refine (t_bare I _ s l c room xs).mpr ?_
      refine ALoop.invg (ps := [(1, 1), (2, 2)]) (ts := [1, 2, 3]) (nx := 3) (fun k : Nat => j_bare s l c room xs k) (fun k => k ≤ l ∧ bv (xs.take k) = bv (xs.take l)) (fun k => k) (fun k hG => ?_) (by kernel_rfl) l (by kernel_rfl) ⟨Nat.le_refl _, rfl⟩
      obtain ⟨hk, hv⟩ := hG
      refine (t_bareR I _ _ s l c room xs k).mpr ?_
      have fin : (k = 0 ∨ bit xs (k - 1) = true) → K (.agg [.bool (s && decide (0 < k)), .sl n 0 k c]) hp nx := fun h0 => h k ⟨hk, hv, h0⟩
      have dk : decide ((k : Int) > 0) = decide (0 < k) := by simp
      refine bsplit_both (fun hx => ?_) (fun hx => ?_)
      · have hx : 0 < k := by simpa using hx
        rw [s_i64 (n := (k : Int) - 1) (by omega)]
        refine must_mk (by simp; omega) ?_
        have hki : ((k : Int) - 1).toNat = k - 1 := by omega
        rw [hki]
        have hx' : xs[k - 1]? = some (xs[k - 1]'(by omega)) := List.getElem?_eq_getElem _
        refine xget_mk hx' ?_
        have hb' := bit_some hx'
        generalize xs[k - 1]'(by omega) = x at *
        refine bsplit_both (fun hy => ?_) (fun hy => ?_)
        · have hy : x.b 0 = false := by simpa using hy
          refine ⟨k - 1, ⟨by omega, ?_⟩, by omega, ?_⟩
          · rw [← hv]
            have := bv_succ xs (k - 1)
            rw [hb', hy, show k - 1 + 1 = k by omega] at this
            simpa [nb] using this.symm
          · have : ((k - 1 : Nat) : Int) = (k : Int) - 1 := by omega
            exact Eq.trans (b := j_bare s l c room xs ((k : Int) - 1)) (by kernel_rfl) (by rw [this])
        · have hy : x.b 0 = true := by simpa using hy
          have f := fin (.inr (by rw [hb', hy]))
          refine bsplit_both (fun hs => must_mk (by simp; omega) ⟨⟨rfl, trivial⟩, .inl ⟨rfl, ?_⟩⟩) (fun hs => must_mk (by simp; omega) ⟨⟨rfl, trivial⟩, .inl ⟨rfl, ?_⟩⟩)
          · subst hs; rw [dk]; exact f
          · subst hs; exact f
      · have hx : k = 0 := by have : ¬ 0 < k := by simpa using hx
                              omega
        have f := fin (.inl hx)
        refine bsplit_both (fun hs => must_mk (by simp; omega) ⟨⟨rfl, trivial⟩, .inl ⟨rfl, ?_⟩⟩) (fun hs => must_mk (by simp; omega) ⟨⟨rfl, trivial⟩, .inl ⟨rfl, ?_⟩⟩)
        · subst hs; rw [dk]; exact f
        · subst hs; exact f
    · exact h.elim
  · exact h.elim
theorem gq0 : GOk I P (Gm Q0) := Gm.consH (Gm.consH Gm.nil k_bare) k_at
theorem uniq2 {n m : Nat} (hn : Nat.blt n 16777215 = true) (hm : Nat.blt m 16777215 = true) (h : (!Nat.beq n m) = true) : uniq (pairs 0 [n, m]) = true := by
  have h' : Nat.beq m n = false := by
    have : n ≠ m := fun e => by subst e; rw [Nat.beq_refl] at h; cases h
    exact beq_no (Ne.symm this)
  simp only [pairs, uniq, lk, lkr, hn, hm, h']; rfl
theorem sum_step {zs A B : List Rw} {n : Nat} {cy cc : Int} {b : Bool} (hn : zs.length = n) (inv : (bv zs : Int) + cy * 2 ^ n = bv (A.take n) + bv (B.take n)) (h : c1 b + 2 * cc = cy + c1 (bit A n) + c1 (bit B n)) :
    (bv (zs ++ [rwA [.bool b]]) : Int) + cc * 2 ^ (n + 1) = bv (A.take (n + 1)) + bv (B.take (n + 1)) := by
  rw [bv_app, bv_one, hn, bv_succ, bv_succ]
  have e : ∀ b, (nb b : Int) = c1 b := fun b => by cases b <;> rfl
  simp only [Int.natCast_add, Int.natCast_mul, e, Int.natCast_pow]
  rw [Int.pow_succ]
  have : c1 b = cy + c1 (bit A n) + c1 (bit B n) - 2 * cc := by omega
  rw [this]
  have hp : ((2 : Nat) : Int) ^ n = (2 : Int) ^ n := rfl
  rw [hp]
  generalize (2 : Int) ^ n = p at *
  have e1 : p * (cy + c1 (bit A n) + c1 (bit B n) - 2 * cc) = p * cy + p * c1 (bit A n) + p * c1 (bit B n) - 2 * (p * cc) := by
    rw [Int.mul_sub, Int.mul_add, Int.mul_add, Int.mul_left_comm p 2 cc]
  have e2 : cc * (p * 2) = 2 * (p * cc) := by rw [← Int.mul_assoc, Int.mul_comm cc p, Int.mul_comm]
  have e3 : cy * p = p * cy := Int.mul_comm _ _
  rw [e1, e2]
  omega
theorem k_rsum : ∀ (args : List AV) (hp : Tr (AO O)) (nx : Nat) (K : AV → Tr (AO O) → Nat → Prop), c_rsum args hp nx K → ACall I P 55 args hp (fun v hp' => ∃ nx', K v hp' nx') := by
  intro args hp nx K h
  unfold c_rsum at h; split at h
  · rename_i n l c m k d
    split at h
    · rename_i xs r1 ys r2 hb hg1 hg2 hgx
      simp only [Bool.and_eq_true] at hb
      obtain ⟨⟨⟨hb1, hb2⟩, hb3⟩, hb4⟩ := hb
      obtain ⟨⟨⟨hl, hl2⟩, hk, hk2⟩, h⟩ := h
      refine hrows mix gq0 (fn := Try.f55) (by kernel_rfl) (by kernel_rfl) (by kernel_rfl) [n, m] [bo xs r1, bo ys r2] [.sl 0 0 l c, .sl 1 0 k d] (nx := nx) rfl (uniq2 hb1 hb2 hb4) rfl ⟨hg1, hg2, trivial⟩ rfl rfl (fun hr ho => ?_)
      refine (t_rsum I _ l c r1 k d r2 xs ys).mpr ?_
      have hA : (xs.take l).length = l := by rw [List.length_take]; omega
      have hB : (ys.take k).length = k := by rw [List.length_take]; omega
      refine ALoop.weak (Weak.asRows (n := 2) (l := 0) (sh := [.b]) (xs := []) rfl rfl rfl rfl) ?_
      refine ALoop.start [(2, 2)] [0, 1, 5, 6, 7] 3 (j_rsum l c r1 k d r2 xs ys [] 0 0 0 0 0) (by kernel_rfl) (by kernel_rfl) ?_
      refine ALoop.invj (ps := [(4, 2)]) (ts := [0, 1, 5, 6, 7]) (nx := 3) (fun x : List Rw × Nat × Nat × Nat × Int => j_rsum l c r1 k d r2 xs ys x.1 x.2.1 x.2.2.1 x.2.2.2.1 x.2.2.2.2 (x.2.1 : Nat))
        (fun x => x.1.length = x.2.1 ∧ x.2.2.1 ≤ x.2.2.2.1 ∧ (x.2.2.2.2 = 0 ∨ x.2.2.2.2 = 1) ∧ (x.2.1 ≤ Nat.max l k ∨ (x.2.1 = Nat.max l k + 1 ∧ x.2.2.2.2 = 0)) ∧ (bv x.1 : Int) + x.2.2.2.2 * 2 ^ x.2.1 = bv ((xs.take l).take x.2.1) + bv ((ys.take k).take x.2.1))
        (fun x => Nat.max l k + 2 - x.2.1) (fun x hG => ?_) ([], 0, 0, 0, 0) ⟨rfl, Nat.le_refl _, .inl rfl, .inl (Nat.zero_le _), by simp [bv]⟩
      obtain ⟨zs, n', e, room, cy⟩ := x
      obtain ⟨g1, g2, g3, g4, g5⟩ := hG
      simp only at g1 g2 g3 g4 g5
      refine (t_rsumR I _ _ l c r1 k d r2 xs ys zs n' e room cy n').mpr ?_
      have hmx : l ≤ Nat.max l k ∧ k ≤ Nat.max l k ∧ Nat.max l k ≤ 2000 := ⟨Nat.le_max_left _ _, Nat.le_max_right _ _, Nat.max_le.2 ⟨hl2, hk2⟩⟩
      have hin : ((n' : Int)).toNat = n' := by omega
      rw [hin, s_i64 (n := (n' : Int) + 1) (by omega)]
      have hz : zs.take n' = zs := List.take_of_length_le (by omega)
      have hms : (Nat.ble n' zs.length && Nat.ble (e * [Sh.b].length) room && Nat.blt 2 16777215) = true := by
        simp only [Bool.and_eq_true, Nat.ble_eq, List.length_cons, List.length_nil]; exact ⟨⟨by omega, by omega⟩, rfl⟩
      have fin : ∀ (bb : Bool) (cc : Int) (c' : Nat), (cc = 0 ∨ cc = 1) → c1 bb + 2 * cc = cy + c1 (bit (xs.take l) n') + c1 (bit (ys.take k) n') → (n' < l ∨ n' < k ∨ cy = 1) →
          ∃ y : List Rw × Nat × Nat × Nat × Int, (y.1.length = y.2.1 ∧ y.2.2.1 ≤ y.2.2.2.1 ∧ (y.2.2.2.2 = 0 ∨ y.2.2.2.2 = 1) ∧ (y.2.1 ≤ Nat.max l k ∨ (y.2.1 = Nat.max l k + 1 ∧ y.2.2.2.2 = 0)) ∧ (bv y.1 : Int) + y.2.2.2.2 * 2 ^ y.2.1 = bv ((xs.take l).take y.2.1) + bv ((ys.take k).take y.2.1)) ∧
            Nat.max l k + 2 - y.2.1 < Nat.max l k + 2 - n' ∧ j_rsum l c r1 k d r2 xs ys (zs.take n' ++ [rwA [.bool bb]]) (n' + 1) c' (c' * [Sh.b].length) cc ((n' : Int) + 1) = j_rsum l c r1 k d r2 xs ys y.1 y.2.1 y.2.2.1 y.2.2.2.1 y.2.2.2.2 (y.2.1 : Nat) := fun bb cc c' h1 h2 h3 => by
        refine ⟨(zs.take n' ++ [rwA [.bool bb]], n' + 1, c', c' * [Sh.b].length, cc), ⟨by simp [hz, g1], by simp, h1, ?_, ?_⟩, ?_, rfl⟩
        · simp only
          by_cases hm : n' < Nat.max l k
          · exact .inl (by omega)
          · right
            have b1 := bit_none (xs := xs.take l) (i := n') (by omega)
            have b2 := bit_none (xs := ys.take k) (i := n') (by omega)
            rw [b1, b2] at h2
            simp only [c1] at h2
            rcases g4 with g4 | g4
            · refine ⟨by omega, ?_⟩
              cases bb <;> simp only [c1] at h2 <;> omega
            · omega
        · simp only; rw [hz]; exact sum_step g1 g5 h2
        · simp only; omega
      have done : ¬ ((n' : Int) < l) → ¬ ((n' : Int) < k) → ¬ (cy > 0) → bv zs = bv (xs.take l) + bv (ys.take k) ∧ zs.length ≤ Nat.max l k + 1 := fun h1 h2 h3 => by
        have hc : cy = 0 := by omega
        subst hc
        rw [List.take_of_length_le (l := xs.take l) (by omega), List.take_of_length_le (l := ys.take k) (by omega), Int.zero_mul] at g5
        exact ⟨by omega, by omega⟩
      have mk : ∀ {b b' : Bool}, bit (xs.take l) n' = b → bit (ys.take k) n' = b' → ∀ (bb : Bool) (cc : Int), (cc = 0 ∨ cc = 1) → c1 bb + 2 * cc = cy + c1 b + c1 b' → (n' < l ∨ n' < k ∨ cy = 1) → ∀ c' : Nat, ∃ y : List Rw × Nat × Nat × Nat × Int, (y.1.length = y.2.1 ∧ y.2.2.1 ≤ y.2.2.2.1 ∧ (y.2.2.2.2 = 0 ∨ y.2.2.2.2 = 1) ∧ (y.2.1 ≤ Nat.max l k ∨ (y.2.1 = Nat.max l k + 1 ∧ y.2.2.2.2 = 0)) ∧ (bv y.1 : Int) + y.2.2.2.2 * 2 ^ y.2.1 = bv ((xs.take l).take y.2.1) + bv ((ys.take k).take y.2.1)) ∧
            Nat.max l k + 2 - y.2.1 < Nat.max l k + 2 - n' ∧ j_rsum l c r1 k d r2 xs ys (zs.take n' ++ [rwA [.bool bb]]) (n' + 1) c' (c' * [Sh.b].length) cc ((n' : Int) + 1) = j_rsum l c r1 k d r2 xs ys y.1 y.2.1 y.2.2.1 y.2.2.2.1 y.2.2.2.2 (y.2.1 : Nat) := fun h1 h2 bb cc hc h3 h4 c' => fin bb cc c' hc (by rw [h1, h2]; exact h3) h4
      refine bsplit_both (fun w1 => ?_) (fun w1 => bsplit_both (fun w2 => ?_) (fun w2 => bsplit_both (fun w3 => ?_) (fun w3 => ?_)))
      rotate_right
      · obtain ⟨d1, d2⟩ := done (by simpa using w1) (by simpa using w2) (by simpa using w3)
        refine ⟨⟨rfl, rfl, trivial⟩, .inr ⟨2, _, _, zs, room, hb3, hgx, Nat.le_refl _, rfl, rfl, ?_⟩⟩
        have := h zs e room ⟨d1, d2⟩
        rw [g1] at this
        exact this
      all_goals
        have hcond : n' < l ∨ n' < k ∨ cy = 1 := by simp at *; omega
        refine ⟨⟨by omega, by omega⟩, bsplit_both (fun ba => ?_) (fun ba => ?_)⟩
        all_goals
          refine ⟨⟨by omega, by omega⟩, bsplit_both (fun bb => ?_) (fun bb => ?_)⟩
          all_goals
            refine must_mk hms ⟨by omega, fun c' hc1 hc2 => ?_⟩
            rcases g3 with rfl | rfl
            all_goals
              first
              | (obtain ⟨y, y1, y2, y3⟩ := mk ba bb false 0 (.inl rfl) rfl hcond c'; exact ⟨y, y1, y2, y3 ▸ (by kernel_rfl)⟩)
              | (obtain ⟨y, y1, y2, y3⟩ := mk ba bb true 0 (.inl rfl) rfl hcond c'; exact ⟨y, y1, y2, y3 ▸ (by kernel_rfl)⟩)
              | (obtain ⟨y, y1, y2, y3⟩ := mk ba bb false 1 (.inr rfl) rfl hcond c'; exact ⟨y, y1, y2, y3 ▸ (by kernel_rfl)⟩)
              | (obtain ⟨y, y1, y2, y3⟩ := mk ba bb true 1 (.inr rfl) rfl hcond c'; exact ⟨y, y1, y2, y3 ▸ (by kernel_rfl)⟩)
    · exact h.elim
  · exact h.elim
end Go.Tb.W

/- The document's numbers: which bits are worth more; what is left of them. -/
set_option linter.all false
set_option maxRecDepth 100000
namespace Go.Tb.W
open Go Go.Proofs
variable {I : Interp O}
theorem bv_take_take (xs : List Rw) (l i : Nat) (h : i ≤ l) : bv ((xs.take l).take i) = bv (xs.take i) := by rw [List.take_take, Nat.min_eq_left h]
/-- The highest bits that aren't alike tell which is more. -/
theorem great_step {A B : List Rw} {i : Nat} (inv : bv A + bv (B.take (i + 1)) = bv B + bv (A.take (i + 1))) : (bit A i = true → bit B i = false → bv B < bv A) ∧ (bit A i = false → bit B i = true → bv A < bv B) ∧ (bit A i = bit B i → bv A + bv (B.take i) = bv B + bv (A.take i)) := by
  rw [bv_succ, bv_succ] at inv
  have h1 := bv_take_lt A i
  have h2 := bv_take_lt B i
  generalize 2 ^ i = p at *
  refine ⟨fun a b => ?_, fun a b => ?_, fun e => ?_⟩
  · rw [a, b] at inv; simp only [nb, Nat.mul_one, Nat.mul_zero] at inv; omega
  · rw [a, b] at inv; simp only [nb, Nat.mul_one, Nat.mul_zero] at inv; omega
  · rw [e] at inv; omega
theorem k_greater : ∀ (args : List AV) (hp : Tr (AO O)) (nx : Nat) (K : AV → Tr (AO O) → Nat → Prop), c_greater args hp nx K → ACall I P 56 args hp (fun v hp' => ∃ nx', K v hp' nx') := by
  intro args hp nx K h
  unfold c_greater at h; split at h
  · rename_i n l c m k d
    split at h
    · rename_i xs r1 ys r2 hb hg1 hg2
      simp only [Bool.and_eq_true] at hb
      obtain ⟨⟨hb1, hb2⟩, hb4⟩ := hb
      obtain ⟨⟨⟨hl, hl2⟩, hk, hk2⟩, h⟩ := h
      refine hrows mix gq0 (fn := Try.f56) (by kernel_rfl) (by kernel_rfl) (by kernel_rfl) [n, m] [bo xs r1, bo ys r2] [.sl 0 0 l c, .sl 1 0 k d] (nx := nx) rfl (uniq2 hb1 hb2 hb4) rfl ⟨hg1, hg2, trivial⟩ rfl rfl (fun hr ho => ?_)
      refine (t_greater I _ l c r1 k d r2 xs ys).mpr ?_
      have hmx : l ≤ Nat.max l k ∧ k ≤ Nat.max l k ∧ Nat.max l k ≤ 2000 := ⟨Nat.le_max_left _ _, Nat.le_max_right _ _, Nat.max_le.2 ⟨hl2, hk2⟩⟩
      have hmi : (if (k : Int) > (l : Int) then (k : Int) else (l : Int)) = (Nat.max l k : Nat) := by
        have : Nat.max l k = max l k := rfl
        rw [this]; split <;> omega
      rw [hmi, s_i64 (n := ((Nat.max l k : Nat) : Int) - 1) (by omega)]
      refine ALoop.start [] [0, 1, 5] 2 (j_greater l c r1 k d r2 xs ys ((Nat.max l k : Nat) - 1)) (by kernel_rfl) (by kernel_rfl) ?_
      refine ALoop.invj (ps := []) (ts := [0, 1, 5]) (nx := 2) (fun q : Nat => j_greater l c r1 k d r2 xs ys ((q : Int) - 1))
        (fun q => q ≤ Nat.max l k ∧ bv (xs.take l) + bv ((ys.take k).take q) = bv (ys.take k) + bv ((xs.take l).take q)) (fun q => q) (fun q hG => ?_) (Nat.max l k) ⟨Nat.le_refl _, ?_⟩
      · obtain ⟨hq, inv⟩ := hG
        refine (t_greaterR I _ _ l c r1 k d r2 xs ys ((q : Int) - 1)).mpr ?_
        refine bsplit_both (fun hx => ?_) (fun hx => ⟨⟨rfl, rfl, trivial⟩, .inl ⟨rfl, ?_⟩⟩)
        · have hx : (q : Int) - 1 ≥ 0 := by simpa using hx
          have hqi : ((q : Int) - 1).toNat = q - 1 := by omega
          have inv' : bv (xs.take l) + bv ((ys.take k).take (q - 1 + 1)) = bv (ys.take k) + bv ((xs.take l).take (q - 1 + 1)) := by rw [show q - 1 + 1 = q by omega]; exact inv
          obtain ⟨e1, e2, e3⟩ := great_step inv'
          rw [hqi]
          refine ⟨⟨by omega, hl⟩, ⟨by omega, hk⟩, bsplit_both (fun hy => ⟨⟨by omega, hl⟩, bsplit_both (fun hz => ⟨⟨rfl, rfl, trivial⟩, .inl ⟨rfl, ?_⟩⟩) (fun hz => ⟨⟨rfl, rfl, trivial⟩, .inl ⟨rfl, ?_⟩⟩)⟩) (fun hy => ?_)⟩
          · have hB : bit (ys.take k) (q - 1) = false := by rw [hz] at hy; simpa using hy
            refine h 1 (.inr (.inr ⟨?_, rfl⟩))
            have := e1 hz hB; omega
          · have hB : bit (ys.take k) (q - 1) = true := by rw [hz] at hy; simpa using hy
            refine h (-1) (.inl ⟨?_, rfl⟩)
            have := e2 hz hB; omega
          · have he : bit (xs.take l) (q - 1) = bit (ys.take k) (q - 1) := by simpa using hy
            rw [s_i64 (n := (q : Int) - 1 - 1) (by omega)]
            refine ⟨q - 1, ⟨by omega, e3 he⟩, by omega, ?_⟩
            have : ((q - 1 : Nat) : Int) - 1 = (q : Int) - 1 - 1 := by omega
            exact Eq.trans (b := j_greater l c r1 k d r2 xs ys ((q : Int) - 1 - 1)) (by kernel_rfl) (by rw [this])
        · have hx : q = 0 := by have : ¬ (q : Int) - 1 ≥ 0 := by simpa using hx
                                omega
          subst hx
          refine h 0 (.inr (.inl ⟨?_, rfl⟩))
          simp [bv] at inv; omega
      · rw [List.take_of_length_le (l := ys.take k) (by rw [List.length_take]; omega), List.take_of_length_le (l := xs.take l) (by rw [List.length_take]; omega)]; omega
    · exact h.elim
  · exact h.elim
theorem off_step {zs A B : List Rw} {n : Nat} {cy cc : Int} {b : Bool} (hn : zs.length = n) (inv : (bv zs : Int) + bv (B.take n) = bv (A.take n) + cy * 2 ^ n) (h : c1 b + c1 (bit B n) + cy = c1 (bit A n) + 2 * cc) :
    (bv (zs ++ [rwA [.bool b]]) : Int) + bv (B.take (n + 1)) = bv (A.take (n + 1)) + cc * 2 ^ (n + 1) := by
  rw [bv_app, bv_one, hn, bv_succ, bv_succ]
  have e : ∀ b, (nb b : Int) = c1 b := fun b => by cases b <;> rfl
  simp only [Int.natCast_add, Int.natCast_mul, e, Int.natCast_pow]
  rw [Int.pow_succ]
  have : c1 b = c1 (bit A n) + 2 * cc - c1 (bit B n) - cy := by omega
  rw [this]
  have hp : ((2 : Nat) : Int) ^ n = (2 : Int) ^ n := rfl
  rw [hp]
  generalize (2 : Int) ^ n = p at *
  have e1 : p * (c1 (bit A n) + 2 * cc - c1 (bit B n) - cy) = p * c1 (bit A n) + 2 * (p * cc) - p * c1 (bit B n) - p * cy := by
    rw [Int.mul_sub, Int.mul_sub, Int.mul_add, Int.mul_left_comm p 2 cc]
  have e2 : cc * (p * 2) = 2 * (p * cc) := by rw [← Int.mul_assoc, Int.mul_comm cc p, Int.mul_comm]
  have e3 : cy * p = p * cy := Int.mul_comm _ _
  rw [e1, e2]
  omega
theorem k_off : ∀ (args : List AV) (hp : Tr (AO O)) (nx : Nat) (K : AV → Tr (AO O) → Nat → Prop), c_off args hp nx K → ACall I P 57 args hp (fun v hp' => ∃ nx', K v hp' nx') := by
  intro args hp nx K h
  unfold c_off at h; split at h
  · rename_i n l c m k d
    split at h
    · rename_i xs r1 ys r2 hb hg1 hg2 hgx
      simp only [Bool.and_eq_true] at hb
      obtain ⟨⟨⟨hb1, hb2⟩, hb3⟩, hb4⟩ := hb
      obtain ⟨⟨⟨hl, hl2⟩, ⟨hk, hk2⟩, hge⟩, h⟩ := h
      refine hrows mix gq0 (fn := Try.f57) (by kernel_rfl) (by kernel_rfl) (by kernel_rfl) [n, m] [bo xs r1, bo ys r2] [.sl 0 0 l c, .sl 1 0 k d] (nx := nx) rfl (uniq2 hb1 hb2 hb4) rfl ⟨hg1, hg2, trivial⟩ rfl rfl (fun hr ho => ?_)
      refine (t_off I _ l c r1 k d r2 xs ys).mpr ?_
      have hA : (xs.take l).length = l := by rw [List.length_take]; omega
      refine ALoop.weak (Weak.asRows (n := 2) (l := 0) (sh := [.b]) (xs := []) rfl rfl rfl rfl) ?_
      refine ALoop.start [(2, 2)] [0, 1, 5, 6, 7] 3 (j_off l c r1 k d r2 xs ys [] 0 0 0 0 0) (by kernel_rfl) (by kernel_rfl) ?_
      refine ALoop.invj (ps := [(4, 2)]) (ts := [0, 1, 5, 6, 7]) (nx := 3) (fun x : List Rw × Nat × Nat × Nat × Int => j_off l c r1 k d r2 xs ys x.1 x.2.1 x.2.2.1 x.2.2.2.1 x.2.2.2.2 (x.2.1 : Nat))
        (fun x => x.1.length = x.2.1 ∧ x.2.2.1 ≤ x.2.2.2.1 ∧ (x.2.2.2.2 = 0 ∨ x.2.2.2.2 = 1) ∧ x.2.1 ≤ l ∧ (bv x.1 : Int) + bv ((ys.take k).take x.2.1) = bv ((xs.take l).take x.2.1) + x.2.2.2.2 * 2 ^ x.2.1)
        (fun x => l - x.2.1) (fun x hG => ?_) ([], 0, 0, 0, 0) ⟨rfl, Nat.le_refl _, .inl rfl, Nat.zero_le _, by simp [bv]⟩
      obtain ⟨zs, n', e, room, cy⟩ := x
      obtain ⟨g1, g2, g3, g4, g5⟩ := hG
      simp only at g1 g2 g3 g4 g5
      refine (t_offR I _ _ l c r1 k d r2 xs ys zs n' e room cy n').mpr ?_
      have hin : ((n' : Int)).toNat = n' := by omega
      rw [hin, s_i64 (n := (n' : Int) + 1) (by omega)]
      have hz : zs.take n' = zs := List.take_of_length_le (by omega)
      have hms : (Nat.ble n' zs.length && Nat.ble (e * [Sh.b].length) room && Nat.blt 2 16777215) = true := by
        simp only [Bool.and_eq_true, Nat.ble_eq, List.length_cons, List.length_nil]; exact ⟨⟨by omega, by omega⟩, rfl⟩
      have mk : n' < l → ∀ {b b' : Bool}, bit (xs.take l) n' = b → bit (ys.take k) n' = b' → ∀ (bb : Bool) (cc : Int), (cc = 0 ∨ cc = 1) → c1 bb + c1 b' + cy = c1 b + 2 * cc → ∀ c' : Nat, ∃ y : List Rw × Nat × Nat × Nat × Int, (y.1.length = y.2.1 ∧ y.2.2.1 ≤ y.2.2.2.1 ∧ (y.2.2.2.2 = 0 ∨ y.2.2.2.2 = 1) ∧ y.2.1 ≤ l ∧ (bv y.1 : Int) + bv ((ys.take k).take y.2.1) = bv ((xs.take l).take y.2.1) + y.2.2.2.2 * 2 ^ y.2.1) ∧
            l - y.2.1 < l - n' ∧ j_off l c r1 k d r2 xs ys (zs.take n' ++ [rwA [.bool bb]]) (n' + 1) c' (c' * [Sh.b].length) cc ((n' : Int) + 1) = j_off l c r1 k d r2 xs ys y.1 y.2.1 y.2.2.1 y.2.2.2.1 y.2.2.2.2 (y.2.1 : Nat) := fun hnl b b' h1 h2 bb cc hc h3 c' => by
        refine ⟨(zs.take n' ++ [rwA [.bool bb]], n' + 1, c', c' * [Sh.b].length, cc), ⟨by simp [hz, g1], by simp, hc, hnl, ?_⟩, ?_, rfl⟩
        · simp only; rw [hz]; exact off_step g1 g5 (by rw [h1, h2]; exact h3)
        · simp only; omega
      refine bsplit_both (fun w1 => ?_) (fun w1 => ?_)
      rotate_right
      · have w1 : n' = l := by have : ¬ (n' : Int) < l := by simpa using w1
                               omega
        subst w1
        rw [List.take_of_length_le (l := xs.take n') (by omega)] at g5
        have hb1 := bv_take_le (ys.take k) n'
        have hzl := bv_lt zs
        have hAl := bv_lt (xs.take n')
        rw [g1] at hzl; rw [hA] at hAl
        have hcy : cy = 0 := by
          rcases g3 with g3 | g3
          · exact g3
          · exfalso
            subst g3
            have : ((2 : Nat) : Int) ^ n' = (2 : Int) ^ n' := rfl
            have h2 : ((2 ^ n' : Nat) : Int) = (2 : Int) ^ n' := by rw [Int.natCast_pow]; rfl
            rw [← h2] at g5
            omega
        subst hcy
        have hfull : bv ((ys.take k).take n') = bv (ys.take k) := by
          have h3 := bv_app ((ys.take k).take n') ((ys.take k).drop n')
          rw [List.take_append_drop] at h3
          rcases Nat.eq_zero_or_pos (bv ((ys.take k).drop n')) with h4 | h4
          · rw [h4] at h3; omega
          · exfalso
            have hlen : n' ≤ (ys.take k).length := by
              rcases Nat.le_total n' (ys.take k).length with h5 | h5
              · exact h5
              · rw [List.drop_eq_nil_of_le h5] at h4; simp [bv] at h4
            have hlt : ((ys.take k).take n').length = n' := by rw [List.length_take]; omega
            rw [hlt] at h3
            have : 2 ^ n' * 1 ≤ 2 ^ n' * bv ((ys.take k).drop n') := Nat.mul_le_mul_left _ h4
            omega
        rw [hfull] at g5
        refine ⟨⟨rfl, rfl, trivial⟩, .inr ⟨2, _, _, zs, room, hb3, hgx, Nat.le_refl _, rfl, rfl, ?_⟩⟩
        have := h zs e room ⟨by simp at g5; omega, g1⟩
        rw [g1] at this
        exact this
      have w1 : n' < l := by simpa using w1
      refine ⟨⟨by omega, hl⟩, bsplit_both (fun ba => ?_) (fun ba => ?_)⟩
      all_goals
        refine ⟨⟨by omega, hk⟩, bsplit_both (fun bb => ?_) (fun bb => ?_)⟩
        all_goals
          rcases g3 with rfl | rfl
          all_goals
            first
            | (refine bsT rfl (must_mk hms ⟨by omega, fun c' hc1 hc2 => ?_⟩))
            | (refine bsF rfl (must_mk hms ⟨by omega, fun c' hc1 hc2 => ?_⟩))
            first
            | refine bsT rfl ?_
            | refine bsF rfl ?_
            first
            | (obtain ⟨y, y1, y2, y3⟩ := mk w1 ba bb false 0 (.inl rfl) rfl c'; exact ⟨y, y1, y2, y3 ▸ (by kernel_rfl)⟩)
            | (obtain ⟨y, y1, y2, y3⟩ := mk w1 ba bb true 0 (.inl rfl) rfl c'; exact ⟨y, y1, y2, y3 ▸ (by kernel_rfl)⟩)
            | (obtain ⟨y, y1, y2, y3⟩ := mk w1 ba bb false 1 (.inr rfl) rfl c'; exact ⟨y, y1, y2, y3 ▸ (by kernel_rfl)⟩)
            | (obtain ⟨y, y1, y2, y3⟩ := mk w1 ba bb true 1 (.inr rfl) rfl c'; exact ⟨y, y1, y2, y3 ▸ (by kernel_rfl)⟩)
    · exact h.elim
  · exact h.elim
theorem gq1 : GOk I P (Gm Q1) := Gm.consH (Gm.consH (Gm.consH gq0 k_off) k_greater) k_rsum
end Go.Tb.W

/- The document's numbers: what its functions on numbers tell. -/
set_option linter.all false
set_option maxRecDepth 100000
namespace Go.Tb.W
open Go Go.Proofs
def c_rof (args : List AV) (hp : Tr (AO O)) (nx : Nat) (K : AV → Tr (AO O) → Nat → Prop) : Prop := match args with
  | [.int .i64 n] => match Nat.blt nx 16777215, hp.get nx with
    | true, none => ∀ (u : Bool) (zs : List Rw) (j e room : Nat), NR u zs j (n) → K (.agg [.bool u, .sl nx 0 j e]) (hp.set nx (some (.rows 4 [.b] zs room))) (nx + 1)
    | _, _ => False
  | _ => False
def c_from (args : List AV) (hp : Tr (AO O)) (nx : Nat) (K : AV → Tr (AO O) → Nat → Prop) : Prop := match args with
  | [.int .i64 h, .int .u64 l] => match Nat.blt nx 16777215, hp.get nx with
    | true, none => ∀ (u : Bool) (zs : List Rw) (j e room : Nat), NR u zs j (vl h l) → K (.agg [.bool u, .sl nx 0 j e]) (hp.set nx (some (.rows 4 [.b] zs room))) (nx + 1)
    | _, _ => False
  | _ => False
def c_rless (args : List AV) (hp : Tr (AO O)) (nx : Nat) (K : AV → Tr (AO O) → Nat → Prop) : Prop := match args with
  | [.agg [.bool s, .sl n 0 l c]] => match Nat.blt n 16777215, hp.get n with
    | true, some (.rows 4 [.b] xs room) => Pre s xs l ∧ ∀ (u : Bool) (j : Nat), NR u xs j (-(nv s xs l)) → K (.agg [.bool u, .sl n 0 j c]) hp nx
    | _, _ => False
  | _ => False
def c_radd (args : List AV) (hp : Tr (AO O)) (nx : Nat) (K : AV → Tr (AO O) → Nat → Prop) : Prop := match args with
  | [.agg [.bool s, .sl n 0 l c], .agg [.bool t, .sl m 0 k d]] => match Nat.blt n 16777215 && Nat.blt m 16777215 && Nat.blt nx 16777215 && !Nat.beq n m, hp.get n, hp.get m, hp.get nx with
    | true, some (.rows 4 [.b] xs r1), some (.rows 4 [.b] ys r2), none => (Pre s xs l ∧ Pre t ys k) ∧ ∀ (u : Bool) (zs : List Rw) (j e room : Nat), NR u zs j (nv s xs l + nv t ys k) → K (.agg [.bool u, .sl nx 0 j e]) (hp.set nx (some (.rows 4 [.b] zs room))) (nx + 1)
    | _, _, _, _ => False
  | _ => False
def c_rtimes (args : List AV) (hp : Tr (AO O)) (nx : Nat) (K : AV → Tr (AO O) → Nat → Prop) : Prop := match args with
  | [.agg [.bool s, .sl n 0 l c], .agg [.bool t, .sl m 0 k d]] => match Nat.blt n 16777215 && Nat.blt m 16777215 && Nat.blt nx 16777215 && !Nat.beq n m, hp.get n, hp.get m, hp.get nx with
    | true, some (.rows 4 [.b] xs r1), some (.rows 4 [.b] ys r2), none => (Pre s xs l ∧ Pre t ys k ∧ l + k ≤ 800) ∧ ∀ (u : Bool) (zs : List Rw) (j e room : Nat), NR u zs j (nv s xs l * nv t ys k) → K (.agg [.bool u, .sl nx 0 j e]) (hp.set nx (some (.rows 4 [.b] zs room))) (nx + 1)
    | _, _, _, _ => False
  | _ => False
def c_rcmp (args : List AV) (hp : Tr (AO O)) (nx : Nat) (K : AV → Tr (AO O) → Nat → Prop) : Prop := match args with
  | [.agg [.bool s, .sl n 0 l c], .agg [.bool t, .sl m 0 k d]] => match Nat.blt n 16777215 && Nat.blt m 16777215 && !Nat.beq n m, hp.get n, hp.get m with
    | true, some (.rows 4 [.b] xs r1), some (.rows 4 [.b] ys r2) => (Pre s xs l ∧ Pre t ys k ∧ l ≤ 800 ∧ k ≤ 800) ∧ ∀ r, CmpR (nv s xs l) (nv t ys k) r → K (.int .i64 r) hp nx
    | _, _, _ => False
  | _ => False
def c_rdiv (args : List AV) (hp : Tr (AO O)) (nx : Nat) (K : AV → Tr (AO O) → Nat → Prop) : Prop := match args with
  | [.agg [.bool s, .sl n 0 l c], .agg [.bool t, .sl m 0 k d]] => match Nat.blt n 16777215 && Nat.blt m 16777215 && Nat.blt (nx + 1) 16777215 && !Nat.beq n m, hp.get n, hp.get m, hp.get nx, hp.get (nx + 1) with
    | true, some (.rows 4 [.b] xs r1), some (.rows 4 [.b] ys r2), none, none => (Pre s xs l ∧ Pre t ys k ∧ l ≤ 800 ∧ k ≤ 800 ∧ 1 ≤ nv t ys k) ∧
      ∀ (u u' : Bool) (zs zs' : List Rw) (j e room j' e' room' : Nat), NR u zs j (nv s xs l / nv t ys k) → NR u' zs' j' (nv s xs l % nv t ys k) →
        K (.tup [.agg [.bool u, .sl nx 0 j e], .agg [.bool u', .sl (nx + 1) 0 j' e']]) ((hp.set nx (some (.rows 4 [.b] zs room))).set (nx + 1) (some (.rows 4 [.b] zs' room'))) (nx + 2)
    | _, _, _, _, _ => False
  | _ => False
def powOk (p : Int) : Prop := 0 ≤ p ∧ p ≤ 800
/-- Is a number one of so many bits? -/
def FitsR (v p : Int) (b : Bool) : Prop := b = true ↔ -(2 ^ p.toNat : Int) ≤ v ∧ v < 2 ^ p.toNat
def c_fits (args : List AV) (hp : Tr (AO O)) (nx : Nat) (K : AV → Tr (AO O) → Nat → Prop) : Prop := match args with
  | [.agg [.bool s, .sl n 0 l c], .int .i64 p] => match Nat.blt n 16777215, hp.get n with
    | true, some (.rows 4 [.b] xs room) => (Pre s xs l ∧ l ≤ 800 ∧ powOk p) ∧ ∀ b : Bool, FitsR (nv s xs l) p b → K (.bool b) hp nx
    | _, _ => False
  | _ => False
/-- High and Low of a number. -/
def WideR (v h l : Int) : Prop := (-9223372036854775808 ≤ h ∧ h ≤ 9223372036854775807) ∧ (0 ≤ l ∧ l ≤ 18446744073709551615) ∧ (l - v) % 18446744073709551616 = 0 ∧ (-170141183460469231731687303715884105728 ≤ v ∧ v ≤ 170141183460469231731687303715884105727 → Nm h l v)
def c_rwide (args : List AV) (hp : Tr (AO O)) (nx : Nat) (K : AV → Tr (AO O) → Nat → Prop) : Prop := match args with
  | [.agg [.bool s, .sl n 0 l c]] => match Nat.blt n 16777215, hp.get n with
    | true, some (.rows 4 [.b] xs room) => (Pre s xs l ∧ l ≤ 800) ∧ ∀ h' l', WideR (nv s xs l) h' l' → K (.tup [.int .i64 h', .int .u64 l']) hp nx
    | _, _ => False
  | _ => False
def c_rpart (args : List AV) (K : AV → Prop) : Prop := match args with
  | [.int .i64 a, .int .i64 b, .int .i64 y] => ∀ n e, PartR a b y n e → K (.tup [.int .i64 n, .int .i64 e])
  | _ => False
noncomputable abbrev Q2 : List (FuncId × Sp O) :=
  (36, .h c_rof) ::
  (38, .h c_rless) ::
  (37, .h c_radd) ::
  Q1
noncomputable abbrev Q3 : List (FuncId × Sp O) :=
  (14, .h c_from) ::
  (40, .h c_rcmp) ::
  (15, .h c_fits) ::
  (16, .h c_rwide) ::
  (45, .h c_rtimes) ::
  (44, .h c_rdiv) ::
  Q2
noncomputable abbrev Q4 : List (FuncId × Sp O) :=
  (26, .p c_rpart) ::
  Q3
abbrev nO (s : Bool) (v : AV) : AO O := .cells 32 [.bool s, v] 2
noncomputable abbrev j_from0 (h l : Int) : St O := ⟨Tr.setL [(0, .int .i64 h), (1, .int .u64 l), (4, .ptr 0 0), (5, .ptr 1 0), (6, .int .i64 0)] .leaf, Tr.setL [(0, nO false .nils), (1, nO false .nils)] .leaf, 2, 35⟩
noncomputable abbrev j_from (h l : Int) (zs : List Rw) (n e room : Nat) (i : Int) : St O := ⟨Tr.setL [(0, .int .i64 h), (1, .int .u64 l), (4, .ptr 0 0), (5, .ptr 1 0), (6, .int .i64 i)] .leaf,
  Tr.setL [(0, nO false .nils), (1, nO false (.sl 2 0 n e)), (2, bo zs room)] .leaf, 3, 35⟩
noncomputable abbrev j_wide1 (s : Bool) (l c r : Nat) (xs : List Rw) (hi_ lo_ i : Int) : St O := ⟨Tr.setL [(1, .ptr 1 0), (4, .ptr 2 0), (5, .int .u64 hi_), (6, .int .u64 lo_), (7, .int .i64 i)] .leaf,
  Tr.setL [(0, bo xs r), (1, nO s (.sl 0 0 l c)), (2, nO s (.sl 0 0 l c))] .leaf, 3, 46⟩
noncomputable abbrev j_wide0 (s : Bool) (l c r : Nat) (xs : List Rw) (u : Bool) (zs : List Rw) (j e room : Nat) (hi_ lo_ i : Int) : St O := ⟨Tr.setL [(1, .ptr 1 0), (4, .ptr 2 0), (5, .int .u64 hi_), (6, .int .u64 lo_), (7, .int .i64 i)] .leaf,
  Tr.setL [(0, bo xs r), (1, nO s (.sl 0 0 l c)), (2, nO u (.sl 4 0 j e)), (4, bo zs room)] .leaf, 5, 46⟩
noncomputable abbrev j_times (s t : Bool) (l c r k d q : Nat) (xs ys zs : List Rw) (n e room : Nat) (i : Int) : St O := ⟨Tr.setL [(2, .ptr 2 0), (3, .ptr 3 0), (4, .ptr 4 0), (5, .sl 5 0 n e), (6, .int .i64 i)] .leaf,
  Tr.setL [(0, bo xs r), (1, bo ys q), (2, nO s (.sl 0 0 l c)), (3, nO t (.sl 1 0 k d)), (4, nO false .nils), (5, bo zs room)] .leaf, 6, 36⟩
noncomputable abbrev j_div (s t : Bool) (l c r k d q : Nat) (xs ys qs zs : List Rw) (n e room : Nat) (i : Int) : St O := ⟨Tr.setL [(2, .ptr 2 0), (3, .ptr 3 0), (4, .ptr 4 0), (5, .ptr 5 0), (6, .ptr 7 0), (7, .sl 8 0 n e), (8, .int .i64 i)] .leaf,
  Tr.setL [(0, bo xs r), (1, bo ys q), (2, nO s (.sl 0 0 l c)), (3, nO t (.sl 1 0 k d)), (4, nO false .nils), (5, nO false .nils), (6, bo qs (l * [Sh.b].length)), (7, nO false (.sl 6 0 l l)), (8, bo zs room)] .leaf, 9, 70⟩
end Go.Tb.W

/- What the functions' bodies come to: each line is what the abstract machine makes of one function, or of one round of a loop, over the contracts of the functions that it calls (the text was printed by a program of mine; Lean proves it again). -/
set_option linter.all false
set_option maxRecDepth 100000
namespace Go.Tb
open Go Go.Proofs
namespace W
theorem t_rof (I : Interp O) (K : AV → Tr (AO O) → Nat → Prop) (n : Int) : abody I P (Gm Q1) (adraw P (Gm Q1)) 0 Try.f36 [.int .i64 n] (Tr.ofList 0 [] .leaf) 0 K =
  (bsplit (decide (n < 0)) fun | true => (ALoop I 0 (cd Try.f36 [true, true, true, true, false, true, false, false]) (acode I P (Gm Q1) (adraw P (Gm Q1)) 0 (cd Try.f36 [true, true, true, true, false, true, false, false])) (ablock 0 (athen (cd Try.f36 [true, true, true, true, true]) (fun s => acode I P (Gm Q1) (adraw P (Gm Q1)) 0 (cd Try.f36 [true, true, true, true, true]) s (kret P Try.f36 (K))) (kret P Try.f36 (K)))) ⟨(.node (.node (.node (.node (.node .leaf (some (.int IntKind.u64 (IntKind.u64.wrap (bits BinOp.xor IntKind.u64 (if IntKind.u64.signed = true then -1 else IntKind.u64.max) (IntKind.u64.wrap n) + 1)))) .leaf) (some (.bool (decide (n < 0)))) .leaf) (some (.ptr 1 0)) (.node .leaf (some (.int IntKind.i64 (n))) .leaf)) none (.node (.node .leaf (some (.int IntKind.i64 (n))) .leaf) (some (.int IntKind.i64 (0 : Int))) (.node .leaf (some (.int IntKind.u64 (IntKind.u64.wrap n))) .leaf))) (some (.int IntKind.i64 (n))) (.node (.node (.node .leaf (some (.agg [(.bool (decide (n < 0))), .nils])) .leaf) (some (.int IntKind.u64 (IntKind.u64.wrap (bits BinOp.xor IntKind.u64 (if IntKind.u64.signed = true then -1 else IntKind.u64.max) (IntKind.u64.wrap n) + 1)))) (.node .leaf (some (.bool true)) .leaf)) (some (.ptr 0 0)) (.node (.node .leaf (some (.int IntKind.u64 (IntKind.u64.wrap n))) .leaf) (some (.int IntKind.i64 (n))) (.node .leaf (some (.int IntKind.u64 (bits BinOp.xor IntKind.u64 (if IntKind.u64.signed = true then -1 else IntKind.u64.max) (IntKind.u64.wrap n)))) .leaf)))), (.node (.node .leaf (some (.cells 32 [(.bool (decide (n < 0))), .nils] 2)) .leaf) (some (.cells 32 [(.bool false), .nils] 2)) .leaf), 2, 32⟩) | false => (ALoop I 0 (cd Try.f36 [true, true, true, true, false, true, false, false]) (acode I P (Gm Q1) (adraw P (Gm Q1)) 0 (cd Try.f36 [true, true, true, true, false, true, false, false])) (ablock 0 (athen (cd Try.f36 [true, true, true, true, true]) (fun s => acode I P (Gm Q1) (adraw P (Gm Q1)) 0 (cd Try.f36 [true, true, true, true, true]) s (kret P Try.f36 (K))) (kret P Try.f36 (K)))) ⟨(.node (.node (.node (.node .leaf (some (.bool (decide (n < 0)))) .leaf) (some (.ptr 1 0)) (.node .leaf (some (.int IntKind.i64 (n))) .leaf)) none (.node (.node .leaf (some (.int IntKind.i64 (n))) .leaf) (some (.int IntKind.i64 (0 : Int))) .leaf)) (some (.int IntKind.i64 (n))) (.node (.node (.node .leaf (some (.agg [(.bool (decide (n < 0))), .nils])) .leaf) (some (.int IntKind.u64 (IntKind.u64.wrap n))) (.node .leaf (some (.bool false)) .leaf)) (some (.ptr 0 0)) (.node (.node .leaf (some (.int IntKind.u64 (IntKind.u64.wrap n))) .leaf) (some (.int IntKind.i64 (n))) .leaf))), (.node (.node .leaf (some (.cells 32 [(.bool (decide (n < 0))), .nils] 2)) .leaf) (some (.cells 32 [(.bool false), .nils] 2)) .leaf), 2, 32⟩)) := by kernel_rfl
theorem t_rless (I : Interp O) (K : AV → Tr (AO O) → Nat → Prop) (s : Bool) (l c r : Nat) (xs : List Rw) : abody I P (Gm Q1) (adraw P (Gm Q1)) 1 Try.f38 [.agg [.bool s, .sl 0 0 l c]] (Tr.ofList 0 [bo xs r] .leaf) 1 K =
  ((lenB xs l) ∧ (∀ (k0 : Nat), (k0 ≤ l ∧ bv (List.take k0 xs) = bv (List.take l xs) ∧ (k0 = 0 ∨ bit xs (k0 - 1) = true) → (K (.agg [(.bool (!s && decide (0 < k0))), (.sl 0 0 (k0) (c))]) (.node (.node .leaf (some (.cells 32 [(.bool (s)), (.sl 0 0 (l) (c))] 2)) .leaf) (some (.rows 4 [Sh.b] (xs) (r))) (.node .leaf (some (.cells 32 [(.bool (!s && decide (0 < k0))), (.sl 0 0 (k0) (c))] 2)) .leaf)) 3)))) := by kernel_rfl
theorem t_radd (I : Interp O) (K : AV → Tr (AO O) → Nat → Prop) (s t : Bool) (l c r k d q : Nat) (xs ys : List Rw) : abody I P (Gm Q1) (adraw P (Gm Q1)) 2 Try.f37 [.agg [.bool s, .sl 0 0 l c], .agg [.bool t, .sl 1 0 k d]] (Tr.ofList 0 [bo xs r, bo ys q] .leaf) 2 K =
  (bsplit (s == t) fun | true => ((lenB xs l ∧ lenB ys k) ∧ (∀ (zs0 : List Rw), (∀ (e1 : Nat), (∀ (room2 : Nat), (bv zs0 = bv (List.take l xs) + bv (List.take k ys) ∧ zs0.length ≤ l.max k + 1 → (((some (.cells 32 [(.bool (s)), (.sl 0 0 (l) (c))] 2) : Option (AO O)) = some (.cells 32 [(.bool (s)), (.sl 0 0 (l) (c))] 2)) ∧ ((lenB zs0 zs0.length) ∧ (∀ (k3 : Nat), (k3 ≤ zs0.length ∧ bv (List.take k3 zs0) = bv (List.take zs0.length zs0) ∧ (k3 = 0 ∨ bit zs0 (k3 - 1) = true) → (((some (.cells 32 [(.bool (s)), (.sl 0 0 (l) (c))] 2) : Option (AO O)) = some (.cells 32 [(.bool (s)), (.sl 0 0 (l) (c))] 2)) ∧ (K (.agg [(.bool (s && decide (0 < k3))), (.sl 5 0 (k3) (e1))]) (.node (.node (.node .leaf (some (.cells 32 [(.bool (t)), (.sl 1 0 (k) (d))] 2)) .leaf) (some (.rows 4 [Sh.b] (ys) (q))) (.node .leaf (some (.rows 4 [Sh.b] (zs0) (room2))) .leaf)) (some (.rows 4 [Sh.b] (xs) (r))) (.node (.node .leaf (some (.cells 32 [(.bool (s && decide (0 < k3))), (.sl 5 0 (k3) (e1))] 2)) .leaf) (some (.cells 32 [(.bool (s)), (.sl 0 0 (l) (c))] 2)) .leaf)) 6))))))))))) | false => ((lenB xs l ∧ lenB ys k) ∧ (∀ (r4 : Int), (CmpR (↑(bv (List.take l xs)) : Int) (↑(bv (List.take k ys)) : Int) r4 → (bsplit (decide (r4 ≥ 0)) fun | true => ((lenB xs l ∧ lenB ys k ∧ bv (List.take k ys) ≤ bv (List.take l xs)) ∧ (∀ (zs5 : List Rw), (∀ (e6 : Nat), (∀ (room7 : Nat), (bv zs5 + bv (List.take k ys) = bv (List.take l xs) ∧ zs5.length = l → (((some (.cells 32 [(.bool (s)), (.sl 0 0 (l) (c))] 2) : Option (AO O)) = some (.cells 32 [(.bool (s)), (.sl 0 0 (l) (c))] 2)) ∧ ((lenB zs5 zs5.length) ∧ (∀ (k8 : Nat), (k8 ≤ zs5.length ∧ bv (List.take k8 zs5) = bv (List.take zs5.length zs5) ∧ (k8 = 0 ∨ bit zs5 (k8 - 1) = true) → (((some (.cells 32 [(.bool (s)), (.sl 0 0 (l) (c))] 2) : Option (AO O)) = some (.cells 32 [(.bool (s)), (.sl 0 0 (l) (c))] 2)) ∧ (K (.agg [(.bool (s && decide (0 < k8))), (.sl 5 0 (k8) (e6))]) (.node (.node (.node .leaf (some (.cells 32 [(.bool (t)), (.sl 1 0 (k) (d))] 2)) .leaf) (some (.rows 4 [Sh.b] (ys) (q))) (.node .leaf (some (.rows 4 [Sh.b] (zs5) (room7))) .leaf)) (some (.rows 4 [Sh.b] (xs) (r))) (.node (.node .leaf (some (.cells 32 [(.bool (s && decide (0 < k8))), (.sl 5 0 (k8) (e6))] 2)) .leaf) (some (.cells 32 [(.bool (s)), (.sl 0 0 (l) (c))] 2)) .leaf)) 6))))))))))) | false => ((lenB ys k ∧ lenB xs l ∧ bv (List.take l xs) ≤ bv (List.take k ys)) ∧ (∀ (zs9 : List Rw), (∀ (e10 : Nat), (∀ (room11 : Nat), (bv zs9 + bv (List.take l xs) = bv (List.take k ys) ∧ zs9.length = k → (((some (.cells 32 [(.bool (t)), (.sl 1 0 (k) (d))] 2) : Option (AO O)) = some (.cells 32 [(.bool (t)), (.sl 1 0 (k) (d))] 2)) ∧ ((lenB zs9 zs9.length) ∧ (∀ (k12 : Nat), (k12 ≤ zs9.length ∧ bv (List.take k12 zs9) = bv (List.take zs9.length zs9) ∧ (k12 = 0 ∨ bit zs9 (k12 - 1) = true) → (((some (.cells 32 [(.bool (t)), (.sl 1 0 (k) (d))] 2) : Option (AO O)) = some (.cells 32 [(.bool (t)), (.sl 1 0 (k) (d))] 2)) ∧ (K (.agg [(.bool (t && decide (0 < k12))), (.sl 5 0 (k12) (e10))]) (.node (.node (.node .leaf (some (.cells 32 [(.bool (t)), (.sl 1 0 (k) (d))] 2)) .leaf) (some (.rows 4 [Sh.b] (ys) (q))) (.node .leaf (some (.rows 4 [Sh.b] (zs9) (room11))) .leaf)) (some (.rows 4 [Sh.b] (xs) (r))) (.node (.node .leaf (some (.cells 32 [(.bool (t && decide (0 < k12))), (.sl 5 0 (k12) (e10))] 2)) .leaf) (some (.cells 32 [(.bool (s)), (.sl 0 0 (l) (c))] 2)) .leaf)) 6)))))))))))))))) := by kernel_rfl
theorem t_from (I : Interp O) (K : AV → Tr (AO O) → Nat → Prop) (h l : Int) : abody I P (Gm Q2) (adraw P (Gm Q2)) 0 Try.f14 [.int .i64 h, .int .u64 l] (Tr.ofList 0 [] .leaf) 0 K =
  (ALoop I 0 (cd Try.f14 [true, true, false, true, false, false]) (acode I P (Gm Q2) (adraw P (Gm Q2)) 0 (cd Try.f14 [true, true, false, true, false, false])) (ablock 0 (athen (cd Try.f14 [true, true, true]) (fun s => acode I P (Gm Q2) (adraw P (Gm Q2)) 0 (cd Try.f14 [true, true, true]) s (kret P Try.f14 (K))) (kret P Try.f14 (K)))) ⟨(.node (.node .leaf (some (.int IntKind.u64 (l))) (.node .leaf (some (.ptr 1 0)) .leaf)) (some (.int IntKind.i64 (h))) (.node (.node (.node .leaf (some (.agg [(.bool false), .nils])) .leaf) (some (.ptr 0 0)) .leaf) none (.node .leaf (some (.int IntKind.i64 (0 : Int))) .leaf))), (.node (.node .leaf (some (.cells 32 [(.bool false), .nils] 2)) .leaf) (some (.cells 32 [(.bool false), .nils] 2)) .leaf), 2, 35⟩) := by kernel_rfl
theorem t_rcmp (I : Interp O) (K : AV → Tr (AO O) → Nat → Prop) (s t : Bool) (l c r k d q : Nat) (xs ys : List Rw) : abody I P (Gm Q2) (adraw P (Gm Q2)) 2 Try.f40 [.agg [.bool s, .sl 0 0 l c], .agg [.bool t, .sl 1 0 k d]] (Tr.ofList 0 [bo xs r, bo ys q] .leaf) 2 K =
  ((Pre t ys k) ∧ (∀ (u0 : Bool), (∀ (j1 : Nat), (NR u0 ys j1 (-nv t ys k) → (((some (.cells 32 [(.bool (s)), (.sl 0 0 (l) (c))] 2) : Option (AO O)) = some (.cells 32 [(.bool (s)), (.sl 0 0 (l) (c))] 2)) ∧ ((Pre s xs l ∧ Pre u0 ys j1) ∧ (∀ (u2 : Bool), (∀ (zs3 : List Rw), (∀ (j4 : Nat), (∀ (e5 : Nat), (∀ (room6 : Nat), (NR u2 zs3 j4 (nv s xs l + nv u0 ys j1) → (bsplit (u2) fun | true => (K (.int IntKind.i64 (-1 : Int)) (.node (.node (.node .leaf (some (.cells 32 [(.bool (t)), (.sl 1 0 (k) (d))] 2)) .leaf) (some (.rows 4 [Sh.b] (ys) (q))) (.node .leaf (some (.cells 32 [(.bool (u2)), (.sl 4 0 (j4) (e5))] 2)) .leaf)) (some (.rows 4 [Sh.b] (xs) (r))) (.node (.node .leaf (some (.rows 4 [Sh.b] (zs3) (room6))) .leaf) (some (.cells 32 [(.bool (s)), (.sl 0 0 (l) (c))] 2)) .leaf)) 6) | false => (K (.int IntKind.i64 (if 1 < (↑j4 : Int) then 1 else (↑j4 : Int))) (.node (.node (.node .leaf (some (.cells 32 [(.bool (t)), (.sl 1 0 (k) (d))] 2)) .leaf) (some (.rows 4 [Sh.b] (ys) (q))) (.node .leaf (some (.cells 32 [(.bool (u2)), (.sl 4 0 (j4) (e5))] 2)) .leaf)) (some (.rows 4 [Sh.b] (xs) (r))) (.node (.node .leaf (some (.rows 4 [Sh.b] (zs3) (room6))) .leaf) (some (.cells 32 [(.bool (s)), (.sl 0 0 (l) (c))] 2)) .leaf)) 6)))))))))))))) := by kernel_rfl
theorem t_fits (I : Interp O) (K : AV → Tr (AO O) → Nat → Prop) (s : Bool) (l c r : Nat) (xs : List Rw) (p : Int) : abody I P (Gm Q2) (adraw P (Gm Q2)) 1 Try.f15 [.agg [.bool s, .sl 0 0 l c], .int .i64 p] (Tr.ofList 0 [bo xs r] .leaf) 1 K =
  (bsplit (!s) fun | true => (K (.bool (decide ((↑l : Int) ≤ p))) (.node (.node .leaf (some (.cells 32 [(.bool (s)), (.sl 0 0 (l) (c))] 2)) .leaf) (some (.rows 4 [Sh.b] (xs) (r))) .leaf) 2) | false => (∀ (u0 : Bool), (∀ (zs1 : List Rw), (∀ (j2 : Nat), (∀ (e3 : Nat), (∀ (room4 : Nat), (NR u0 zs1 j2 1 → (((some (.cells 32 [(.bool (s)), (.sl 0 0 (l) (c))] 2) : Option (AO O)) = some (.cells 32 [(.bool (s)), (.sl 0 0 (l) (c))] 2)) ∧ ((Pre s xs l ∧ Pre u0 zs1 j2) ∧ (∀ (u5 : Bool), (∀ (zs6 : List Rw), (∀ (j7 : Nat), (∀ (e8 : Nat), (∀ (room9 : Nat), (NR u5 zs6 j7 (nv s xs l + nv u0 zs1 j2) → (K (.bool (decide ((↑j7 : Int) ≤ p))) (.node (.node (.node .leaf (some (.rows 4 [Sh.b] (zs6) (room9))) .leaf) (some (.cells 32 [(.bool (s)), (.sl 0 0 (l) (c))] 2)) .leaf) (some (.rows 4 [Sh.b] (xs) (r))) (.node .leaf (some (.rows 4 [Sh.b] (zs1) (room4))) .leaf)) 4)))))))))))))))) := by kernel_rfl
theorem t_rwide (I : Interp O) (K : AV → Tr (AO O) → Nat → Prop) (s : Bool) (l c r : Nat) (xs : List Rw) : abody I P (Gm Q2) (adraw P (Gm Q2)) 1 Try.f16 [.agg [.bool s, .sl 0 0 l c]] (Tr.ofList 0 [bo xs r] .leaf) 1 K =
  (bsplit (s) fun | true => (∀ (u0 : Bool), (∀ (zs1 : List Rw), (∀ (j2 : Nat), (∀ (e3 : Nat), (∀ (room4 : Nat), (NR u0 zs1 j2 1 → (((some (.cells 32 [(.bool (s)), (.sl 0 0 (l) (c))] 2) : Option (AO O)) = some (.cells 32 [(.bool (s)), (.sl 0 0 (l) (c))] 2)) ∧ ((Pre s xs l ∧ Pre u0 zs1 j2) ∧ (∀ (u5 : Bool), (∀ (zs6 : List Rw), (∀ (j7 : Nat), (∀ (e8 : Nat), (∀ (room9 : Nat), (NR u5 zs6 j7 (nv s xs l + nv u0 zs1 j2) → ((Pre u5 zs6 j7) ∧ (∀ (u10 : Bool), (∀ (j11 : Nat), (NR u10 zs6 j11 (-nv u5 zs6 j7) → (ALoop I 1 (cd Try.f16 [true, true, true, true, true, false, true, false, false]) (acode I P (Gm Q2) (adraw P (Gm Q2)) 1 (cd Try.f16 [true, true, true, true, true, false, true, false, false])) (ablock 0 (athen (cd Try.f16 [true, true, true, true, true, true]) (fun s => acode I P (Gm Q2) (adraw P (Gm Q2)) 1 (cd Try.f16 [true, true, true, true, true, true]) s (kret P Try.f16 (K))) (kret P Try.f16 (K)))) ⟨(.node (.node (.node (.node .leaf (some (.int IntKind.i64 (0 : Int))) .leaf) (some (.int IntKind.u64 (0 : Int))) (.node .leaf (some (.agg [(.bool (s)), (.sl 0 0 (l) (c))])) .leaf)) (some (.ptr 1 0)) (.node (.node .leaf (some (.ptr 1 0)) .leaf) (some (.int IntKind.u64 (0 : Int))) (.node .leaf (some (.agg [(.bool (u5)), (.sl 4 0 (j7) (e8))])) .leaf))) (some (.agg [(.bool (s)), (.sl 0 0 (l) (c))])) (.node (.node (.node .leaf (some (.agg [(.bool (s)), (.sl 0 0 (l) (c))])) .leaf) (some (.ptr 2 0)) (.node .leaf (some (.agg [(.bool (u0)), (.sl 3 0 (j2) (e3))])) .leaf)) (some (.int IntKind.i64 (0 : Int))) (.node (.node .leaf (some (.bool true)) .leaf) (some (.int IntKind.u64 (0 : Int))) (.node .leaf (some (.agg [(.bool (u10)), (.sl 4 0 (j11) (e8))])) .leaf)))), (.node (.node (.node .leaf (some (.rows 4 [Sh.b] (zs1) (room4))) .leaf) (some (.cells 32 [(.bool (s)), (.sl 0 0 (l) (c))] 2)) .leaf) (some (.rows 4 [Sh.b] (xs) (r))) (.node (.node .leaf (some (.rows 4 [Sh.b] (zs6) (room9))) .leaf) (some (.cells 32 [(.bool (u10)), (.sl 4 0 (j11) (e8))] 2)) .leaf)), 5, 46⟩))))))))))))))))))) | false => (ALoop I 1 (cd Try.f16 [true, true, true, true, true, false, true, false, false]) (acode I P (Gm Q2) (adraw P (Gm Q2)) 1 (cd Try.f16 [true, true, true, true, true, false, true, false, false])) (ablock 0 (athen (cd Try.f16 [true, true, true, true, true, true]) (fun s => acode I P (Gm Q2) (adraw P (Gm Q2)) 1 (cd Try.f16 [true, true, true, true, true, true]) s (kret P Try.f16 (K))) (kret P Try.f16 (K)))) ⟨(.node (.node (.node (.node .leaf (some (.int IntKind.i64 (0 : Int))) .leaf) (some (.int IntKind.u64 (0 : Int))) .leaf) (some (.ptr 1 0)) (.node (.node .leaf (some (.ptr 1 0)) .leaf) (some (.int IntKind.u64 (0 : Int))) .leaf)) (some (.agg [(.bool (s)), (.sl 0 0 (l) (c))])) (.node (.node (.node .leaf (some (.agg [(.bool (s)), (.sl 0 0 (l) (c))])) .leaf) (some (.ptr 2 0)) .leaf) (some (.int IntKind.i64 (0 : Int))) (.node (.node .leaf (some (.bool false)) .leaf) (some (.int IntKind.u64 (0 : Int))) .leaf))), (.node (.node .leaf (some (.cells 32 [(.bool (s)), (.sl 0 0 (l) (c))] 2)) .leaf) (some (.rows 4 [Sh.b] (xs) (r))) (.node .leaf (some (.cells 32 [(.bool (s)), (.sl 0 0 (l) (c))] 2)) .leaf)), 3, 46⟩)) := by kernel_rfl
theorem t_rtimes (I : Interp O) (K : AV → Tr (AO O) → Nat → Prop) (s t : Bool) (l c r k d q : Nat) (xs ys : List Rw) : abody I P (Gm Q2) (adraw P (Gm Q2)) 2 Try.f45 [.agg [.bool s, .sl 0 0 l c], .agg [.bool t, .sl 1 0 k d]] (Tr.ofList 0 [bo xs r, bo ys q] .leaf) 2 K =
  (ALoop I 2 (cd Try.f45 [true, true, false, true, false, false]) (acode I P (Gm Q2) (adraw P (Gm Q2)) 2 (cd Try.f45 [true, true, false, true, false, false])) (ablock 0 (athen (cd Try.f45 [true, true, true]) (fun s => acode I P (Gm Q2) (adraw P (Gm Q2)) 2 (cd Try.f45 [true, true, true]) s (kret P Try.f45 (K))) (kret P Try.f45 (K)))) ⟨(.node (.node (.node (.node .leaf (some (.sl 5 0 0 0)) .leaf) (some (.ptr 3 0)) (.node .leaf (some (.int IntKind.i64 (IntKind.i64.wrap ((↑k : Int) - 1)))) .leaf)) (some (.agg [(.bool (t)), (.sl 1 0 (k) (d))])) (.node (.node .leaf (some (.sl 1 0 (k) (d))) .leaf) (some (.sl 5 0 0 0)) .leaf)) (some (.agg [(.bool (s)), (.sl 0 0 (l) (c))])) (.node (.node (.node .leaf (some (.ptr 3 1)) .leaf) (some (.ptr 4 0)) .leaf) (some (.ptr 2 0)) (.node (.node .leaf (some (.int IntKind.i64 ((↑k : Int)))) .leaf) (some (.int IntKind.i64 (IntKind.i64.wrap ((↑k : Int) - 1)))) .leaf))), (.node (.node (.node .leaf (some (.cells 32 [(.bool (t)), (.sl 1 0 (k) (d))] 2)) .leaf) (some (.rows 4 [Sh.b] (ys) (q))) (.node .leaf (some (.cells 4 [] 0)) .leaf)) (some (.rows 4 [Sh.b] (xs) (r))) (.node (.node .leaf (some (.cells 32 [(.bool false), .nils] 2)) .leaf) (some (.cells 32 [(.bool (s)), (.sl 0 0 (l) (c))] 2)) .leaf)), 6, 36⟩) := by kernel_rfl
theorem t_rdiv (I : Interp O) (K : AV → Tr (AO O) → Nat → Prop) (s t : Bool) (l c r k d q : Nat) (xs ys : List Rw) : abody I P (Gm Q2) (adraw P (Gm Q2)) 2 Try.f44 [.agg [.bool s, .sl 0 0 l c], .agg [.bool t, .sl 1 0 k d]] (Tr.ofList 0 [bo xs r, bo ys q] .leaf) 2 K =
  (((0 : Int) ≤ (↑l : Int) ∧ (↑l : Int) ≤ (↑l : Int) ∧ (↑l : Int) ≤ (137438953472 : Int)) ∧ (ALoop I 2 (cd Try.f44 [true, true, true, false, true, false, false]) (acode I P (Gm Q2) (adraw P (Gm Q2)) 2 (cd Try.f44 [true, true, true, false, true, false, false])) (ablock 0 (athen (cd Try.f44 [true, true, true, true]) (fun s => acode I P (Gm Q2) (adraw P (Gm Q2)) 2 (cd Try.f44 [true, true, true, true]) s (kret P Try.f44 (K))) (kret P Try.f44 (K)))) ⟨(.node (.node (.node (.node (.node .leaf (some (.sl 8 0 0 0)) .leaf) (some (.sl 8 0 0 0)) .leaf) (some (.ptr 3 0)) (.node (.node .leaf (some (.int IntKind.i64 (IntKind.i64.wrap ((↑l : Int) - 1)))) .leaf) (some (.sl 0 0 (l) (c))) .leaf)) (some (.agg [(.bool (t)), (.sl 1 0 (k) (d))])) (.node (.node (.node .leaf (some (.sl 0 0 (l) (c))) .leaf) none .leaf) (some (.ptr 5 0)) (.node .leaf (some (.sl 6 0 ((↑l : Int).toNat) ((↑l : Int).toNat))) .leaf))) (some (.agg [(.bool (s)), (.sl 0 0 (l) (c))])) (.node (.node (.node (.node .leaf (some (.ptr 2 1)) .leaf) (some (.int IntKind.i64 (IntKind.i64.wrap ((↑l : Int) - 1)))) .leaf) (some (.ptr 4 0)) (.node .leaf (some (.int IntKind.i64 ((↑l : Int)))) .leaf)) (some (.ptr 2 0)) (.node (.node (.node .leaf (some (.int IntKind.i64 ((↑l : Int)))) .leaf) (some (.ptr 2 1)) .leaf) (some (.ptr 7 0)) (.node .leaf (some (.agg [(.bool false), (.sl 6 0 ((↑l : Int).toNat) ((↑l : Int).toNat))])) .leaf)))), (.node (.node (.node (.node .leaf (some (.cells 32 [(.bool false), (.sl 6 0 ((↑l : Int).toNat) ((↑l : Int).toNat))] 2)) .leaf) (some (.cells 32 [(.bool (t)), (.sl 1 0 (k) (d))] 2)) .leaf) (some (.rows 4 [Sh.b] (ys) (q))) (.node .leaf (some (.cells 32 [(.bool false), .nils] 2)) .leaf)) (some (.rows 4 [Sh.b] (xs) (r))) (.node (.node (.node .leaf (some (.cells 4 [] 0)) .leaf) (some (.cells 32 [(.bool false), .nils] 2)) .leaf) (some (.cells 32 [(.bool (s)), (.sl 0 0 (l) (c))] 2)) (.node .leaf (some (.rows 4 [Sh.b] (List.replicate ((↑l : Int).toNat) (rwA [(.bool false)])) ((↑l : Int).toNat * [Sh.b].length))) .leaf))), 9, 70⟩)) := by kernel_rfl
theorem t_rpart (I : Interp O) (K : AV → Prop) (a b y : Int) : abody I P (Gm Q3) (adraw P (Gm Q3)) 0 Try.f26 [.int .i64 a, .int .i64 b, .int .i64 y] .leaf 0 (fun v _ _ => K v) =
  (bsplit (decide (y < 1)) fun | true => (K (.tup [(.int IntKind.i64 (0 : Int)), (.int IntKind.i64 (1 : Int))])) | false => (∀ (u0 : Bool), (∀ (zs1 : List Rw), (∀ (j2 : Nat), (∀ (e3 : Nat), (∀ (room4 : Nat), (NR u0 zs1 j2 a → (∀ (u5 : Bool), (∀ (zs6 : List Rw), (∀ (j7 : Nat), (∀ (e8 : Nat), (∀ (room9 : Nat), (NR u5 zs6 j7 b → ((Pre u0 zs1 j2 ∧ Pre u5 zs6 j7 ∧ j2 + j7 ≤ (800 : Nat)) ∧ (∀ (u10 : Bool), (∀ (zs11 : List Rw), (∀ (j12 : Nat), (∀ (e13 : Nat), (∀ (room14 : Nat), (NR u10 zs11 j12 (nv u0 zs1 j2 * nv u5 zs6 j7) → (∀ (u15 : Bool), (∀ (zs16 : List Rw), (∀ (j17 : Nat), (∀ (e18 : Nat), (∀ (room19 : Nat), (NR u15 zs16 j17 y → ((Pre u10 zs11 j12 ∧ Pre u15 zs16 j17 ∧ j12 ≤ (800 : Nat) ∧ j17 ≤ (800 : Nat) ∧ (1 : Int) ≤ nv u15 zs16 j17) ∧ (∀ (u20 : Bool), (∀ (u'21 : Bool), (∀ (zs22 : List Rw), (∀ (zs'23 : List Rw), (∀ (j24 : Nat), (∀ (e25 : Nat), (∀ (room26 : Nat), (∀ (j'27 : Nat), (∀ (e'28 : Nat), (∀ (room'29 : Nat), (NR u20 zs22 j24 (nv u10 zs11 j12 / nv u15 zs16 j17) → (NR u'21 zs'23 j'27 (nv u10 zs11 j12 % nv u15 zs16 j17) → ((Pre u20 zs22 j24 ∧ j24 ≤ (800 : Nat) ∧ powOk (63 : Int)) ∧ (∀ (b30 : Bool), (FitsR (nv u20 zs22 j24) 63 b30 → (bsplit (!b30) fun | true => (K (.tup [(.int IntKind.i64 (0 : Int)), (.int IntKind.i64 (6 : Int))])) | false => ((Pre u20 zs22 j24 ∧ j24 ≤ (800 : Nat)) ∧ (∀ (h'31 : Int), (∀ (l'32 : Int), (WideR (nv u20 zs22 j24) h'31 l'32 → (K (.tup [(.int IntKind.i64 (IntKind.i64.wrap l'32)), (.int IntKind.i64 (0 : Int))]))))))))))))))))))))))))))))))))))))))))))))))))) := by kernel_rfl
theorem t_of0R (I : Interp O) (K : AV → Tr (AO O) → Nat → Prop) (X : St O → Prop) (n : Int) (s : Bool) (m : Int) : acode I P (Gm Q1) (adraw P (Gm Q1)) 0 (cd Try.f36 [true, true, true, true, false, true, false, false]) (j_of0 s m) (lpg 0 [(0, 0), (1, 1), (3, 2)] [2, 3, 4, 5] 3 X (ablock 0 (athen (cd Try.f36 [true, true, true, true, true]) (fun s => acode I P (Gm Q1) (adraw P (Gm Q1)) 0 (cd Try.f36 [true, true, true, true, true]) s (kret P Try.f36 (K))) (kret P Try.f36 (K))))) =
  (((0 : Nat) + (1 : Nat) ≤ (137438953472 : Nat)) ∧ (∀ (c'0 : Nat), (0 + 1 ≤ c'0 → (c'0 ≤ 9223372036854775807 → (X ⟨(.node (.node (.node .leaf (some (.ptr 1 0)) .leaf) none (.node .leaf (some (.int IntKind.i64 (1 : Int))) .leaf)) none (.node (.node .leaf (some (.int IntKind.u64 (m))) .leaf) (some (.ptr 0 0)) .leaf)), (.node (.node .leaf (some (.cells 32 [(.bool (s)), (.sl 2 0 1 (c'0))] 2)) .leaf) (some (.cells 32 [(.bool false), .nils] 2)) (.node .leaf (some (.rows 4 [Sh.b] ([] ++ ((rwA [(.bool ((m.fdiv (2 ^ min (Int.toNat 0) IntKind.u64.bits)).tmod 2 == 1))]) :: [])) (c'0 * [Sh.b].length))) .leaf)), 3, 32⟩))))) := by kernel_rfl
theorem t_ofR (I : Interp O) (K : AV → Tr (AO O) → Nat → Prop) (X : St O → Prop) (n : Int) (s : Bool) (zs : List Rw) (n' e room : Nat) (m i : Int) : acode I P (Gm Q1) (adraw P (Gm Q1)) 0 (cd Try.f36 [true, true, true, true, false, true, false, false]) (j_of s zs n' e room m i) (lpg 0 [(0, 0), (1, 1), (4, 2)] [2, 3, 4, 5] 3 X (ablock 0 (athen (cd Try.f36 [true, true, true, true, true]) (fun s => acode I P (Gm Q1) (adraw P (Gm Q1)) 0 (cd Try.f36 [true, true, true, true, true]) s (kret P Try.f36 (K))) (kret P Try.f36 (K))))) =
  (bsplit (decide (i < 64)) fun | true => (must (decide (0 ≤ i)) (must (n'.ble zs.length && (e * [Sh.b].length).ble room && Nat.blt 2 16777215) ((n' + (1 : Nat) ≤ (137438953472 : Nat)) ∧ (∀ (c'0 : Nat), (n' + 1 ≤ c'0 → (c'0 ≤ 9223372036854775807 → (X ⟨(.node (.node (.node .leaf (some (.ptr 1 0)) .leaf) none (.node .leaf (some (.int IntKind.i64 (IntKind.i64.wrap (i + 1)))) .leaf)) none (.node (.node .leaf (some (.int IntKind.u64 (m))) .leaf) (some (.ptr 0 0)) .leaf)), (.node (.node .leaf (some (.cells 32 [(.bool (s)), (.sl 2 0 (n' + 1) (c'0))] 2)) .leaf) (some (.cells 32 [(.bool false), .nils] 2)) (.node .leaf (some (.rows 4 [Sh.b] ((List.take n' zs) ++ ((rwA [(.bool ((m.fdiv (2 ^ min i.toNat IntKind.u64.bits)).tmod 2 == 1))]) :: [])) (c'0 * [Sh.b].length))) .leaf)), 3, 32⟩))))))) | false => ((lenB zs n') ∧ (∀ (k1 : Nat), (k1 ≤ n' ∧ bv (List.take k1 zs) = bv (List.take n' zs) ∧ (k1 = 0 ∨ bit zs (k1 - 1) = true) → (K (.agg [(.bool (s && decide (0 < k1))), (.sl 2 0 (k1) (e))]) (.node (.node .leaf (some (.cells 32 [(.bool (s)), (.sl 2 0 (n') (e))] 2)) .leaf) (some (.cells 32 [(.bool (s && decide (0 < k1))), (.sl 2 0 (k1) (e))] 2)) (.node .leaf (some (.rows 4 [Sh.b] (zs) (room))) .leaf)) 3))))) := by kernel_rfl
theorem t_from0R (I : Interp O) (K : AV → Tr (AO O) → Nat → Prop) (X : St O → Prop) (h l : Int) : acode I P (Gm Q2) (adraw P (Gm Q2)) 0 (cd Try.f14 [true, true, false, true, false, false]) (j_from0 h l) (lpg 0 [(0, 0), (1, 1), (3, 2)] [0, 1, 4, 5, 6] 3 X (ablock 0 (athen (cd Try.f14 [true, true, true]) (fun s => acode I P (Gm Q2) (adraw P (Gm Q2)) 0 (cd Try.f14 [true, true, true]) s (kret P Try.f14 (K))) (kret P Try.f14 (K))))) =
  (((0 : Nat) + (1 : Nat) ≤ (137438953472 : Nat)) ∧ (∀ (c'0 : Nat), (0 + 1 ≤ c'0 → (c'0 ≤ 9223372036854775807 → (X ⟨(.node (.node .leaf (some (.int IntKind.u64 (l))) (.node .leaf (some (.ptr 1 0)) .leaf)) (some (.int IntKind.i64 (h))) (.node (.node .leaf (some (.ptr 0 0)) .leaf) none (.node .leaf (some (.int IntKind.i64 (1 : Int))) .leaf))), (.node (.node .leaf (some (.cells 32 [(.bool false), (.sl 2 0 1 (c'0))] 2)) .leaf) (some (.cells 32 [(.bool false), .nils] 2)) (.node .leaf (some (.rows 4 [Sh.b] ([] ++ ((rwA [(.bool ((l.fdiv (2 ^ min (Int.toNat 0) IntKind.u64.bits)).tmod 2 == 1))]) :: [])) (c'0 * [Sh.b].length))) .leaf)), 3, 35⟩))))) := by kernel_rfl
theorem t_fromR (I : Interp O) (K : AV → Tr (AO O) → Nat → Prop) (X : St O → Prop) (h l : Int) (zs : List Rw) (n e room : Nat) (i : Int) : acode I P (Gm Q2) (adraw P (Gm Q2)) 0 (cd Try.f14 [true, true, false, true, false, false]) (j_from h l zs n e room i) (lpg 0 [(0, 0), (1, 1), (4, 2)] [0, 1, 4, 5, 6] 3 X (ablock 0 (athen (cd Try.f14 [true, true, true]) (fun s => acode I P (Gm Q2) (adraw P (Gm Q2)) 0 (cd Try.f14 [true, true, true]) s (kret P Try.f14 (K))) (kret P Try.f14 (K))))) =
  (bsplit (decide (i < 64)) fun | true => (must (decide (0 ≤ i)) (must (n.ble zs.length && (e * [Sh.b].length).ble room && Nat.blt 2 16777215) ((n + (1 : Nat) ≤ (137438953472 : Nat)) ∧ (∀ (c'0 : Nat), (n + 1 ≤ c'0 → (c'0 ≤ 9223372036854775807 → (X ⟨(.node (.node .leaf (some (.int IntKind.u64 (l))) (.node .leaf (some (.ptr 1 0)) .leaf)) (some (.int IntKind.i64 (h))) (.node (.node .leaf (some (.ptr 0 0)) .leaf) none (.node .leaf (some (.int IntKind.i64 (IntKind.i64.wrap (i + 1)))) .leaf))), (.node (.node .leaf (some (.cells 32 [(.bool false), (.sl 2 0 (n + 1) (c'0))] 2)) .leaf) (some (.cells 32 [(.bool false), .nils] 2)) (.node .leaf (some (.rows 4 [Sh.b] ((List.take n zs) ++ ((rwA [(.bool ((l.fdiv (2 ^ min i.toNat IntKind.u64.bits)).tmod 2 == 1))]) :: [])) (c'0 * [Sh.b].length))) .leaf)), 3, 35⟩))))))) | false => (∀ (u1 : Bool), (∀ (zs2 : List Rw), (∀ (j3 : Nat), (∀ (e4 : Nat), (∀ (room5 : Nat), (NR u1 zs2 j3 h → (((0 : Int) ≤ (64 : Int) ∧ (64 : Int) ≤ (64 : Int) ∧ (64 : Int) ≤ (137438953472 : Int)) ∧ (((some (.cells 32 [(.bool (u1)), (.sl 3 0 (j3) (e4))] 2) : Option (AO O)) = some (.cells 32 [(.bool (u1)), (.sl 3 0 (j3) (e4))] 2)) ∧ (must (j3.ble zs2.length) ((Int.toNat (64 : Int) + j3 ≤ (137438953472 : Nat)) ∧ (∀ (c'6 : Nat), (Int.toNat 64 + j3 ≤ c'6 → (c'6 ≤ 9223372036854775807 → ((lenB zs n) ∧ (∀ (k7 : Nat), (k7 ≤ n ∧ bv (List.take k7 zs) = bv (List.take n zs) ∧ (k7 = 0 ∨ bit zs (k7 - 1) = true) → (((some (.cells 32 [(.bool (u1)), (.sl 6 0 (Int.toNat 64 + j3) (c'6))] 2) : Option (AO O)) = some (.cells 32 [(.bool (u1)), (.sl 6 0 (Int.toNat 64 + j3) (c'6))] 2)) ∧ ((lenB (List.take (Int.toNat (64 : Int)) (List.replicate (Int.toNat (64 : Int)) (rwA (acells (AV.bool false)))) ++ List.take j3 zs2) (Int.toNat (64 : Int) + j3)) ∧ (∀ (k8 : Nat), (k8 ≤ Int.toNat 64 + j3 ∧ bv (List.take k8 (List.take (Int.toNat 64) (List.replicate (Int.toNat 64) (rwA (acells (AV.bool false)))) ++ List.take j3 zs2)) = bv (List.take (Int.toNat 64 + j3) (List.take (Int.toNat 64) (List.replicate (Int.toNat 64) (rwA (acells (AV.bool false)))) ++ List.take j3 zs2)) ∧ (k8 = 0 ∨ bit (List.take (Int.toNat 64) (List.replicate (Int.toNat 64) (rwA (acells (AV.bool false)))) ++ List.take j3 zs2) (k8 - 1) = true) → ((Pre (false && decide ((0 : Nat) < k7)) zs k7 ∧ Pre (u1 && decide ((0 : Nat) < k8)) (List.take (Int.toNat (64 : Int)) (List.replicate (Int.toNat (64 : Int)) (rwA (acells (AV.bool false)))) ++ List.take j3 zs2) k8) ∧ (∀ (u9 : Bool), (∀ (zs10 : List Rw), (∀ (j11 : Nat), (∀ (e12 : Nat), (∀ (room13 : Nat), (NR u9 zs10 j11 (nv (false && decide (0 < k7)) zs k7 + nv (u1 && decide (0 < k8)) (List.take (Int.toNat 64) (List.replicate (Int.toNat 64) (rwA (acells (AV.bool false)))) ++ List.take j3 zs2) k8) → (K (.agg [(.bool (u9)), (.sl 7 0 (j11) (e12))]) (.node (.node (.node (.node .leaf (some (.rows 4 [Sh.b] (zs10) (room13))) .leaf) (some (.rows 4 [Sh.b] (zs2) (room5))) .leaf) (some (.cells 32 [(.bool false), (.sl 2 0 (n) (e))] 2)) (.node .leaf (some .gone) .leaf)) (some (.cells 32 [(.bool (u9)), (.sl 7 0 (j11) (e12))] 2)) (.node (.node .leaf (some (.cells 32 [(.bool (u1)), (.sl 6 0 (Int.toNat 64 + j3) (c'6))] 2)) .leaf) (some (.rows 4 [Sh.b] (zs) (room))) (.node .leaf (some (.rows 4 [Sh.b] ((List.take (Int.toNat 64) (List.replicate (Int.toNat 64) (rwA (acells (AV.bool false))))) ++ (List.take j3 zs2)) (c'6 * [Sh.b].length))) .leaf))) 8))))))))))))))))))))))))))))) := by kernel_rfl
theorem t_wide1R (I : Interp O) (K : AV → Tr (AO O) → Nat → Prop) (X : St O → Prop) (s : Bool) (l c r : Nat) (xs : List Rw) (hi_ lo_ i : Int) : acode I P (Gm Q2) (adraw P (Gm Q2)) 1 (cd Try.f16 [true, true, true, true, true, false, true, false, false]) (j_wide1 s l c r xs hi_ lo_ i) (lpg 1 [(1, 1), (2, 2)] [1, 4, 5, 6, 7] 3 X (ablock 0 (athen (cd Try.f16 [true, true, true, true, true, true]) (fun s => acode I P (Gm Q2) (adraw P (Gm Q2)) 1 (cd Try.f16 [true, true, true, true, true, true]) s (kret P Try.f16 (K))) (kret P Try.f16 (K))))) =
  (bsplit (decide (i < 64)) fun | true => (((0 : Int) ≤ i ∧ l ≤ xs.length) ∧ (bsplit (bit (List.take l xs) i.toNat) fun | true => (must (decide (0 ≤ i)) (((0 : Int) ≤ IntKind.i64.wrap (i + (64 : Int)) ∧ l ≤ xs.length) ∧ (bsplit (bit (List.take l xs) (IntKind.i64.wrap (i + 64)).toNat) fun | true => (must (decide (0 ≤ i)) (X ⟨(.node (.node (.node (.node .leaf (some (.int IntKind.i64 (IntKind.i64.wrap (i + 1)))) .leaf) none .leaf) (some (.ptr 1 0)) (.node .leaf (some (.int IntKind.u64 (IntKind.u64.wrap (hi_ + IntKind.u64.wrap (1 * 2 ^ min i.toNat IntKind.u64.bits))))) .leaf)) none (.node (.node .leaf (some (.ptr 2 0)) .leaf) none (.node .leaf (some (.int IntKind.u64 (IntKind.u64.wrap (lo_ + IntKind.u64.wrap (1 * 2 ^ min i.toNat IntKind.u64.bits))))) .leaf))), (.node (.node .leaf (some (.cells 32 [(.bool (s)), (.sl 0 0 (l) (c))] 2)) .leaf) (some (.rows 4 [Sh.b] (xs) (r))) (.node .leaf (some (.cells 32 [(.bool (s)), (.sl 0 0 (l) (c))] 2)) .leaf)), 3, 46⟩)) | false => (X ⟨(.node (.node (.node (.node .leaf (some (.int IntKind.i64 (IntKind.i64.wrap (i + 1)))) .leaf) none .leaf) (some (.ptr 1 0)) (.node .leaf (some (.int IntKind.u64 (hi_))) .leaf)) none (.node (.node .leaf (some (.ptr 2 0)) .leaf) none (.node .leaf (some (.int IntKind.u64 (IntKind.u64.wrap (lo_ + IntKind.u64.wrap (1 * 2 ^ min i.toNat IntKind.u64.bits))))) .leaf))), (.node (.node .leaf (some (.cells 32 [(.bool (s)), (.sl 0 0 (l) (c))] 2)) .leaf) (some (.rows 4 [Sh.b] (xs) (r))) (.node .leaf (some (.cells 32 [(.bool (s)), (.sl 0 0 (l) (c))] 2)) .leaf)), 3, 46⟩)))) | false => (((0 : Int) ≤ IntKind.i64.wrap (i + (64 : Int)) ∧ l ≤ xs.length) ∧ (bsplit (bit (List.take l xs) (IntKind.i64.wrap (i + 64)).toNat) fun | true => (must (decide (0 ≤ i)) (X ⟨(.node (.node (.node (.node .leaf (some (.int IntKind.i64 (IntKind.i64.wrap (i + 1)))) .leaf) none .leaf) (some (.ptr 1 0)) (.node .leaf (some (.int IntKind.u64 (IntKind.u64.wrap (hi_ + IntKind.u64.wrap (1 * 2 ^ min i.toNat IntKind.u64.bits))))) .leaf)) none (.node (.node .leaf (some (.ptr 2 0)) .leaf) none (.node .leaf (some (.int IntKind.u64 (lo_))) .leaf))), (.node (.node .leaf (some (.cells 32 [(.bool (s)), (.sl 0 0 (l) (c))] 2)) .leaf) (some (.rows 4 [Sh.b] (xs) (r))) (.node .leaf (some (.cells 32 [(.bool (s)), (.sl 0 0 (l) (c))] 2)) .leaf)), 3, 46⟩)) | false => (X ⟨(.node (.node (.node (.node .leaf (some (.int IntKind.i64 (IntKind.i64.wrap (i + 1)))) .leaf) none .leaf) (some (.ptr 1 0)) (.node .leaf (some (.int IntKind.u64 (hi_))) .leaf)) none (.node (.node .leaf (some (.ptr 2 0)) .leaf) none (.node .leaf (some (.int IntKind.u64 (lo_))) .leaf))), (.node (.node .leaf (some (.cells 32 [(.bool (s)), (.sl 0 0 (l) (c))] 2)) .leaf) (some (.rows 4 [Sh.b] (xs) (r))) (.node .leaf (some (.cells 32 [(.bool (s)), (.sl 0 0 (l) (c))] 2)) .leaf)), 3, 46⟩))))) | false => (bsplit (s) fun | true => (K (.tup [(.int IntKind.i64 (IntKind.i64.wrap (bits BinOp.xor IntKind.u64 (if IntKind.u64.signed = true then -1 else IntKind.u64.max) hi_))), (.int IntKind.u64 (bits BinOp.xor IntKind.u64 (if IntKind.u64.signed = true then -1 else IntKind.u64.max) lo_))]) (.node (.node .leaf (some (.cells 32 [(.bool (s)), (.sl 0 0 (l) (c))] 2)) .leaf) (some (.rows 4 [Sh.b] (xs) (r))) (.node .leaf (some (.cells 32 [(.bool (s)), (.sl 0 0 (l) (c))] 2)) .leaf)) 3) | false => (K (.tup [(.int IntKind.i64 (IntKind.i64.wrap hi_)), (.int IntKind.u64 (lo_))]) (.node (.node .leaf (some (.cells 32 [(.bool (s)), (.sl 0 0 (l) (c))] 2)) .leaf) (some (.rows 4 [Sh.b] (xs) (r))) (.node .leaf (some (.cells 32 [(.bool (s)), (.sl 0 0 (l) (c))] 2)) .leaf)) 3))) := by kernel_rfl
theorem t_wide0R (I : Interp O) (K : AV → Tr (AO O) → Nat → Prop) (X : St O → Prop) (s : Bool) (l c r : Nat) (xs : List Rw) (u : Bool) (zs : List Rw) (j e room : Nat) (hi_ lo_ i : Int) : acode I P (Gm Q2) (adraw P (Gm Q2)) 1 (cd Try.f16 [true, true, true, true, true, false, true, false, false]) (j_wide0 s l c r xs u zs j e room hi_ lo_ i) (lpg 1 [(1, 1), (2, 2), (4, 4)] [1, 4, 5, 6, 7] 5 X (ablock 0 (athen (cd Try.f16 [true, true, true, true, true, true]) (fun s => acode I P (Gm Q2) (adraw P (Gm Q2)) 1 (cd Try.f16 [true, true, true, true, true, true]) s (kret P Try.f16 (K))) (kret P Try.f16 (K))))) =
  (bsplit (decide (i < 64)) fun | true => (((0 : Int) ≤ i ∧ j ≤ zs.length) ∧ (bsplit (bit (List.take j zs) i.toNat) fun | true => (must (decide (0 ≤ i)) (((0 : Int) ≤ IntKind.i64.wrap (i + (64 : Int)) ∧ j ≤ zs.length) ∧ (bsplit (bit (List.take j zs) (IntKind.i64.wrap (i + 64)).toNat) fun | true => (must (decide (0 ≤ i)) (X ⟨(.node (.node (.node (.node .leaf (some (.int IntKind.i64 (IntKind.i64.wrap (i + 1)))) .leaf) none .leaf) (some (.ptr 1 0)) (.node .leaf (some (.int IntKind.u64 (IntKind.u64.wrap (hi_ + IntKind.u64.wrap (1 * 2 ^ min i.toNat IntKind.u64.bits))))) .leaf)) none (.node (.node .leaf (some (.ptr 2 0)) .leaf) none (.node .leaf (some (.int IntKind.u64 (IntKind.u64.wrap (lo_ + IntKind.u64.wrap (1 * 2 ^ min i.toNat IntKind.u64.bits))))) .leaf))), (.node (.node .leaf (some (.cells 32 [(.bool (s)), (.sl 0 0 (l) (c))] 2)) .leaf) (some (.rows 4 [Sh.b] (xs) (r))) (.node (.node .leaf (some (.rows 4 [Sh.b] (zs) (room))) .leaf) (some (.cells 32 [(.bool (u)), (.sl 4 0 (j) (e))] 2)) .leaf)), 5, 46⟩)) | false => (X ⟨(.node (.node (.node (.node .leaf (some (.int IntKind.i64 (IntKind.i64.wrap (i + 1)))) .leaf) none .leaf) (some (.ptr 1 0)) (.node .leaf (some (.int IntKind.u64 (hi_))) .leaf)) none (.node (.node .leaf (some (.ptr 2 0)) .leaf) none (.node .leaf (some (.int IntKind.u64 (IntKind.u64.wrap (lo_ + IntKind.u64.wrap (1 * 2 ^ min i.toNat IntKind.u64.bits))))) .leaf))), (.node (.node .leaf (some (.cells 32 [(.bool (s)), (.sl 0 0 (l) (c))] 2)) .leaf) (some (.rows 4 [Sh.b] (xs) (r))) (.node (.node .leaf (some (.rows 4 [Sh.b] (zs) (room))) .leaf) (some (.cells 32 [(.bool (u)), (.sl 4 0 (j) (e))] 2)) .leaf)), 5, 46⟩)))) | false => (((0 : Int) ≤ IntKind.i64.wrap (i + (64 : Int)) ∧ j ≤ zs.length) ∧ (bsplit (bit (List.take j zs) (IntKind.i64.wrap (i + 64)).toNat) fun | true => (must (decide (0 ≤ i)) (X ⟨(.node (.node (.node (.node .leaf (some (.int IntKind.i64 (IntKind.i64.wrap (i + 1)))) .leaf) none .leaf) (some (.ptr 1 0)) (.node .leaf (some (.int IntKind.u64 (IntKind.u64.wrap (hi_ + IntKind.u64.wrap (1 * 2 ^ min i.toNat IntKind.u64.bits))))) .leaf)) none (.node (.node .leaf (some (.ptr 2 0)) .leaf) none (.node .leaf (some (.int IntKind.u64 (lo_))) .leaf))), (.node (.node .leaf (some (.cells 32 [(.bool (s)), (.sl 0 0 (l) (c))] 2)) .leaf) (some (.rows 4 [Sh.b] (xs) (r))) (.node (.node .leaf (some (.rows 4 [Sh.b] (zs) (room))) .leaf) (some (.cells 32 [(.bool (u)), (.sl 4 0 (j) (e))] 2)) .leaf)), 5, 46⟩)) | false => (X ⟨(.node (.node (.node (.node .leaf (some (.int IntKind.i64 (IntKind.i64.wrap (i + 1)))) .leaf) none .leaf) (some (.ptr 1 0)) (.node .leaf (some (.int IntKind.u64 (hi_))) .leaf)) none (.node (.node .leaf (some (.ptr 2 0)) .leaf) none (.node .leaf (some (.int IntKind.u64 (lo_))) .leaf))), (.node (.node .leaf (some (.cells 32 [(.bool (s)), (.sl 0 0 (l) (c))] 2)) .leaf) (some (.rows 4 [Sh.b] (xs) (r))) (.node (.node .leaf (some (.rows 4 [Sh.b] (zs) (room))) .leaf) (some (.cells 32 [(.bool (u)), (.sl 4 0 (j) (e))] 2)) .leaf)), 5, 46⟩))))) | false => (bsplit (s) fun | true => (K (.tup [(.int IntKind.i64 (IntKind.i64.wrap (bits BinOp.xor IntKind.u64 (if IntKind.u64.signed = true then -1 else IntKind.u64.max) hi_))), (.int IntKind.u64 (bits BinOp.xor IntKind.u64 (if IntKind.u64.signed = true then -1 else IntKind.u64.max) lo_))]) (.node (.node .leaf (some (.cells 32 [(.bool (s)), (.sl 0 0 (l) (c))] 2)) .leaf) (some (.rows 4 [Sh.b] (xs) (r))) (.node (.node .leaf (some (.rows 4 [Sh.b] (zs) (room))) .leaf) (some (.cells 32 [(.bool (u)), (.sl 4 0 (j) (e))] 2)) .leaf)) 5) | false => (K (.tup [(.int IntKind.i64 (IntKind.i64.wrap hi_)), (.int IntKind.u64 (lo_))]) (.node (.node .leaf (some (.cells 32 [(.bool (s)), (.sl 0 0 (l) (c))] 2)) .leaf) (some (.rows 4 [Sh.b] (xs) (r))) (.node (.node .leaf (some (.rows 4 [Sh.b] (zs) (room))) .leaf) (some (.cells 32 [(.bool (u)), (.sl 4 0 (j) (e))] 2)) .leaf)) 5))) := by kernel_rfl
theorem t_timesR (I : Interp O) (K : AV → Tr (AO O) → Nat → Prop) (X : St O → Prop) (s t : Bool) (l c r k d q : Nat) (xs ys zs : List Rw) (n e room : Nat) (i : Int) : acode I P (Gm Q2) (adraw P (Gm Q2)) 2 (cd Try.f45 [true, true, false, true, false, false]) (j_times s t l c r k d q xs ys zs n e room i) (lpgL 2 [[(2, 2), (3, 3), (4, 4), (7, 5)], [(2, 2), (3, 3), (4, 4), (8, 5)]] [2, 3, 4, 5, 6] 6 X (ablock 0 (athen (cd Try.f45 [true, true, true]) (fun s => acode I P (Gm Q2) (adraw P (Gm Q2)) 2 (cd Try.f45 [true, true, true]) s (kret P Try.f45 (K))) (kret P Try.f45 (K))))) =
  (bsplit (decide (i ≥ 0)) fun | true => (must (n.ble zs.length) (((1 : Nat) + n ≤ (137438953472 : Nat)) ∧ (∀ (c'0 : Nat), (1 + n ≤ c'0 → (c'0 ≤ 9223372036854775807 → (must (decide (0 ≤ i ∧ i < (↑k : Int))) (xget (ys) (i.toNat) fun x1 => (bsplit (x1.b 0) fun | true => ((lenB ([rwA [AV.bool false]] ++ List.take n zs) ((1 : Nat) + n) ∧ lenB xs l) ∧ (∀ (zs2 : List Rw), (∀ (e3 : Nat), (∀ (room4 : Nat), (bv zs2 = bv (List.take (1 + n) ([rwA [AV.bool false]] ++ List.take n zs)) + bv (List.take l xs) ∧ zs2.length ≤ (1 + n).max l + 1 → (X ⟨(.node (.node (.node .leaf (some (.ptr 3 0)) .leaf) none (.node .leaf (some (.sl 5 0 (zs2.length) (e3))) .leaf)) none (.node (.node .leaf (some (.ptr 4 0)) .leaf) (some (.ptr 2 0)) (.node .leaf (some (.int IntKind.i64 (IntKind.i64.wrap (i - 1)))) .leaf))), (.node (.node (.node .leaf (some (.cells 32 [(.bool (t)), (.sl 1 0 (k) (d))] 2)) .leaf) (some (.rows 4 [Sh.b] (ys) (q))) (.node .leaf (some (.rows 4 [Sh.b] (zs2) (room4))) .leaf)) (some (.rows 4 [Sh.b] (xs) (r))) (.node (.node .leaf (some (.cells 32 [(.bool false), .nils] 2)) .leaf) (some (.cells 32 [(.bool (s)), (.sl 0 0 (l) (c))] 2)) .leaf)), 6, 36⟩)))))) | false => (X ⟨(.node (.node (.node .leaf (some (.ptr 3 0)) .leaf) none (.node .leaf (some (.sl 5 0 (1 + n) (c'0))) .leaf)) none (.node (.node .leaf (some (.ptr 4 0)) .leaf) (some (.ptr 2 0)) (.node .leaf (some (.int IntKind.i64 (IntKind.i64.wrap (i - 1)))) .leaf))), (.node (.node (.node .leaf (some (.cells 32 [(.bool (t)), (.sl 1 0 (k) (d))] 2)) .leaf) (some (.rows 4 [Sh.b] (ys) (q))) (.node .leaf (some (.rows 4 [Sh.b] (((rwA [(.bool false)]) :: []) ++ (List.take n zs)) (c'0 * [Sh.b].length))) .leaf)) (some (.rows 4 [Sh.b] (xs) (r))) (.node (.node .leaf (some (.cells 32 [(.bool false), .nils] 2)) .leaf) (some (.cells 32 [(.bool (s)), (.sl 0 0 (l) (c))] 2)) .leaf)), 6, 36⟩))))))))) | false => ((lenB zs n) ∧ (∀ (k5 : Nat), (k5 ≤ n ∧ bv (List.take k5 zs) = bv (List.take n zs) ∧ (k5 = 0 ∨ bit zs (k5 - 1) = true) → (K (.agg [(.bool (!s == t && decide (0 < k5))), (.sl 5 0 (k5) (e))]) (.node (.node (.node .leaf (some (.cells 32 [(.bool (t)), (.sl 1 0 (k) (d))] 2)) .leaf) (some (.rows 4 [Sh.b] (ys) (q))) (.node .leaf (some (.rows 4 [Sh.b] (zs) (room))) .leaf)) (some (.rows 4 [Sh.b] (xs) (r))) (.node (.node .leaf (some (.cells 32 [(.bool (!s == t && decide (0 < k5))), (.sl 5 0 (k5) (e))] 2)) .leaf) (some (.cells 32 [(.bool (s)), (.sl 0 0 (l) (c))] 2)) .leaf)) 6))))) := by kernel_rfl
theorem t_divR (I : Interp O) (K : AV → Tr (AO O) → Nat → Prop) (X : St O → Prop) (s t : Bool) (l c r k d q : Nat) (xs ys qs zs : List Rw) (n e room : Nat) (i : Int) : acode I P (Gm Q2) (adraw P (Gm Q2)) 2 (cd Try.f44 [true, true, true, false, true, false, false]) (j_div s t l c r k d q xs ys qs zs n e room i) (lpgL 2 [[(2, 2), (3, 3), (4, 4), (5, 5), (6, 6), (7, 7), (10, 8)], [(2, 2), (3, 3), (4, 4), (5, 5), (6, 6), (7, 7), (11, 8)]] [2, 3, 4, 5, 6, 7, 8] 9 X (ablock 0 (athen (cd Try.f44 [true, true, true, true]) (fun s => acode I P (Gm Q2) (adraw P (Gm Q2)) 2 (cd Try.f44 [true, true, true, true]) s (kret P Try.f44 (K))) (kret P Try.f44 (K))))) =
  (bsplit (decide (i ≥ 0)) fun | true => (must (decide (0 ≤ i ∧ i < (↑l : Int))) (xget (xs) (i.toNat) fun x0 => (must (n.ble zs.length) (((1 : Nat) + n ≤ (137438953472 : Nat)) ∧ (∀ (c'1 : Nat), (1 + n ≤ c'1 → (c'1 ≤ 9223372036854775807 → ((lenB ([rwA [encS x0 (0 : Nat) Sh.b]] ++ List.take n zs) ((1 : Nat) + n) ∧ lenB ys k) ∧ (∀ (r2 : Int), (CmpR (↑(bv (List.take (1 + n) ([rwA [encS x0 0 Sh.b]] ++ List.take n zs))) : Int) (↑(bv (List.take k ys)) : Int) r2 → (bsplit (decide (r2 ≥ 0)) fun | true => ((lenB ([rwA [encS x0 (0 : Nat) Sh.b]] ++ List.take n zs) ((1 : Nat) + n) ∧ lenB ys k ∧ bv (List.take k ys) ≤ bv (List.take ((1 : Nat) + n) ([rwA [encS x0 (0 : Nat) Sh.b]] ++ List.take n zs))) ∧ (∀ (zs3 : List Rw), (∀ (e4 : Nat), (∀ (room5 : Nat), (bv zs3 + bv (List.take k ys) = bv (List.take (1 + n) ([rwA [encS x0 0 Sh.b]] ++ List.take n zs)) ∧ zs3.length = 1 + n → (must (decide (0 ≤ i ∧ i < (↑l : Int))) (xget (qs) (i.toNat) fun x6 => (X ⟨(.node (.node (.node (.node .leaf (some (.sl 8 0 (zs3.length) (e4))) .leaf) (some (.ptr 3 0)) .leaf) none (.node .leaf (some (.ptr 5 0)) .leaf)) none (.node (.node (.node .leaf (some (.int IntKind.i64 (IntKind.i64.wrap (i - 1)))) .leaf) (some (.ptr 4 0)) .leaf) (some (.ptr 2 0)) (.node .leaf (some (.ptr 7 0)) .leaf))), (.node (.node (.node (.node .leaf (some (.cells 32 [(.bool false), (.sl 6 0 (l) (l))] 2)) .leaf) (some (.cells 32 [(.bool (t)), (.sl 1 0 (k) (d))] 2)) .leaf) (some (.rows 4 [Sh.b] (ys) (q))) (.node .leaf (some (.cells 32 [(.bool false), .nils] 2)) .leaf)) (some (.rows 4 [Sh.b] (xs) (r))) (.node (.node (.node .leaf (some (.rows 4 [Sh.b] (zs3) (room5))) .leaf) (some (.cells 32 [(.bool false), .nils] 2)) .leaf) (some (.cells 32 [(.bool (s)), (.sl 0 0 (l) (c))] 2)) (.node .leaf (some (.rows 4 [Sh.b] (qs.set i.toNat   { i := x6.i,     b := fun q =>       match q.beq 0 with       | true => true       | false => x6.b q,     s := x6.s }) (l * [Sh.b].length))) .leaf))), 9, 70⟩)))))))) | false => (X ⟨(.node (.node (.node (.node .leaf (some (.sl 8 0 (1 + n) (c'1))) .leaf) (some (.ptr 3 0)) .leaf) none (.node .leaf (some (.ptr 5 0)) .leaf)) none (.node (.node (.node .leaf (some (.int IntKind.i64 (IntKind.i64.wrap (i - 1)))) .leaf) (some (.ptr 4 0)) .leaf) (some (.ptr 2 0)) (.node .leaf (some (.ptr 7 0)) .leaf))), (.node (.node (.node (.node .leaf (some (.cells 32 [(.bool false), (.sl 6 0 (l) (l))] 2)) .leaf) (some (.cells 32 [(.bool (t)), (.sl 1 0 (k) (d))] 2)) .leaf) (some (.rows 4 [Sh.b] (ys) (q))) (.node .leaf (some (.cells 32 [(.bool false), .nils] 2)) .leaf)) (some (.rows 4 [Sh.b] (xs) (r))) (.node (.node (.node .leaf (some (.rows 4 [Sh.b] (((rwA [(.bool ((x0).b 0))]) :: []) ++ (List.take n zs)) (c'1 * [Sh.b].length))) .leaf) (some (.cells 32 [(.bool false), .nils] 2)) .leaf) (some (.cells 32 [(.bool (s)), (.sl 0 0 (l) (c))] 2)) (.node .leaf (some (.rows 4 [Sh.b] (qs) (l * [Sh.b].length))) .leaf))), 9, 70⟩)))))))))))) | false => ((lenB qs l) ∧ (∀ (k7 : Nat), (k7 ≤ l ∧ bv (List.take k7 qs) = bv (List.take l qs) ∧ (k7 = 0 ∨ bit qs (k7 - 1) = true) → ((lenB zs n) ∧ (∀ (k8 : Nat), (k8 ≤ n ∧ bv (List.take k8 zs) = bv (List.take n zs) ∧ (k8 = 0 ∨ bit zs (k8 - 1) = true) → (bsplit (!s) fun | true => (K (.tup [(.agg [(.bool (false && decide (0 < k7))), (.sl 6 0 (k7) (l))]), (.agg [(.bool (false && decide (0 < k8))), (.sl 8 0 (k8) (e))])]) (.node (.node (.node (.node .leaf (some (.cells 32 [(.bool (false && decide (0 < k7))), (.sl 6 0 (k7) (l))] 2)) .leaf) (some (.cells 32 [(.bool (t)), (.sl 1 0 (k) (d))] 2)) .leaf) (some (.rows 4 [Sh.b] (ys) (q))) (.node (.node .leaf (some (.cells 32 [(.bool (false && decide (0 < k8))), (.sl 8 0 (k8) (e))] 2)) .leaf) (some (.cells 32 [(.bool (false && decide (0 < k8))), (.sl 8 0 (k8) (e))] 2)) .leaf)) (some (.rows 4 [Sh.b] (xs) (r))) (.node (.node (.node .leaf (some (.rows 4 [Sh.b] (zs) (room))) .leaf) (some (.cells 32 [(.bool (false && decide (0 < k7))), (.sl 6 0 (k7) (l))] 2)) .leaf) (some (.cells 32 [(.bool (s)), (.sl 0 0 (l) (c))] 2)) (.node .leaf (some (.rows 4 [Sh.b] (qs) (l * [Sh.b].length))) .leaf))) 10) | false => (bsplit ((↑k8 : Int) == 0) fun | true => ((Pre (false && decide ((0 : Nat) < k7)) qs k7) ∧ (∀ (u9 : Bool), (∀ (j10 : Nat), (NR u9 qs j10 (-nv (false && decide (0 < k7)) qs k7) → (((some (.cells 32 [(.bool (false && decide (0 < k8))), (.sl 8 0 (k8) (e))] 2) : Option (AO O)) = some (.cells 32 [(.bool (false && decide (0 < k8))), (.sl 8 0 (k8) (e))] 2)) ∧ (K (.tup [(.agg [(.bool (u9)), (.sl 6 0 (j10) (l))]), (.agg [(.bool (false && decide (0 < k8))), (.sl 8 0 (k8) (e))])]) (.node (.node (.node (.node .leaf (some (.cells 32 [(.bool (false && decide (0 < k7))), (.sl 6 0 (k7) (l))] 2)) .leaf) (some (.cells 32 [(.bool (t)), (.sl 1 0 (k) (d))] 2)) .leaf) (some (.rows 4 [Sh.b] (ys) (q))) (.node (.node .leaf (some (.cells 32 [(.bool (false && decide (0 < k8))), (.sl 8 0 (k8) (e))] 2)) .leaf) (some (.cells 32 [(.bool (false && decide (0 < k8))), (.sl 8 0 (k8) (e))] 2)) .leaf)) (some (.rows 4 [Sh.b] (xs) (r))) (.node (.node (.node .leaf (some (.rows 4 [Sh.b] (zs) (room))) .leaf) (some (.cells 32 [(.bool (u9)), (.sl 6 0 (j10) (l))] 2)) .leaf) (some (.cells 32 [(.bool (s)), (.sl 0 0 (l) (c))] 2)) (.node .leaf (some (.rows 4 [Sh.b] (qs) (l * [Sh.b].length))) .leaf))) 10)))))) | false => ((Pre (false && decide ((0 : Nat) < k7)) qs k7) ∧ (∀ (u11 : Bool), (∀ (j12 : Nat), (NR u11 qs j12 (-nv (false && decide (0 < k7)) qs k7) → (((some (.cells 32 [(.bool (t)), (.sl 1 0 (k) (d))] 2) : Option (AO O)) = some (.cells 32 [(.bool (t)), (.sl 1 0 (k) (d))] 2)) ∧ (((some (.cells 32 [(.bool (false && decide (0 < k8))), (.sl 8 0 (k8) (e))] 2) : Option (AO O)) = some (.cells 32 [(.bool (false && decide (0 < k8))), (.sl 8 0 (k8) (e))] 2)) ∧ (∀ (u13 : Bool), (∀ (zs14 : List Rw), (∀ (j15 : Nat), (∀ (e16 : Nat), (∀ (room17 : Nat), (NR u13 zs14 j15 (-1) → (((some (.cells 32 [(.bool (t)), (.sl 1 0 (k) (d))] 2) : Option (AO O)) = some (.cells 32 [(.bool (t)), (.sl 1 0 (k) (d))] 2)) ∧ (((some (.cells 32 [(.bool (false && decide (0 < k8))), (.sl 8 0 (k8) (e))] 2) : Option (AO O)) = some (.cells 32 [(.bool (false && decide (0 < k8))), (.sl 8 0 (k8) (e))] 2)) ∧ ((Pre u11 qs j12 ∧ Pre u13 zs14 j15) ∧ (∀ (u18 : Bool), (∀ (zs19 : List Rw), (∀ (j20 : Nat), (∀ (e21 : Nat), (∀ (room22 : Nat), (NR u18 zs19 j20 (nv u11 qs j12 + nv u13 zs14 j15) → (((some (.cells 32 [(.bool (t)), (.sl 1 0 (k) (d))] 2) : Option (AO O)) = some (.cells 32 [(.bool (t)), (.sl 1 0 (k) (d))] 2)) ∧ (((some (.cells 32 [(.bool (false && decide (0 < k8))), (.sl 8 0 (k8) (e))] 2) : Option (AO O)) = some (.cells 32 [(.bool (false && decide (0 < k8))), (.sl 8 0 (k8) (e))] 2)) ∧ ((Pre (false && decide ((0 : Nat) < k8)) zs k8) ∧ (∀ (u23 : Bool), (∀ (j24 : Nat), (NR u23 zs j24 (-nv (false && decide (0 < k8)) zs k8) → (((some (.cells 32 [(.bool (t)), (.sl 1 0 (k) (d))] 2) : Option (AO O)) = some (.cells 32 [(.bool (t)), (.sl 1 0 (k) (d))] 2)) ∧ ((Pre t ys k ∧ Pre u23 zs j24) ∧ (∀ (u25 : Bool), (∀ (zs26 : List Rw), (∀ (j27 : Nat), (∀ (e28 : Nat), (∀ (room29 : Nat), (NR u25 zs26 j27 (nv t ys k + nv u23 zs j24) → (K (.tup [(.agg [(.bool (u18)), (.sl 11 0 (j20) (e21))]), (.agg [(.bool (u25)), (.sl 12 0 (j27) (e28))])]) (.node (.node (.node (.node .leaf (some (.cells 32 [(.bool (false && decide (0 < k7))), (.sl 6 0 (k7) (l))] 2)) .leaf) (some (.cells 32 [(.bool (t)), (.sl 1 0 (k) (d))] 2)) (.node .leaf (some (.rows 4 [Sh.b] (zs19) (room22))) .leaf)) (some (.rows 4 [Sh.b] (ys) (q))) (.node (.node .leaf (some (.cells 32 [(.bool (false && decide (0 < k8))), (.sl 8 0 (k8) (e))] 2)) .leaf) (some (.cells 32 [(.bool (u25)), (.sl 12 0 (j27) (e28))] 2)) .leaf)) (some (.rows 4 [Sh.b] (xs) (r))) (.node (.node (.node .leaf (some (.rows 4 [Sh.b] (zs) (room))) .leaf) (some (.cells 32 [(.bool (u18)), (.sl 11 0 (j20) (e21))] 2)) (.node .leaf (some (.rows 4 [Sh.b] (zs26) (room29))) .leaf)) (some (.cells 32 [(.bool (s)), (.sl 0 0 (l) (c))] 2)) (.node (.node .leaf (some (.rows 4 [Sh.b] (zs14) (room17))) .leaf) (some (.rows 4 [Sh.b] (qs) (l * [Sh.b].length))) .leaf))) 13))))))))))))))))))))))))))))))))))))))))))))) := by kernel_rfl
end W
end Go.Tb

/- The document's numbers: a number's bits, sums. -/
set_option linter.all false
set_option maxRecDepth 100000
namespace Go.Tb.W
open Go Go.Proofs
variable {I : Interp O}
theorem bv_pos {xs : List Rw} {k : Nat} (h0 : k ≠ 0) (h : bit xs (k - 1) = true) : 2 ^ (k - 1) ≤ bv (xs.take k) := by
  have := bv_succ xs (k - 1)
  rw [h, show k - 1 + 1 = k by omega] at this
  simp only [nb, Nat.mul_one] at this; omega
theorem nr_bare {s : Bool} {xs : List Rw} {k V : Nat} (hk : k ≤ xs.length) (h : bv (xs.take k) = V) (h0 : k = 0 ∨ bit xs (k - 1) = true) : NR (s && decide (0 < k)) xs k (sv s V) := by
  refine ⟨hk, h0, ?_, ?_⟩
  · rw [h]
    by_cases hz : k = 0
    · subst hz; simp [bv] at h; subst h; cases s <;> simp [sv]
    · have : decide (0 < k) = true := by simp; omega
      rw [this, Bool.and_true]
  · intro hs
    simp only [Bool.and_eq_true, decide_eq_true_eq] at hs
    have h1 : k ≠ 0 := by omega
    have := bv_pos h1 (h0.resolve_left h1)
    have hp : 0 < 2 ^ (k - 1) := Nat.two_pow_pos _
    rw [hs.1]; simp only [sv]; omega
theorem nr_len {s : Bool} {xs : List Rw} {k m : Nat} {v : Int} (h : NR s xs k v) (hv : v.natAbs < 2 ^ m) : k ≤ m := by
  obtain ⟨_, h0, hs, _⟩ := h
  rcases h0 with h0 | h0
  · omega
  · rcases Nat.eq_zero_or_pos k with hk | hk
    · omega
    · have h1 := bv_pos (by omega) h0
      have h2 : v.natAbs = bv (xs.take k) := by rw [← hs]; cases s <;> simp [sv]
      rw [h2] at hv
      have : k - 1 < m := (Nat.pow_lt_pow_iff_right (by omega)).1 (Nat.lt_of_le_of_lt h1 hv)
      omega
theorem nr_abs {s : Bool} {xs : List Rw} {k : Nat} {v : Int} (h : NR s xs k v) : bv (xs.take k) = v.natAbs := by rw [← h.2.2.1]; cases s <;> simp [sv]
theorem nv_of {s : Bool} {xs : List Rw} {k : Nat} {v : Int} (h : NR s xs k v) : nv s xs k = v := h.2.2.1
theorem pre_of {s : Bool} {xs : List Rw} {k : Nat} {v : Int} (h : NR s xs k v) (hk : k ≤ 900) : Pre s xs k := ⟨by rw [nv_of h]; exact h, hk⟩
theorem nr_zero {s : Bool} {xs : List Rw} {k : Nat} {v : Int} (h : NR s xs k v) : k = 0 ↔ v = 0 := by
  constructor
  · intro hk; subst hk; have := h.2.2.1; simp [bv] at this; rw [← this]; cases s <;> simp [sv]
  · intro hv; subst hv; have := nr_len (m := 0) h (by simp); omega
theorem pre_abs {s : Bool} {xs : List Rw} {k : Nat} (h : Pre s xs k) : bv (xs.take k) = (nv s xs k).natAbs := nr_abs h.1
theorem pre_sign {s : Bool} {xs : List Rw} {k : Nat} (h : Pre s xs k) : s = decide (nv s xs k < 0) := by
  have := h.1.2.2
  cases s with
  | true => have := this.2 rfl; simp [this]
  | false => have h1 := this.1; simp [sv] at h1; simp; omega
theorem take_self {zs : List Rw} : zs.take zs.length = zs := List.take_of_length_le (Nat.le_refl _)
theorem k_rof : ∀ (args : List AV) (hp : Tr (AO O)) (nx : Nat) (K : AV → Tr (AO O) → Nat → Prop), c_rof args hp nx K → ACall I P 36 args hp (fun v hp' => ∃ nx', K v hp' nx') := by
  intro args hp nx K h
  unfold c_rof at h; split at h
  · rename_i n
    split at h
    · rename_i hb hg
      refine hrows mix gq1 (fn := Try.f36) (by kernel_rfl) (by kernel_rfl) (by kernel_rfl) [] [] [.int .i64 n] (nx := nx) rfl rfl rfl trivial rfl rfl (fun hr ho => ?_)
      simp only [rgs, rg, Bool.and_eq_true] at hr
      have hn := r_i64 hr.1
      refine (t_rof I _ n).mpr ?_
      have main : ∀ (s : Bool) (m : Nat), m < 18446744073709551616 → sv s m = n → ∀ (zs : List Rw) (k e room : Nat), bv zs = m → k ≤ zs.length → bv (zs.take k) = bv zs → (k = 0 ∨ bit zs (k - 1) = true) →
          K (.agg [.bool (s && decide (0 < k)), .sl nx 0 k e]) (hp.set nx (some (bo zs room))) (nx + 1) := fun s m hm hs zs k e room h1 h2 h3 h4 => by
        refine h _ zs k e room ?_
        rw [← hs, ← h1]
        exact nr_bare h2 h3 h4
      have loop : ∀ (s : Bool) (m : Nat), m < 18446744073709551616 → sv s m = n → ALoop I 0 (cd Try.f36 [true, true, true, true, false, true, false, false]) (acode I P (Gm Q1) (adraw P (Gm Q1)) 0 (cd Try.f36 [true, true, true, true, false, true, false, false])) (ablock 0 (athen (cd Try.f36 [true, true, true, true, true]) (fun s => acode I P (Gm Q1) (adraw P (Gm Q1)) 0 (cd Try.f36 [true, true, true, true, true]) s (kret P Try.f36 (fun v lh _ => keeps lh 0 ([] : List (AO O)) ∧ ((nm (pd (pairs 0 [])) v = true ∧ K (rn (pι (pairs 0 [])) v) hp nx) ∨ ∃ j t sh zs room, Nat.blt nx 16777215 = true ∧ hp.get nx = none ∧ ([] : List Nat).length ≤ j ∧ lh.get j = some (.rows t sh zs room) ∧ nm (pd (pairs 0 [] ++ [(j, nx)])) v = true ∧ K (rn (pι (pairs 0 [] ++ [(j, nx)])) v) (hp.set nx (some (.rows t sh zs room))) (nx + 1))))) (kret P Try.f36 (fun v lh _ => keeps lh 0 ([] : List (AO O)) ∧ ((nm (pd (pairs 0 [])) v = true ∧ K (rn (pι (pairs 0 [])) v) hp nx) ∨ ∃ j t sh zs room, Nat.blt nx 16777215 = true ∧ hp.get nx = none ∧ ([] : List Nat).length ≤ j ∧ lh.get j = some (.rows t sh zs room) ∧ nm (pd (pairs 0 [] ++ [(j, nx)])) v = true ∧ K (rn (pι (pairs 0 [] ++ [(j, nx)])) v) (hp.set nx (some (.rows t sh zs room))) (nx + 1)))))) (j_of0 s m) := by
        intro s m hm hs
        have hbit : ∀ i : Nat, i < 64 → (((m : Int).fdiv (2 ^ min ((i : Int)).toNat IntKind.u64.bits)).tmod 2 == 1) = ((m / 2 ^ i) % 2 == 1) := fun i hi => by
          have h1 : min ((i : Int)).toNat IntKind.u64.bits = i := by
            have : IntKind.u64.bits = 64 := rfl
            omega
          rw [h1]
          have h2 : (m : Int).fdiv (2 ^ i) = ((m / 2 ^ i : Nat) : Int) := by
            rw [Int.fdiv_eq_ediv_of_nonneg _ (Int.pow_nonneg (by decide))]
            rw [Int.natCast_ediv, Int.natCast_pow]; rfl
          rw [h2, Int.tmod_eq_emod_of_nonneg (Int.natCast_nonneg _)]
          have h3 : ((m / 2 ^ i : Nat) : Int) % 2 = ((m / 2 ^ i % 2 : Nat) : Int) := by omega
          rw [h3]
          generalize m / 2 ^ i % 2 = y
          cases hy : (y == 1)
          · have : y ≠ 1 := by simpa using hy
            simp; omega
          · have : y = 1 := by simpa using hy
            subst this; rfl
        have step : ∀ i : Nat, m % 2 ^ (i + 1) = m % 2 ^ i + 2 ^ i * nb ((m / 2 ^ i) % 2 == 1) := fun i => by
          rw [Nat.pow_succ, Nat.mod_mul]
          congr 2
          have := Nat.mod_lt (m / 2 ^ i) (show 0 < 2 by omega)
          generalize m / 2 ^ i % 2 = y at *
          rcases (show y = 0 ∨ y = 1 by omega) with rfl | rfl <;> rfl
        refine ALoop.stepg [(0, 0), (1, 1), (3, 2)] [2, 3, 4, 5] 3 ?_
        refine (t_of0R I _ _ n s m).mpr ⟨by omega, fun c' h1 h2 => ?_⟩
        have inv := ALoop.invj (I := I) (m := 0) (b := (cd Try.f36 [true, true, true, true, false, true, false, false])) (body := (acode I P (Gm Q1) (adraw P (Gm Q1)) 0 (cd Try.f36 [true, true, true, true, false, true, false, false]))) (K := (ablock 0 (athen (cd Try.f36 [true, true, true, true, true]) (fun s => acode I P (Gm Q1) (adraw P (Gm Q1)) 0 (cd Try.f36 [true, true, true, true, true]) s (kret P Try.f36 (fun v lh _ => keeps lh 0 ([] : List (AO O)) ∧ ((nm (pd (pairs 0 [])) v = true ∧ K (rn (pι (pairs 0 [])) v) hp nx) ∨ ∃ j t sh zs room, Nat.blt nx 16777215 = true ∧ hp.get nx = none ∧ ([] : List Nat).length ≤ j ∧ lh.get j = some (.rows t sh zs room) ∧ nm (pd (pairs 0 [] ++ [(j, nx)])) v = true ∧ K (rn (pι (pairs 0 [] ++ [(j, nx)])) v) (hp.set nx (some (.rows t sh zs room))) (nx + 1))))) (kret P Try.f36 (fun v lh _ => keeps lh 0 ([] : List (AO O)) ∧ ((nm (pd (pairs 0 [])) v = true ∧ K (rn (pι (pairs 0 [])) v) hp nx) ∨ ∃ j t sh zs room, Nat.blt nx 16777215 = true ∧ hp.get nx = none ∧ ([] : List Nat).length ≤ j ∧ lh.get j = some (.rows t sh zs room) ∧ nm (pd (pairs 0 [] ++ [(j, nx)])) v = true ∧ K (rn (pι (pairs 0 [] ++ [(j, nx)])) v) (hp.set nx (some (.rows t sh zs room))) (nx + 1))))))) (ps := [(0, 0), (1, 1), (4, 2)]) (ts := [2, 3, 4, 5]) (nx := 3)
          (fun x : List Rw × Nat × Nat × Nat => j_of s x.1 x.2.1 x.2.2.1 x.2.2.2 m (x.2.1 : Nat)) (fun x => x.1.length = x.2.1 ∧ x.2.2.1 ≤ x.2.2.2 ∧ x.2.1 ≤ 64 ∧ bv x.1 = m % 2 ^ x.2.1) (fun x => 64 - x.2.1) (fun x hG => ?_) ([rwA [.bool (((m : Int).fdiv (2 ^ min ((0 : Nat) : Int).toNat IntKind.u64.bits)).tmod 2 == 1)]], 1, c', c' * [Sh.b].length) ⟨rfl, by simp, by simp only; omega, ?_⟩
        · refine cast (congrArg _ ?_) inv
          kernel_rfl
        · obtain ⟨zs, n', e, room⟩ := x
          obtain ⟨g1, g2, g3, g4⟩ := hG
          simp only at g1 g2 g3 g4
          refine (t_ofR I _ _ n s zs n' e room m n').mpr ?_
          have hz : zs.take n' = zs := List.take_of_length_le (by omega)
          refine bsplit_both (fun w1 => ?_) (fun w1 => ?_)
          · have w1 : n' < 64 := by have : (n' : Int) < 64 := by simpa using w1
                                    omega
            refine must_mk (by simp) (must_mk ?_ ⟨by omega, fun c'' hc1 hc2 => ?_⟩)
            · simp only [Bool.and_eq_true, Nat.ble_eq, List.length_cons, List.length_nil]; exact ⟨⟨by omega, by omega⟩, rfl⟩
            rw [s_i64 (n := (n' : Int) + 1) (by omega)]
            refine ⟨(zs.take n' ++ [rwA [.bool (((m : Int).fdiv (2 ^ min ((n' : Int)).toNat IntKind.u64.bits)).tmod 2 == 1)]], n' + 1, c'', c'' * [Sh.b].length), ⟨by simp [hz, g1], by simp, w1, ?_⟩, by simp only; omega, by kernel_rfl⟩
            simp only
            rw [hbit n' w1, hz, bv_app, bv_one, g1, g4, step]
          · have w1 : n' = 64 := by have : ¬ (n' : Int) < 64 := by simpa using w1
                                    omega
            subst w1
            have hm : bv zs = m := by rw [g4]; exact Nat.mod_eq_of_lt (by simpa using hm)
            refine ⟨⟨by omega, by omega⟩, fun k hk => ?_⟩
            obtain ⟨k1, k2, k3⟩ := hk
            rw [hz] at k2
            exact ⟨trivial, .inr ⟨2, _, _, zs, room, hb, hg, Nat.zero_le _, rfl, rfl, main s m ‹_› hs zs k e room hm (by omega) k2 k3⟩⟩
        · have := step 0
          rw [hbit 0 (by decide), bv_one]
          simpa [Nat.mod_one] using this.symm
      refine bsplit_both (fun hx => ?_) (fun hx => ?_)
      · have hx' : n < 0 := by simpa using hx
        have e : IntKind.u64.wrap (bits BinOp.xor IntKind.u64 (if IntKind.u64.signed = true then -1 else IntKind.u64.max) (IntKind.u64.wrap n) + 1) = (((-n).toNat : Nat) : Int) := by
          rw [not_u64 _ (by rw [w_u64]; omega), w_u64, w_u64]; omega
        rw [e, hx]
        exact ALoop.start [(0, 0), (1, 1)] [2, 3, 4, 5] 2 (j_of0 true (((-n).toNat : Nat) : Int)) (by kernel_rfl) (by kernel_rfl) (loop true _ (by omega) (by simp only [sv]; omega))
      · have hx' : ¬ n < 0 := by simpa using hx
        have e : IntKind.u64.wrap n = ((n.toNat : Nat) : Int) := by rw [w_u64]; omega
        rw [e, hx]
        exact ALoop.start [(0, 0), (1, 1)] [2, 3, 4, 5] 2 (j_of0 false ((n.toNat : Nat) : Int)) (by kernel_rfl) (by kernel_rfl) (loop false _ (by omega) (by simp only [sv]; omega))
    · exact h.elim
  · exact h.elim
theorem k_rless : ∀ (args : List AV) (hp : Tr (AO O)) (nx : Nat) (K : AV → Tr (AO O) → Nat → Prop), c_rless args hp nx K → ACall I P 38 args hp (fun v hp' => ∃ nx', K v hp' nx') := by
  intro args hp nx K h
  unfold c_rless at h; split at h
  · rename_i s n l c
    split at h
    · rename_i xs room hb hg
      obtain ⟨hpre, h⟩ := h
      refine hrows mix gq1 (fn := Try.f38) (by kernel_rfl) (by kernel_rfl) (by kernel_rfl) [n] [bo xs room] [.agg [.bool s, .sl 0 0 l c]] (nx := nx) rfl (uniq1 hb) rfl ⟨hg, trivial⟩ rfl rfl (fun hr ho => ?_)
      refine (t_rless I _ s l c room xs).mpr ⟨⟨hpre.1.1, by have := hpre.2; omega⟩, fun k hk => ?_⟩
      obtain ⟨k1, k2, k3⟩ := hk
      refine ⟨⟨rfl, trivial⟩, .inl ⟨rfl, h _ k ?_⟩⟩
      have h1 : k ≤ xs.length := Nat.le_trans k1 hpre.1.1
      have := nr_bare (s := !s) h1 k2 k3
      have e : sv (!s) (bv (xs.take l)) = -(nv s xs l) := by unfold nv; cases s <;> simp [sv]
      rw [e] at this
      exact this
    · exact h.elim
  · exact h.elim
theorem pre_lenB {s : Bool} {xs : List Rw} {k : Nat} (h : Pre s xs k) : lenB xs k := ⟨h.1.1, by have := h.2; omega⟩
theorem k_radd : ∀ (args : List AV) (hp : Tr (AO O)) (nx : Nat) (K : AV → Tr (AO O) → Nat → Prop), c_radd args hp nx K → ACall I P 37 args hp (fun v hp' => ∃ nx', K v hp' nx') := by
  intro args hp nx K h
  unfold c_radd at h; split at h
  · rename_i s n l c t m k d
    split at h
    · rename_i xs r1 ys r2 hb hg1 hg2 hgx
      simp only [Bool.and_eq_true] at hb
      obtain ⟨⟨⟨hb1, hb2⟩, hb3⟩, hb4⟩ := hb
      obtain ⟨⟨p1, p2⟩, h⟩ := h
      refine hrows mix gq1 (fn := Try.f37) (by kernel_rfl) (by kernel_rfl) (by kernel_rfl) [n, m] [bo xs r1, bo ys r2] [.agg [.bool s, .sl 0 0 l c], .agg [.bool t, .sl 1 0 k d]] (nx := nx) rfl (uniq2 hb1 hb2 hb4) rfl ⟨hg1, hg2, trivial⟩ rfl rfl (fun hr ho => ?_)
      refine (t_radd I _ s t l c r1 k d r2 xs ys).mpr ?_
      have a1 := pre_abs p1
      have a2 := pre_abs p2
      have L1 := p1.2
      have L2 := p2.2
      have fin : ∀ (u : Bool) (zs : List Rw) (e room k' : Nat), zs.length ≤ 2000 → sv u (bv zs) = nv s xs l + nv t ys k → (k' ≤ zs.length ∧ bv (zs.take k') = bv (zs.take zs.length) ∧ (k' = 0 ∨ bit zs (k' - 1) = true)) → K (.agg [.bool (u && decide (0 < k')), .sl nx 0 k' e]) (hp.set nx (some (bo zs room))) (nx + 1) := fun u zs e room k' hz hv hk => by
        refine h _ zs k' e room ?_
        rw [← hv]
        rw [take_self] at hk
        exact nr_bare hk.1 hk.2.1 hk.2.2
      refine bsplit_both (fun hst => ?_) (fun hst => ?_)
      · have hst : s = t := by simpa using hst
        refine ⟨⟨pre_lenB p1, pre_lenB p2⟩, fun zs e room hz => ?_⟩
        have hmx : Nat.max l k ≤ 900 := Nat.max_le.2 ⟨L1, L2⟩
        refine ⟨rfl, ⟨Nat.le_refl _, by omega⟩, fun k' hk => ⟨rfl, ⟨rfl, rfl, trivial⟩, .inr ⟨5, _, _, zs, room, hb3, hgx, by simp, rfl, rfl, fin s zs e room k' (by omega) ?_ hk⟩⟩⟩
        rw [hz.1]; subst hst; unfold nv; cases s <;> simp only [sv] <;> omega
      · have hst : s ≠ t := by simpa using hst
        refine ⟨⟨pre_lenB p1, pre_lenB p2⟩, fun r hr => ?_⟩
        refine bsplit_both (fun hx => ?_) (fun hx => ?_)
        · have hx : r ≥ 0 := by simpa using hx
          have hge : bv (ys.take k) ≤ bv (xs.take l) := by unfold CmpR at hr; omega
          refine ⟨⟨pre_lenB p1, pre_lenB p2, hge⟩, fun zs e room hz => ⟨rfl, ⟨Nat.le_refl _, by omega⟩, fun k' hk => ⟨rfl, ⟨rfl, rfl, trivial⟩, .inr ⟨5, _, _, zs, room, hb3, hgx, by simp, rfl, rfl, fin s zs e room k' (by omega) ?_ hk⟩⟩⟩⟩
          unfold nv; cases s <;> cases t <;> first | exact (hst rfl).elim | (simp only [sv]; omega)
        · have hx : ¬ r ≥ 0 := by simpa using hx
          have hge : bv (xs.take l) ≤ bv (ys.take k) := by unfold CmpR at hr; omega
          refine ⟨⟨pre_lenB p2, pre_lenB p1, hge⟩, fun zs e room hz => ⟨rfl, ⟨Nat.le_refl _, by omega⟩, fun k' hk => ⟨rfl, ⟨rfl, rfl, trivial⟩, .inr ⟨5, _, _, zs, room, hb3, hgx, by simp, rfl, rfl, fin t zs e room k' (by omega) ?_ hk⟩⟩⟩⟩
          unfold nv; cases s <;> cases t <;> first | exact (hst rfl).elim | (simp only [sv]; omega)
    · exact h.elim
  · exact h.elim
theorem gq2 : GOk I P (Gm Q2) := Gm.consH (Gm.consH (Gm.consH gq1 k_radd) k_rless) k_rof
end Go.Tb.W

/- The document's numbers: from halves, and to halves; which is greater; does one fit. -/
set_option linter.all false
set_option maxRecDepth 100000
namespace Go.Tb.W
open Go Go.Proofs
variable {I : Interp O}
theorem k_rcmp : ∀ (args : List AV) (hp : Tr (AO O)) (nx : Nat) (K : AV → Tr (AO O) → Nat → Prop), c_rcmp args hp nx K → ACall I P 40 args hp (fun v hp' => ∃ nx', K v hp' nx') := by
  intro args hp nx K h
  unfold c_rcmp at h; split at h
  · rename_i s n l c t m k d
    split at h
    · rename_i xs r1 ys r2 hb hg1 hg2
      simp only [Bool.and_eq_true] at hb
      obtain ⟨⟨hb1, hb2⟩, hb4⟩ := hb
      obtain ⟨⟨p1, p2, L1, L2⟩, h⟩ := h
      refine hrows mix gq2 (fn := Try.f40) (by kernel_rfl) (by kernel_rfl) (by kernel_rfl) [n, m] [bo xs r1, bo ys r2] [.agg [.bool s, .sl 0 0 l c], .agg [.bool t, .sl 1 0 k d]] (nx := nx) rfl (uniq2 hb1 hb2 hb4) rfl ⟨hg1, hg2, trivial⟩ rfl rfl (fun hr ho => ?_)
      refine (t_rcmp I _ s t l c r1 k d r2 xs ys).mpr ⟨p2, fun u j hu => ⟨rfl, ⟨p1, pre_of hu ?_⟩, fun u2 zs j2 e room h2 => ?_⟩⟩
      · have := nr_len (m := k) hu (by rw [Int.natAbs_neg, ← pre_abs p2]; exact bv_take_lt ys k)
        omega
      · rw [nv_of hu] at h2
        have hz := nr_zero h2
        refine bsplit_both (fun hx => ⟨⟨rfl, rfl, trivial⟩, .inl ⟨rfl, h _ (.inl ⟨?_, rfl⟩)⟩⟩) (fun hx => ⟨⟨rfl, rfl, trivial⟩, .inl ⟨rfl, h _ ?_⟩⟩)
        · have := h2.2.2.2 hx; omega
        · have h3 := h2.2.2.1
          rw [hx] at h3
          simp only [sv] at h3
          unfold CmpR
          split <;> omega
    · exact h.elim
  · exact h.elim
theorem nr_le_iff {s : Bool} {xs : List Rw} {k m : Nat} {v : Int} (h : NR s xs k v) : k ≤ m ↔ v.natAbs < 2 ^ m := by
  constructor
  · intro hk
    rw [← nr_abs h]
    have := bv_take_lt xs k
    have h2 : 2 ^ k ≤ 2 ^ m := Nat.pow_le_pow_right (by omega) hk
    omega
  · exact nr_len h
theorem k_fits : ∀ (args : List AV) (hp : Tr (AO O)) (nx : Nat) (K : AV → Tr (AO O) → Nat → Prop), c_fits args hp nx K → ACall I P 15 args hp (fun v hp' => ∃ nx', K v hp' nx') := by
  intro args hp nx K h
  unfold c_fits at h; split at h
  · rename_i s n l c p
    split at h
    · rename_i xs room hb hg
      obtain ⟨⟨p1, L1, hp0, hp1⟩, h⟩ := h
      refine hrows mix gq2 (fn := Try.f15) (by kernel_rfl) (by kernel_rfl) (by kernel_rfl) [n] [bo xs room] [.agg [.bool s, .sl 0 0 l c], .int .i64 p] (nx := nx) rfl (uniq1 hb) rfl ⟨hg, trivial⟩ rfl rfl (fun hr ho => ?_)
      refine (t_fits I _ s l c room xs p).mpr ?_
      have hsg := pre_sign p1
      have hpp : ((2 : Int) ^ p.toNat) = ((2 ^ p.toNat : Nat) : Int) := by rw [Int.natCast_pow]; rfl
      obtain ⟨q, hq⟩ : ∃ q : Nat, p = q := ⟨p.toNat, by omega⟩
      refine bsplit_both (fun hx => ⟨⟨rfl, trivial⟩, .inl ⟨rfl, h _ ?_⟩⟩) (fun hx => ?_)
      · have hs : s = false := by simpa using hx
        subst hs
        have hv : ¬ nv false xs l < 0 := by intro h'; rw [decide_eq_true h'] at hsg; cases hsg
        have key := nr_le_iff (m := p.toNat) p1.1
        unfold FitsR
        rw [hpp, decide_eq_true_eq]
        generalize nv false xs l = v at *
        constructor
        · intro h1; have := key.1 (by omega); omega
        · intro h1; have := key.2 (by omega); omega
      · have hs : s = true := by simpa using hx
        intro u zs j e rm hu
        have hj : j ≤ 1 := nr_len hu (by decide)
        refine ⟨rfl, ⟨p1, pre_of hu (by omega)⟩, fun u2 zs2 j2 e2 rm2 h2 => ⟨⟨rfl, trivial⟩, .inl ⟨rfl, h _ ?_⟩⟩⟩
        rw [nv_of hu] at h2
        have hv : nv s xs l < 0 := by rw [hs] at hsg; rw [hs]; exact of_decide_eq_true hsg.symm
        have key := nr_le_iff (m := p.toNat) h2
        unfold FitsR
        rw [hpp, decide_eq_true_eq]
        generalize nv s xs l = v at *
        constructor
        · intro h1; have := key.1 (by omega); omega
        · intro h1; have := key.2 (by omega); omega
    · exact h.elim
  · exact h.elim
/-- The halves of a number that isn't below 0, and of what is below 0 by 1 more. -/
theorem wide_ok {v N h l : Int} (hl : 0 ≤ l ∧ l < 18446744073709551616) (hh : 0 ≤ h ∧ h < 18446744073709551616) (hN : 0 ≤ N) (hm : (N - (h * 18446744073709551616 + l)) % 340282366920938463463374607431768211456 = 0) :
    (v = N → WideR v (IntKind.i64.wrap h) l) ∧ (v = -N - 1 → WideR v (IntKind.i64.wrap (18446744073709551615 - h)) (18446744073709551615 - l)) := by
  constructor
  · intro hv; subst hv
    rw [w_i64]
    refine ⟨by omega, by omega, by omega, fun hf => ?_⟩
    unfold Nm vl; omega
  · intro hv; subst hv
    rw [w_i64]
    refine ⟨by omega, by omega, by omega, fun hf => ?_⟩
    unfold Nm vl; omega
theorem bv_mod (A : List Rw) (m : Nat) : ∃ q, bv A = bv (A.take m) + 2 ^ m * q := by
  by_cases h : m ≤ A.length
  · refine ⟨bv (A.drop m), ?_⟩
    have := bv_app (A.take m) (A.drop m)
    rw [List.take_append_drop, List.length_take, Nat.min_eq_left h] at this; exact this
  · exact ⟨0, by rw [List.take_of_length_le (by omega)]; omega⟩
theorem k_rwide : ∀ (args : List AV) (hp : Tr (AO O)) (nx : Nat) (K : AV → Tr (AO O) → Nat → Prop), c_rwide args hp nx K → ACall I P 16 args hp (fun v hp' => ∃ nx', K v hp' nx') := by
  intro args hp nx K h
  unfold c_rwide at h; split at h
  · rename_i s n l c
    split at h
    · rename_i xs r hb hg
      obtain ⟨⟨p1, L1⟩, h⟩ := h
      refine hrows mix gq2 (fn := Try.f16) (by kernel_rfl) (by kernel_rfl) (by kernel_rfl) [n] [bo xs r] [.agg [.bool s, .sl 0 0 l c]] (nx := nx) rfl (uniq1 hb) rfl ⟨hg, trivial⟩ rfl rfl (fun hr ho => ?_)
      refine (t_rwide I _ s l c r xs).mpr ?_
      have hsg := pre_sign p1
      have hxl : l ≤ xs.length := p1.1.1
      -- what the loop ends with
      have endW : ∀ (A : List Rw) (hi_ : Nat), hi_ * 18446744073709551616 + bv (A.take 64) = bv (A.take (64 + 64)) → (0 ≤ (bv (A.take 64) : Int) ∧ (bv (A.take 64) : Int) < 18446744073709551616) ∧ (0 ≤ (hi_ : Int) ∧ (hi_ : Int) < 18446744073709551616) ∧ ((bv A : Int) - ((hi_ : Int) * 18446744073709551616 + (bv (A.take 64) : Int))) % 340282366920938463463374607431768211456 = 0 := fun A hi_ h1 => by
        have l1 := bv_take_lt A 64
        have l2 := bv_take_lt A (64 + 64)
        obtain ⟨q, hq⟩ := bv_mod A (64 + 64)
        have e1 : 2 ^ 64 = 18446744073709551616 := by decide
        have e2 : 2 ^ (64 + 64) = 340282366920938463463374607431768211456 := by decide
        rw [e1] at l1; rw [e2] at l2 hq
        omega
      refine bsplit_both (fun hx => ?_) (fun hx => ?_)
      · have hv : nv s xs l < 0 := by rw [hx] at hsg; rw [hx]; exact of_decide_eq_true hsg.symm
        intro u0 zs1 j2 e3 room4 hu
        have hj : j2 ≤ 1 := nr_len hu (by decide)
        refine ⟨rfl, ⟨p1, pre_of hu (by omega)⟩, fun u5 zs6 j7 e8 room9 h5 => ?_⟩
        rw [nv_of hu] at h5
        have hj7 : j7 ≤ l := nr_len h5 (by have h1 := bv_take_lt xs l; rw [pre_abs p1] at h1; omega)
        refine ⟨pre_of h5 (by omega), fun u10 j11 h10 => ?_⟩
        rw [nv_of h5] at h10
        have hA := nr_abs h10
        have hval : nv s xs l = -(((-(nv s xs l + 1)).natAbs : Nat) : Int) - 1 := by omega
        have hzl : j11 ≤ zs6.length := h10.1
        refine ALoop.start [(1, 1), (2, 2), (4, 4)] [1, 4, 5, 6, 7] 5 (j_wide0 s l c r xs u10 zs6 j11 e8 room9 0 0 0) (by kernel_rfl) (by kernel_rfl) ?_
        refine ALoop.invj (ps := [(1, 1), (2, 2), (4, 4)]) (ts := [1, 4, 5, 6, 7]) (nx := 5) (fun x : Nat × Nat × Nat => j_wide0 s l c r xs u10 zs6 j11 e8 room9 (x.1 : Nat) (x.2.1 : Nat) (x.2.2 : Nat)) (fun x => x.2.2 ≤ 64 ∧ x.2.1 = bv ((zs6.take j11).take x.2.2) ∧ x.1 * 18446744073709551616 + bv ((zs6.take j11).take 64) = bv ((zs6.take j11).take (64 + x.2.2))) (fun x => 64 - x.2.2) (fun x hG => ?_) (0, 0, 0) ⟨by simp, by simp [bv], by simp⟩
        obtain ⟨hi_, lo_, n'⟩ := x
        obtain ⟨g1, g2, g3⟩ := hG
        simp only at g1 g2 g3
        refine (t_wide0R I _ _ s l c r xs u10 zs6 j11 e8 room9 hi_ lo_ n').mpr ?_
        have hin : ((n' : Int)).toNat = n' := by omega
        refine bsplit_both (fun w1 => ?_) (fun w1 => ?_)
        · have w1 : n' < 64 := by have : (n' : Int) < 64 := by simpa using w1
                                  omega
          have hmin : min n' IntKind.u64.bits = n' := by
            have : IntKind.u64.bits = 64 := rfl
            omega
          obtain ⟨pw, hpw⟩ : ∃ y, 2 ^ n' = y := ⟨_, rfl⟩
          have h64 : pw ≤ 9223372036854775808 := by
            have : 2 ^ n' ≤ 2 ^ 63 := Nat.pow_le_pow_right (by omega) (by omega)
            rw [hpw] at this
            exact Nat.le_trans this (by decide)
          have hp : IntKind.u64.wrap (1 * 2 ^ min n' IntKind.u64.bits) = (pw : Int) := by
            rw [hmin, Int.one_mul]
            have : ((2 : Int) ^ n') = (pw : Int) := by rw [← hpw, Int.natCast_pow]; rfl
            rw [this, s_u64 (by omega)]
          rw [s_i64 (n := (n' : Int) + 64) (by omega), s_i64 (n := (n' : Int) + 1) (by omega), hin, show ((n' : Int) + 64).toNat = 64 + n' by omega, hp]
          have b1 := bv_succ (zs6.take j11) n'
          have b2 := bv_succ (zs6.take j11) (64 + n')
          have l1 := bv_take_lt (zs6.take j11) n'
          have l2 := bv_take_lt (zs6.take j11) (64 + n')
          have e64 : 2 ^ (64 + n') = 18446744073709551616 * pw := by rw [Nat.pow_add, hpw]
          rw [hpw] at b1 l1
          rw [e64] at b2 l2
          have hh : hi_ < pw := by
            have : 18446744073709551616 * hi_ < 18446744073709551616 * pw := by omega
            exact Nat.lt_of_mul_lt_mul_left this
          have wr : ∀ v : Nat, v < pw → IntKind.u64.wrap ((v : Int) + (pw : Int)) = ((v + pw : Nat) : Int) := fun v hv => by rw [s_u64 (by omega)]; omega
          rw [wr hi_ hh, wr lo_ (by omega)]
          have go : ∀ (x y : Bool), bit (zs6.take j11) n' = x → bit (zs6.take j11) (64 + n') = y → (hi_ + pw * nb y) * 18446744073709551616 + bv ((zs6.take j11).take 64) = bv ((zs6.take j11).take (64 + (n' + 1))) ∧ lo_ + pw * nb x = bv ((zs6.take j11).take (n' + 1)) := fun x y hx hy => by
            rw [hx] at b1; rw [hy] at b2
            refine ⟨?_, by rw [g2]; exact b1.symm⟩
            rw [show 64 + (n' + 1) = 64 + n' + 1 by omega, b2, Nat.add_mul]
            have : pw * nb y * 18446744073709551616 = 18446744073709551616 * pw * nb y := by rw [Nat.mul_comm (pw * nb y), Nat.mul_assoc]
            rw [this, ← g3]
            exact Nat.add_right_comm _ _ _
          refine ⟨⟨by omega, hzl⟩, bsplit_both (fun bx => must_mk (by simp) ⟨⟨by omega, hzl⟩, bsplit_both (fun by_ => must_mk (by simp) ?_) (fun by_ => ?_)⟩) (fun bx => ⟨⟨by omega, hzl⟩, bsplit_both (fun by_ => must_mk (by simp) ?_) (fun by_ => ?_)⟩)⟩
          · obtain ⟨q1, q2⟩ := go _ _ bx by_
            exact ⟨(hi_ + pw, lo_ + pw, n' + 1), ⟨w1, by simpa [nb] using q2, by simpa [nb] using q1⟩, by simp only; omega, by kernel_rfl⟩
          · obtain ⟨q1, q2⟩ := go _ _ bx by_
            exact ⟨(hi_, lo_ + pw, n' + 1), ⟨w1, by simpa [nb] using q2, by simpa [nb] using q1⟩, by simp only; omega, by kernel_rfl⟩
          · obtain ⟨q1, q2⟩ := go _ _ bx by_
            exact ⟨(hi_ + pw, lo_, n' + 1), ⟨w1, by simpa [nb] using q2, by simpa [nb] using q1⟩, by simp only; omega, by kernel_rfl⟩
          · obtain ⟨q1, q2⟩ := go _ _ bx by_
            exact ⟨(hi_, lo_, n' + 1), ⟨w1, by simpa [nb] using q2, by simpa [nb] using q1⟩, by simp only; omega, by kernel_rfl⟩
        · have w1 : n' = 64 := by have : ¬ (n' : Int) < 64 := by simpa using w1
                                  omega
          subst w1
          refine bsT hx ⟨⟨rfl, trivial⟩, .inl ⟨rfl, h _ _ ?_⟩⟩
          obtain ⟨q1, q2, q3⟩ := endW (zs6.take j11) hi_ g3
          rw [← g2] at q1 q3
          rw [hA] at q3
          have hw : 0 ≤ (lo_ : Int) ∧ (lo_ : Int) ≤ 18446744073709551615 := ⟨q1.1, Int.le_sub_one_of_lt q1.2⟩
          have hw2 : 0 ≤ (hi_ : Int) ∧ (hi_ : Int) ≤ 18446744073709551615 := ⟨q2.1, Int.le_sub_one_of_lt q2.2⟩
          rw [not_u64 _ hw, not_u64 _ hw2]
          exact (wide_ok (v := nv s xs l) (N := (((-(nv s xs l + 1)).natAbs : Nat) : Int)) q1 q2 (Int.natCast_nonneg _) q3).2 hval
      · have hv : ¬ nv s xs l < 0 := by intro h'; rw [decide_eq_true h', hx] at hsg; cases hsg
        have hA := pre_abs p1
        have hval : nv s xs l = (((nv s xs l).natAbs : Nat) : Int) := by omega
        refine ALoop.start [(1, 1), (2, 2)] [1, 4, 5, 6, 7] 3 (j_wide1 s l c r xs 0 0 0) (by kernel_rfl) (by kernel_rfl) ?_
        refine ALoop.invj (ps := [(1, 1), (2, 2)]) (ts := [1, 4, 5, 6, 7]) (nx := 3) (fun x : Nat × Nat × Nat => j_wide1 s l c r xs (x.1 : Nat) (x.2.1 : Nat) (x.2.2 : Nat)) (fun x => x.2.2 ≤ 64 ∧ x.2.1 = bv ((xs.take l).take x.2.2) ∧ x.1 * 18446744073709551616 + bv ((xs.take l).take 64) = bv ((xs.take l).take (64 + x.2.2))) (fun x => 64 - x.2.2) (fun x hG => ?_) (0, 0, 0) ⟨by simp, by simp [bv], by simp⟩
        obtain ⟨hi_, lo_, n'⟩ := x
        obtain ⟨g1, g2, g3⟩ := hG
        simp only at g1 g2 g3
        refine (t_wide1R I _ _ s l c r xs hi_ lo_ n').mpr ?_
        have hin : ((n' : Int)).toNat = n' := by omega
        refine bsplit_both (fun w1 => ?_) (fun w1 => ?_)
        · have w1 : n' < 64 := by have : (n' : Int) < 64 := by simpa using w1
                                  omega
          have hmin : min n' IntKind.u64.bits = n' := by
            have : IntKind.u64.bits = 64 := rfl
            omega
          obtain ⟨pw, hpw⟩ : ∃ y, 2 ^ n' = y := ⟨_, rfl⟩
          have h64 : pw ≤ 9223372036854775808 := by
            have : 2 ^ n' ≤ 2 ^ 63 := Nat.pow_le_pow_right (by omega) (by omega)
            rw [hpw] at this
            exact Nat.le_trans this (by decide)
          have hp : IntKind.u64.wrap (1 * 2 ^ min n' IntKind.u64.bits) = (pw : Int) := by
            rw [hmin, Int.one_mul]
            have : ((2 : Int) ^ n') = (pw : Int) := by rw [← hpw, Int.natCast_pow]; rfl
            rw [this, s_u64 (by omega)]
          rw [s_i64 (n := (n' : Int) + 64) (by omega), s_i64 (n := (n' : Int) + 1) (by omega), hin, show ((n' : Int) + 64).toNat = 64 + n' by omega, hp]
          have b1 := bv_succ (xs.take l) n'
          have b2 := bv_succ (xs.take l) (64 + n')
          have l1 := bv_take_lt (xs.take l) n'
          have l2 := bv_take_lt (xs.take l) (64 + n')
          have e64 : 2 ^ (64 + n') = 18446744073709551616 * pw := by rw [Nat.pow_add, hpw]
          rw [hpw] at b1 l1
          rw [e64] at b2 l2
          have hh : hi_ < pw := by
            have : 18446744073709551616 * hi_ < 18446744073709551616 * pw := by omega
            exact Nat.lt_of_mul_lt_mul_left this
          have wr : ∀ v : Nat, v < pw → IntKind.u64.wrap ((v : Int) + (pw : Int)) = ((v + pw : Nat) : Int) := fun v hv => by rw [s_u64 (by omega)]; omega
          rw [wr hi_ hh, wr lo_ (by omega)]
          have go : ∀ (x y : Bool), bit (xs.take l) n' = x → bit (xs.take l) (64 + n') = y → (hi_ + pw * nb y) * 18446744073709551616 + bv ((xs.take l).take 64) = bv ((xs.take l).take (64 + (n' + 1))) ∧ lo_ + pw * nb x = bv ((xs.take l).take (n' + 1)) := fun x y hx hy => by
            rw [hx] at b1; rw [hy] at b2
            refine ⟨?_, by rw [g2]; exact b1.symm⟩
            rw [show 64 + (n' + 1) = 64 + n' + 1 by omega, b2, Nat.add_mul]
            have : pw * nb y * 18446744073709551616 = 18446744073709551616 * pw * nb y := by rw [Nat.mul_comm (pw * nb y), Nat.mul_assoc]
            rw [this, ← g3]
            exact Nat.add_right_comm _ _ _
          refine ⟨⟨by omega, hxl⟩, bsplit_both (fun bx => must_mk (by simp) ⟨⟨by omega, hxl⟩, bsplit_both (fun by_ => must_mk (by simp) ?_) (fun by_ => ?_)⟩) (fun bx => ⟨⟨by omega, hxl⟩, bsplit_both (fun by_ => must_mk (by simp) ?_) (fun by_ => ?_)⟩)⟩
          · obtain ⟨q1, q2⟩ := go _ _ bx by_
            exact ⟨(hi_ + pw, lo_ + pw, n' + 1), ⟨w1, by simpa [nb] using q2, by simpa [nb] using q1⟩, by simp only; omega, by kernel_rfl⟩
          · obtain ⟨q1, q2⟩ := go _ _ bx by_
            exact ⟨(hi_, lo_ + pw, n' + 1), ⟨w1, by simpa [nb] using q2, by simpa [nb] using q1⟩, by simp only; omega, by kernel_rfl⟩
          · obtain ⟨q1, q2⟩ := go _ _ bx by_
            exact ⟨(hi_ + pw, lo_, n' + 1), ⟨w1, by simpa [nb] using q2, by simpa [nb] using q1⟩, by simp only; omega, by kernel_rfl⟩
          · obtain ⟨q1, q2⟩ := go _ _ bx by_
            exact ⟨(hi_, lo_, n' + 1), ⟨w1, by simpa [nb] using q2, by simpa [nb] using q1⟩, by simp only; omega, by kernel_rfl⟩
        · have w1 : n' = 64 := by have : ¬ (n' : Int) < 64 := by simpa using w1
                                  omega
          subst w1
          refine bsF hx ⟨⟨rfl, trivial⟩, .inl ⟨rfl, h _ _ ?_⟩⟩
          obtain ⟨q1, q2, q3⟩ := endW (xs.take l) hi_ g3
          rw [← g2] at q1 q3
          rw [hA] at q3
          exact (wide_ok (v := nv s xs l) (N := (((nv s xs l).natAbs : Nat) : Int)) q1 q2 (Int.natCast_nonneg _) q3).1 hval
    · exact h.elim
  · exact h.elim
end Go.Tb.W

