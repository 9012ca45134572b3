/- The disciplines' functions: what each one tells, and leaves. -/
import Derived.Test.YtfdociljddgnhaaD1
set_option linter.all false
set_option maxRecDepth 100000
namespace Go.Tb.W
open Go Go.Proofs
def c_within (args : List AV) (K : AV → Prop) : Prop := match args with
  | [.int .i64 n, .int .i64 a, .int .i64 b] => K (.bool (decide (a ≤ n) && decide (n ≤ b)))
  | _ => False
/-- How great a number is; of the least one there is none that is as great. -/
def SizeR (n z : Int) : Prop := (0 ≤ n ∧ z = n) ∨ (n < 0 ∧ -9223372036854775808 < n ∧ z = -n) ∨ (n = -9223372036854775808 ∧ z = n)
def c_dsize (args : List AV) (K : AV → Prop) : Prop := match args with
  | [.int .i64 n] => ∀ z, SizeR n z → K (.int .i64 z)
  | _ => False
/-- A discipline: its limits, and its state. -/
abbrev dO (s p w r st q l b : Int) : AO O := .cells 50 [.int .i64 s, .int .i64 p, .int .i64 w, .int .i64 r, .int .i64 st, .int .i64 q, .int .i64 l, .int .i64 b] 8
def mayN (s p w r : Int) : Prop := (1 ≤ s ∧ s ≤ p) ∧ p ≤ 1152921504606846976 ∧ (0 ≤ w ∧ w ≤ 100000000) ∧ (0 ≤ r ∧ r ≤ 100000000)
def c_dnew (args : List AV) (hp : Tr (AO O)) (nx : Nat) (K : AV → Tr (AO O) → Nat → Prop) : Prop := match args with
  | [.int .i64 s, .int .i64 p, .int .i64 w, .int .i64 r] => match Nat.blt nx 16777215, hp.get nx with
    | true, none => (mayN s p w r → K (.tup [.ptr nx 0, .int .i64 0]) (hp.set nx (some (dO s p w r 0 0 0 0))) (nx + 1)) ∧ (¬ mayN s p w r → K (.tup [.nilp, .int .i64 1]) hp nx)
    | _, _ => False
  | _ => False
def c_restart (args : List AV) (hp : Tr (AO O)) (nx : Nat) (K : AV → Tr (AO O) → Nat → Prop) : Prop := match args with
  | [.ptr n 0] => match Nat.blt n 16777215, hp.get n with
    | true, some (.cells 50 [.int .i64 s, .int .i64 p, .int .i64 w, .int .i64 r, .int .i64 st, .int .i64 q, .int .i64 l, .int .i64 b] 8) =>
      K (.tup []) (hp.set n (some (dO s p w r 0 0 0 0))) nx
    | _, _ => False
  | _ => False
def c_state (args : List AV) (hp : Tr (AO O)) (nx : Nat) (K : AV → Tr (AO O) → Nat → Prop) : Prop := match args with
  | [.ptr n 0] => match Nat.blt n 16777215, hp.get n with
    | true, some (.cells 50 [.int .i64 s, .int .i64 p, .int .i64 w, .int .i64 r, .int .i64 st, .int .i64 q, .int .i64 l, .int .i64 b] 8) => K (.int .i64 st) hp nx
    | _, _ => False
  | _ => False
def c_rate (args : List AV) (hp : Tr (AO O)) (nx : Nat) (K : AV → Tr (AO O) → Nat → Prop) : Prop := match args with
  | [.ptr n 0] => match Nat.blt n 16777215, hp.get n with
    | true, some (.cells 50 [.int .i64 s, .int .i64 p, .int .i64 w, .int .i64 r, .int .i64 st, .int .i64 q, .int .i64 l, .int .i64 b] 8) => K (.int .i64 q) hp nx
    | _, _ => False
  | _ => False
def c_dsince (args : List AV) (hp : Tr (AO O)) (nx : Nat) (K : AV → Tr (AO O) → Nat → Prop) : Prop := match args with
  | [.ptr n 0, .int .i64 t] => match Nat.blt n 16777215, hp.get n with
    | true, some (.cells 50 [.int .i64 s, .int .i64 p, .int .i64 w, .int .i64 r, .int .i64 st, .int .i64 q, .int .i64 l, .int .i64 b] 8) => ∀ n e, I64R (t - l) n e → K (.tup [.int .i64 n, .int .i64 e]) hp nx
    | _, _ => False
  | _ => False
/-- What is wrong with an offset. -/
def MayR (st l off bd now n e : Int) : Prop := (st = 2 ∧ n = 0 ∧ e = 17) ∨ (st ≠ 2 ∧ bd < 0 ∧ n = 0 ∧ e = 1) ∨ (st ≠ 2 ∧ 0 ≤ bd ∧ st = 1 ∧ now ≤ l ∧ n = 0 ∧ e = 14) ∨
  (st ≠ 2 ∧ 0 ≤ bd ∧ (st = 1 → l < now) ∧ (off < -2305843009213693952 ∨ 2305843009213693952 < off) ∧ n = 0 ∧ e = 6) ∨
  (0 ≤ bd ∧ (-2305843009213693952 ≤ off ∧ off ≤ 2305843009213693952) ∧ st = 0 ∧ n = 0 ∧ e = 0) ∨
  (st ≠ 2 ∧ st ≠ 0 ∧ 0 ≤ bd ∧ (st = 1 → l < now) ∧ (-2305843009213693952 ≤ off ∧ off ≤ 2305843009213693952) ∧ I64R (now - l) n e)
def c_dmay (args : List AV) (hp : Tr (AO O)) (nx : Nat) (K : AV → Tr (AO O) → Nat → Prop) : Prop := match args with
  | [.ptr n 0, .int .i64 off, .int .i64 bd, .int .i64 t] => match Nat.blt n 16777215, hp.get n with
    | true, some (.cells 50 [.int .i64 s, .int .i64 p, .int .i64 w, .int .i64 r, .int .i64 st, .int .i64 q, .int .i64 l, .int .i64 b] 8) => ∀ n e, MayR st l off bd t n e → K (.tup [.int .i64 n, .int .i64 e]) hp nx
    | _, _ => False
  | _ => False
/-- By how much a clock goes on: what the slew rate lets, to the offset's side. -/
def SlewR (off span w y : Int) : Prop := (span * w / 1000000000 < off ∧ y = span * w / 1000000000) ∨ (-(span * w / 1000000000) ≤ off ∧ off ≤ span * w / 1000000000 ∧ y = off) ∨ (off < -(span * w / 1000000000) ∧ y = -(span * w / 1000000000))
def c_slewed (args : List AV) (hp : Tr (AO O)) (nx : Nat) (K : AV → Tr (AO O) → Nat → Prop) : Prop := match args with
  | [.ptr n 0, .int .i64 off, .int .i64 span] => match Nat.blt n 16777215, hp.get n with
    | true, some (.cells 50 [.int .i64 s, .int .i64 p, .int .i64 w, .int .i64 r, .int .i64 st, .int .i64 q, .int .i64 l, .int .i64 b] 8) =>
      must (decide (0 ≤ w) && (decide (w ≤ 100000000) && decide (0 ≤ span))) (∀ y, SlewR off span w y → K (.int .i64 y) hp nx)
    | _, _ => False
  | _ => False
def FastR (off span q v : Int) : Prop := (100000000 < off * 1000000000 / span / 16 + q ∧ v = 100000000) ∨ (off * 1000000000 / span / 16 + q < -100000000 ∧ v = -100000000) ∨ (-100000000 ≤ v ∧ v ≤ 100000000 ∧ v = off * 1000000000 / span / 16 + q)
def c_faster (args : List AV) (hp : Tr (AO O)) (nx : Nat) (K : AV → Tr (AO O) → Nat → Prop) : Prop := match args with
  | [.ptr n 0, .int .i64 off, .int .i64 span] => match Nat.blt n 16777215, hp.get n with
    | true, some (.cells 50 [.int .i64 s, .int .i64 p, .int .i64 w, .int .i64 r, .int .i64 st, .int .i64 q, .int .i64 l, .int .i64 b] 8) =>
      must (decide (1 ≤ span)) (∀ v, FastR off span q v → K (.int .i64 v) hp nx)
    | _, _ => False
  | _ => False
/-- What a discipline may be in. -/
def dInv (s p w r st q l b : Int) : Bool := decide (1 ≤ s) && (decide (s ≤ p) && (decide (p ≤ 1152921504606846976) && (decide (0 ≤ w) && (decide (w ≤ 100000000) && (decide (0 ≤ r) && (decide (r ≤ 100000000) && (decide (0 ≤ st) && (decide (st ≤ 2) && (decide (-100000000 ≤ q) && (decide (q ≤ 100000000) && (decide (0 ≤ b) && decide (b ≤ 4611686018427387904))))))))))))
/-- The least of a bound, made greater, and the greatest one. -/
def BndR (bd left b' : Int) : Prop := ∃ c, ((bd ≤ 4611686018427387904 ∧ c = bd) ∨ (4611686018427387904 < bd ∧ c = 4611686018427387904)) ∧ ((c + left ≤ 4611686018427387904 ∧ b' = c + left) ∨ (4611686018427387904 < c + left ∧ b' = 4611686018427387904))
def TakeR (s p w st q l b off bd now k y v e st' q' l' b' : Int) : Prop :=
  ∃ n d, MayR st l off bd now n d ∧ ((d ≠ 0 ∧ e = d ∧ k = 0 ∧ y = 0 ∧ v = 0 ∧ st' = st ∧ q' = q ∧ l' = l ∧ b' = b) ∨
    (d = 0 ∧ e = 0 ∧ ∃ far, ((0 ≤ off ∧ far = off) ∨ (off < 0 ∧ far = -off)) ∧
      ((p < far ∧ st = 1 ∧ k = 3 ∧ y = 0 ∧ v = q ∧ st' = 2 ∧ q' = q ∧ l' = l ∧ b' = b) ∨
       (¬ (p < far ∧ st = 1) ∧ st' = 1 ∧ l' = now ∧ q' = v ∧
         (((st = 0 ∨ s < far) ∧ k = 2 ∧ y = off ∧ v = q ∧ BndR bd 0 b') ∨
          (st ≠ 0 ∧ far ≤ s ∧ far ≤ bd ∧ k = 0 ∧ y = 0 ∧ v = q ∧ BndR bd far b') ∨
          (st ≠ 0 ∧ far ≤ s ∧ bd < far ∧ k = 1 ∧ SlewR off n w y ∧ FastR off n q v ∧ ((0 ≤ y ∧ BndR bd (far - y) b') ∨ (y < 0 ∧ BndR bd (far + y) b')))))))
 )
def c_take (args : List AV) (hp : Tr (AO O)) (nx : Nat) (K : AV → Tr (AO O) → Nat → Prop) : Prop := match args with
  | [.ptr n 0, .int .i64 off, .int .i64 bd, .int .i64 t] => match Nat.blt n 16777215, hp.get n with
    | true, some (.cells 50 [.int .i64 s, .int .i64 p, .int .i64 w, .int .i64 r, .int .i64 st, .int .i64 q, .int .i64 l, .int .i64 b] 8) =>
      must (dInv s p w r st q l b) (∀ k y v e st' q' l' b', TakeR s p w st q l b off bd t k y v e st' q' l' b' → K (.tup [.agg [.int .i64 k, .int .i64 y, .int .i64 v], .int .i64 e]) (hp.set n (some (dO s p w r st' q' l' b'))) nx)
    | _, _ => False
  | _ => False
def BoundR (r st l b now n e : Int) : Prop := (st = 0 ∧ n = 0 ∧ e = 15) ∨ (st = 2 ∧ n = 0 ∧ e = 17) ∨ (st = 1 ∧ now < l ∧ n = 0 ∧ e = 14) ∨ (st = 1 ∧ l ≤ now ∧ 9223372036854775807 < now - l ∧ n = 0 ∧ e = 6) ∨
  (st = 1 ∧ l ≤ now ∧ now - l ≤ 9223372036854775807 ∧ n = b + gro (now - l) r ∧ e = 0)
def c_bound (args : List AV) (hp : Tr (AO O)) (nx : Nat) (K : AV → Tr (AO O) → Nat → Prop) : Prop := match args with
  | [.ptr n 0, .int .i64 t] => match Nat.blt n 16777215, hp.get n with
    | true, some (.cells 50 [.int .i64 s, .int .i64 p, .int .i64 w, .int .i64 r, .int .i64 st, .int .i64 q, .int .i64 l, .int .i64 b] 8) =>
      must (dInv s p w r st q l b) (∀ m e, BoundR r st l b t m e → K (.tup [.int .i64 m, .int .i64 e]) hp nx)
    | _, _ => False
  | _ => False
noncomputable abbrev G0 : List (FuncId × Sp O) :=
  (17, .p c_within) ::
  (19, .p c_dsize) ::
  (27, .h c_dsince) ::
  (20, .h c_slewed) ::
  (21, .h c_faster) ::
  (13, .h c_state) ::
  (14, .h c_rate) ::
  (16, .h c_restart) ::
  F6
noncomputable abbrev G1 : List (FuncId × Sp O) :=
  (10, .h c_dnew) ::
  (18, .h c_dmay) ::
  (15, .h c_bound) ::
  G0
noncomputable abbrev G2 : List (FuncId × Sp O) :=
  (11, .h c_take) ::
  G1
end Go.Tb.W
