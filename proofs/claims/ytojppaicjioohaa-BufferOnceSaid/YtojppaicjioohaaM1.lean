/- Abstract values, abstract heaps, and what it is that a world holds an abstract heap. -/
import Derived.Tactics
import Derived.Orders
import Derived.Laws.Entries
import Derived.Laws.World
import Derived.KernelRfl
set_option linter.all false
namespace Go.Tb
open Go

/-! ### A table by numbers -/
inductive Tr (α : Type) where
  | leaf
  | node (l : Tr α) (v : Option α) (r : Tr α)

namespace Tr
variable {α : Type}
def left : Tr α → Tr α | .leaf => .leaf | .node l _ _ => l
def right : Tr α → Tr α | .leaf => .leaf | .node _ _ r => r
def val : Tr α → Option α | .leaf => none | .node _ v _ => v
def get : Tr α → Nat → Option α
  | .leaf, _ => none
  | .node l v r, i => match i with
    | 0 => v
    | k + 1 => match Nat.beq (Nat.mod k 2) 0 with
      | true => get l (Nat.div k 2)
      | false => get r (Nat.div k 2)
def setF : Nat → Tr α → Nat → Option α → Tr α
  | 0, t, _, _ => t
  | f + 1, t, i, x => match i with
    | 0 => .node t.left x t.right
    | k + 1 => match Nat.beq (Nat.mod k 2) 0 with
      | true => .node (setF f t.left (Nat.div k 2) x) t.val t.right
      | false => .node t.left t.val (setF f t.right (Nat.div k 2) x)
def set (t : Tr α) (i : Nat) (x : Option α) : Tr α := setF 24 t i x
theorem get_node (t : Tr α) (i : Nat) : t.get i = match i with
    | 0 => t.val
    | k + 1 => match Nat.beq (Nat.mod k 2) 0 with
      | true => t.left.get (Nat.div k 2)
      | false => t.right.get (Nat.div k 2) := by
  cases t with
  | leaf => cases i with
    | zero => rfl
    | succ k => simp only [get, left, right]; cases Nat.beq (Nat.mod k 2) 0 <;> rfl
  | node l v r => cases i <;> rfl
theorem half_ne {i j : Nat} (h : i + 1 ≠ j + 1) (hp : Nat.beq (Nat.mod i 2) 0 = Nat.beq (Nat.mod j 2) 0) : Nat.div i 2 ≠ Nat.div j 2 := by
  intro e
  have e' : i / 2 = j / 2 := e
  have hi : (Nat.beq (Nat.mod i 2) 0 = true) ↔ i % 2 = 0 := Nat.beq_eq ..|>.to_iff
  have hj : (Nat.beq (Nat.mod j 2) 0 = true) ↔ j % 2 = 0 := Nat.beq_eq ..|>.to_iff
  rw [hp] at hi
  have : i % 2 = 0 ↔ j % 2 = 0 := hi.symm.trans hj
  omega
theorem get_setF_ne (f : Nat) : ∀ (t : Tr α) (i j : Nat) (x : Option α), i ≠ j → (setF f t i x).get j = t.get j := by
  induction f with
  | zero => intros; rfl
  | succ f ih =>
    intro t i j x h
    rw [get_node t j]
    cases i with
    | zero =>
      cases j with
      | zero => exact absurd rfl h
      | succ j => simp only [setF, get]
    | succ i =>
      cases j with
      | zero => simp only [setF]; cases Nat.beq (Nat.mod i 2) 0 <;> rfl
      | succ j =>
        simp only [setF]
        cases hi : Nat.beq (Nat.mod i 2) 0 <;> cases hj : Nat.beq (Nat.mod j 2) 0 <;> simp only [get, hj] <;>
          exact ih _ _ _ _ (half_ne h (by rw [hi, hj]))
theorem get_setF_eq (f : Nat) : ∀ (t : Tr α) (i : Nat) (x : Option α), i + 1 < 2 ^ f → (setF f t i x).get i = x := by
  induction f with
  | zero => intro t i x h; simp at h
  | succ f ih =>
    intro t i x h
    cases i with
    | zero => rfl
    | succ i =>
      have hd : Nat.div i 2 = i / 2 := rfl
      have : i / 2 + 1 < 2 ^ f := by rw [Nat.pow_succ] at h; omega
      simp only [setF]
      cases hi : Nat.beq (Nat.mod i 2) 0 <;> simp only [get, hi] <;> exact ih _ _ _ (by rw [hd]; exact this)
theorem get_set_ne {t : Tr α} {i j : Nat} {x : Option α} (h : i ≠ j) : (t.set i x).get j = t.get j := get_setF_ne 24 t i j x h
theorem get_set_eq {t : Tr α} {i : Nat} {x : Option α} (h : Nat.blt i 16777215 = true) : (t.set i x).get i = x := by
  refine get_setF_eq 24 t i x ?_
  have : i ≤ 16777214 := by simpa [Nat.blt] using h
  omega
/-- out of a list, the first at 'i'. -/
def ofList : Nat → List α → Tr α → Tr α
  | _, [], t => t
  | i, x :: l, t => ofList (i + 1) l (t.set i (some x))
end Tr

/-! ### Values -/
inductive AV where
  | bool (b : Bool)
  | int (k : IntKind) (n : Int)
  | str (s : ByteArray)
  | ptr (n o : Nat)
  | ep (n o z i j : Nat)
  | nilp
  | sl (n o l c : Nat)
  | nils
  | map (n : Nat)
  | nilm
  | chan (n : Nat)
  | nilc
  | sd (n z lo l c k : Nat)
  | slq (n l c : Nat) (q : Bool)
  | chanP (n b : Nat)
  | mapP (n b : Nat)
  | pv (q z l c : Nat)
  | fn (f : Fn) (a b : List AV)
  | nilf
  | iface (t : TypeId) (v : AV)
  | nili
  | agg (l : List AV)
  | tup (l : List AV)
  deriving Inhabited

/-- The least and the greatest number of a kind. -/
def loK : IntKind → Int
  | .i8 => -128 | .i16 => -32768 | .i32 => -2147483648 | .i64 => -9223372036854775808
  | .u8 | .u16 | .u32 | .u64 => 0
def hiK : IntKind → Int
  | .i8 => 127 | .i16 => 32767 | .i32 => 2147483647 | .i64 => 9223372036854775807
  | .u8 => 255 | .u16 => 65535 | .u32 => 4294967295 | .u64 => 18446744073709551615
def inK (k : IntKind) (n : Int) : Bool := decide (loK k ≤ n) && decide (n ≤ hiK k)
theorem inK_iff {k : IntKind} {n : Int} : inK k n = true ↔ loK k ≤ n ∧ n ≤ hiK k := by simp [inK]
theorem inK_wrap (k : IntKind) (n : Int) : inK k (k.wrap n) = true := by
  rw [inK_iff]
  cases k <;> simp only [loK, hiK, IntKind.wrap, IntKind.bits, IntKind.signed] <;> simp <;> first | omega | (split <;> omega)
theorem inK_tmod {k : IntKind} {a b : Int} (h : inK k a = true) : inK k (a.tmod b) = true := by
  rw [inK_iff] at *
  have h0 : loK k ≤ 0 ∧ 0 ≤ hiK k := by cases k <;> simp [loK, hiK]
  rcases Int.le_total 0 a with ha | ha
  · have h1 := Int.tmod_nonneg b ha
    have h2 : a.tmod b ≤ a := by
      have := Int.natAbs_tmod a b
      have h3 : (a.tmod b).natAbs ≤ a.natAbs := by rw [this]; exact Nat.mod_le _ _
      omega
    omega
  · have h1 : a.tmod b ≤ 0 := by
      have := Int.tmod_nonneg b (a := -a) (by omega)
      rw [Int.neg_tmod] at this; omega
    have h2 : a ≤ a.tmod b := by
      have := Int.natAbs_tmod a b
      have h3 : (a.tmod b).natAbs ≤ a.natAbs := by rw [this]; exact Nat.mod_le _ _
      omega
    omega
theorem inK_fdiv {k : IntKind} {a : Int} (n : Nat) (h : inK k a = true) : inK k (a.fdiv (2 ^ n)) = true := by
  rw [inK_iff] at *
  have h0 : loK k ≤ 0 ∧ 0 ≤ hiK k := by cases k <;> simp [loK, hiK]
  have hp : (0 : Int) < 2 ^ n := Int.pow_pos (by omega)
  rw [Int.fdiv_eq_ediv_of_nonneg _ (by omega)]
  rcases Int.le_total 0 a with ha | ha
  · have h1 := Int.ediv_nonneg ha (Int.le_of_lt hp)
    have h2 := Int.ediv_le_self (2 ^ n) ha
    omega
  · have h1 : a / 2 ^ n ≤ 0 := by
      have := Int.ediv_le_ediv hp ha
      simpa using this
    have h2 : a ≤ a / 2 ^ n := by
      have := (Int.le_ediv_iff_mul_le hp (a := a) (b := a)).2 (by
        have := Int.mul_le_mul_of_nonpos_left ha (show (1 : Int) ≤ 2 ^ n by omega)
        simpa using this)
      exact this
    omega

/-- Where the names lie: block, and first cell. -/
abbrev Rho := Nat → Option (Nat × Nat)

mutual
inductive Den (ρ : Rho) : AV → Value → Prop
  | bool (b : Bool) : Den ρ (.bool b) (.bool b)
  | int (k : IntKind) (n : Int) (h : inK k n = true) : Den ρ (.int k n) (.int k n)
  | str (s : ByteArray) (h : s.size ≤ 9223372036854775807) : Den ρ (.str s) (.string s)
  | ptr {n b z : Nat} (o : Nat) (h : ρ n = some (b, z)) : Den ρ (.ptr n o) (.pointer (some ⟨b, z + o, none⟩))
  | ep {n b z : Nat} (o zz i j : Nat) (h : ρ n = some (b, z)) : Den ρ (.ep n o zz i j) (.pointer (some ⟨b, z + (o + i * zz + j), none⟩))
  | nilp : Den ρ .nilp (.pointer none)
  | sl {n b z : Nat} (o l c : Nat) (h : ρ n = some (b, z)) (hl : l ≤ c) (hc : c ≤ 9223372036854775807) : Den ρ (.sl n o l c) (.slice (some ⟨b, z + o, none⟩) l c)
  | nils : Den ρ .nils (.slice none 0 0)
  | map {n b z : Nat} (h : ρ n = some (b, z)) : Den ρ (.map n) (.map (some b))
  | nilm : Den ρ .nilm (.map none)
  | chan {n b z : Nat} (h : ρ n = some (b, z)) : Den ρ (.chan n) (.chan (some b))
  | nilc : Den ρ .nilc (.chan none)
  | sd {n b z : Nat} (zz lo l c k : Nat) (h : ρ n = some (b, z)) (hl : l ≤ c) (hc : c ≤ 9223372036854775807) (hk : c = 0 ∨ k = lo * zz) : Den ρ (.sd n zz lo l c k) (.slice (some ⟨b, z + k, none⟩) l c)
  | slq1 {n b z : Nat} (l c : Nat) (h : ρ n = some (b, z)) (hl : l ≤ c) (hc : c ≤ 9223372036854775807) : Den ρ (.slq n l c false) (.slice (some ⟨b, z, none⟩) l c)
  | slq0 (n : Nat) : Den ρ (.slq n 0 0 true) (.slice none 0 0)
  | chanP (n b : Nat) : Den ρ (.chanP n b) (.chan (some b))
  | mapP (n b : Nat) : Den ρ (.mapP n b) (.map (some b))
  | pv0 : Den ρ (.pv 0 0 0 0) (.slice none 0 0)
  | pv1 (b z l c : Nat) (hl : l ≤ c) (hc : c ≤ 9223372036854775807) : Den ρ (.pv (b + 1) z l c) (.slice (some ⟨b, z, none⟩) l c)
  | fn (f : Fn) {a b : List AV} {a' b' : List Value} (ha : Dens ρ a a') (hb : Dens ρ b b') : Den ρ (.fn f a b) (.func f a'.toArray b'.toArray)
  | nilf : Den ρ .nilf .nilFunc
  | iface (t : TypeId) {v : AV} {x : Value} (h : Den ρ v x) : Den ρ (.iface t v) (.iface t x)
  | nili : Den ρ .nili .nilIface
  | agg {l : List AV} {l' : List Value} (h : Dens ρ l l') : Den ρ (.agg l) (.agg l'.toArray)
  | tup {l : List AV} {l' : List Value} (h : Dens ρ l l') : Den ρ (.tup l) (.tuple l'.toArray)
inductive Dens (ρ : Rho) : List AV → List Value → Prop
  | nil : Dens ρ [] []
  | cons {v : AV} {x : Value} {l : List AV} {l' : List Value} (h : Den ρ v x) (t : Dens ρ l l') : Dens ρ (v :: l) (x :: l')
end

def Ext (ρ ρ' : Rho) : Prop := ∀ n p, ρ n = some p → ρ' n = some p
theorem Ext.refl (ρ : Rho) : Ext ρ ρ := fun _ _ h => h
theorem Ext.trans {a b c : Rho} (h : Ext a b) (k : Ext b c) : Ext a c := fun n p hp => k n p (h n p hp)

mutual
theorem Den.mono {ρ ρ' : Rho} (e : Ext ρ ρ') {v : AV} {x : Value} (h : Den ρ v x) : Den ρ' v x := by
  cases h with
  | bool b => exact .bool b
  | int k n h => exact .int k n h
  | str s h => exact .str s h
  | ptr o h => exact .ptr o (e _ _ h)
  | ep o zz i j h => exact .ep o zz i j (e _ _ h)
  | nilp => exact .nilp
  | sl o l c h hl hc => exact .sl o l c (e _ _ h) hl hc
  | nils => exact .nils
  | map h => exact .map (e _ _ h)
  | nilm => exact .nilm
  | chan h => exact .chan (e _ _ h)
  | nilc => exact .nilc
  | sd zz lo l c k h hl hc hk => exact .sd zz lo l c k (e _ _ h) hl hc hk
  | slq1 l c h hl hc => exact .slq1 l c (e _ _ h) hl hc
  | slq0 n => exact .slq0 n
  | chanP n b => exact .chanP n b
  | mapP n b => exact .mapP n b
  | pv0 => exact .pv0
  | pv1 b z l c hl hc => exact .pv1 b z l c hl hc
  | fn f ha hb => exact .fn f (Dens.mono e ha) (Dens.mono e hb)
  | nilf => exact .nilf
  | iface t h => exact .iface t (Den.mono e h)
  | nili => exact .nili
  | agg h => exact .agg (Dens.mono e h)
  | tup h => exact .tup (Dens.mono e h)
theorem Dens.mono {ρ ρ' : Rho} (e : Ext ρ ρ') {l : List AV} {l' : List Value} (h : Dens ρ l l') : Dens ρ' l l' := by
  cases h with
  | nil => exact .nil
  | cons h t => exact .cons (Den.mono e h) (Dens.mono e t)
end

mutual
theorem Den.det {ρ : Rho} {v : AV} {x y : Value} (h : Den ρ v x) (k : Den ρ v y) : x = y := by
  cases h with
  | bool b => cases k; rfl
  | int k n _ => cases k; rfl
  | str s _ => cases k; rfl
  | ptr o h => cases k with | ptr _ k => rw [h] at k; cases k; rfl
  | ep o zz i j h => cases k with | ep _ _ _ _ k => rw [h] at k; cases k; rfl
  | nilp => cases k; rfl
  | sl o l c h _ _ => cases k with | sl _ _ _ k _ _ => rw [h] at k; cases k; rfl
  | nils => cases k; rfl
  | map h => cases k with | map k => rw [h] at k; cases k; rfl
  | nilm => cases k; rfl
  | chan h => cases k with | chan k => rw [h] at k; cases k; rfl
  | nilc => cases k; rfl
  | sd zz lo l c q h _ _ _ => cases k with | sd _ _ _ _ _ k _ _ _ => rw [h] at k; cases k; rfl
  | slq1 l c h _ _ => cases k with | slq1 _ _ k _ _ => rw [h] at k; cases k; rfl
  | slq0 n => cases k; rfl
  | chanP n b => cases k; rfl
  | mapP n b => cases k; rfl
  | pv0 => cases k; rfl
  | pv1 b z l c hl hc => cases k; rfl
  | fn f ha hb => cases k with | fn _ ka kb => rw [Dens.det ha ka, Dens.det hb kb]
  | nilf => cases k; rfl
  | iface t h => cases k with | iface _ k => rw [Den.det h k]
  | nili => cases k; rfl
  | agg h => cases k with | agg k => rw [Dens.det h k]
  | tup h => cases k with | tup k => rw [Dens.det h k]
theorem Dens.det {ρ : Rho} {l : List AV} {x y : List Value} (h : Dens ρ l x) (k : Dens ρ l y) : x = y := by
  cases h with
  | nil => cases k; rfl
  | cons h t => cases k with | cons k u => rw [Den.det h k, Dens.det t u]
end

theorem Dens.length {ρ : Rho} {l : List AV} {l' : List Value} (h : Dens ρ l l') : l.length = l'.length := by
  induction l generalizing l' with
  | nil => cases h; rfl
  | cons v l ih => cases h with | cons h t => simp [ih t]
theorem Dens.get {ρ : Rho} {l : List AV} {l' : List Value} (h : Dens ρ l l') {i : Nat} {v : AV} (hv : l[i]? = some v) : ∃ x, l'[i]? = some x ∧ Den ρ v x := by
  induction l generalizing l' i with
  | nil => simp at hv
  | cons u l ih =>
    cases h with
    | cons h t =>
      cases i with
      | zero => simp at hv; subst hv; exact ⟨_, rfl, h⟩
      | succ i => simp at hv; simpa using ih t hv
theorem Dens.get' {ρ : Rho} {l : List AV} {l' : List Value} (h : Dens ρ l l') {i : Nat} {x : Value} (hx : l'[i]? = some x) : ∃ v, l[i]? = some v ∧ Den ρ v x := by
  induction l generalizing l' i with
  | nil => cases h; simp at hx
  | cons u l ih =>
    cases h with
    | cons h t =>
      cases i with
      | zero => simp at hx; subst hx; exact ⟨_, rfl, h⟩
      | succ i => simp at hx; simpa using ih t hx
theorem Dens.of {ρ : Rho} : ∀ {l : List AV} {l' : List Value}, l.length = l'.length → (∀ (i : Nat) (v : AV), l[i]? = some v → ∃ x, l'[i]? = some x ∧ Den ρ v x) → Dens ρ l l'
  | [], [], _, _ => .nil
  | [], _ :: _, h, _ => by simp at h
  | _ :: _, [], h, _ => by simp at h
  | v :: l, x :: l', h, hg => by
    refine .cons ?_ (Dens.of (by simpa using h) fun i u hu => by simpa using hg (i + 1) u (by simpa using hu))
    obtain ⟨y, hy, hd⟩ := hg 0 v rfl
    simp at hy; subst hy; exact hd
theorem Dens.append {ρ : Rho} {a b : List AV} {a' b' : List Value} (h : Dens ρ a a') (k : Dens ρ b b') : Dens ρ (a ++ b) (a' ++ b') := by
  induction a generalizing a' with
  | nil => cases h; exact k
  | cons v a ih => cases h with | cons h t => exact .cons h (ih t)
theorem Dens.take {ρ : Rho} {a : List AV} {a' : List Value} (h : Dens ρ a a') (n : Nat) : Dens ρ (a.take n) (a'.take n) := by
  induction a generalizing a' n with
  | nil => cases h; simp; exact .nil
  | cons v a ih => cases h with | cons h t => cases n with
    | zero => exact .nil
    | succ n => exact .cons h (ih t n)
theorem Dens.drop {ρ : Rho} {a : List AV} {a' : List Value} (h : Dens ρ a a') (n : Nat) : Dens ρ (a.drop n) (a'.drop n) := by
  induction a generalizing a' n with
  | nil => cases h; simp; exact .nil
  | cons v a ih => cases h with | cons h t => cases n with
    | zero => exact .cons h t
    | succ n => simpa using ih t n
theorem Dens.set {ρ : Rho} {a : List AV} {a' : List Value} (h : Dens ρ a a') (n : Nat) {v : AV} {x : Value} (hv : Den ρ v x) : Dens ρ (a.set n v) (a'.set n x) := by
  induction a generalizing a' n with
  | nil => cases h; exact .nil
  | cons v a ih => cases h with | cons h t => cases n with
    | zero => exact .cons hv t
    | succ n => exact .cons h (ih t n)

/-- Constants. -/
def toAV : Value → Option AV
  | .bool b => some (.bool b)
  | .int k n => match inK k n with | true => some (.int k n) | false => none
  | .string s => match Nat.ble s.size 9223372036854775807 with | true => some (.str s) | false => none
  | .pointer none => some .nilp
  | .slice none 0 0 => some .nils
  | .map none => some .nilm
  | .chan none => some .nilc
  | .nilFunc => some .nilf
  | .nilIface => some .nili
  | _ => none
def toAVs : List Value → Option (List AV)
  | [] => some []
  | v :: l => match toAV v, toAVs l with
    | some a, some r => some (a :: r)
    | _, _ => none
def toAVA (v : Value) : Option AV := match v with
  | .agg cs => match toAVs cs.toList with | some l => some (.agg l) | none => none
  | v => toAV v
theorem toAV_den {v : Value} {a : AV} (h : toAV v = some a) (ρ : Rho) : Den ρ a v := by
  unfold toAV at h
  split at h
  · cases h; exact .bool _
  · split at h
    · cases h; exact .int _ _ (by assumption)
    · cases h
  · split at h
    · cases h; exact .str _ (Nat.le_of_ble_eq_true (by assumption))
    · cases h
  all_goals (cases h <;> first | exact .nilp | exact .nils | exact .nilm | exact .nilc | exact .nilf | exact .nili)
theorem toAVs_den : ∀ {l : List Value} {r : List AV}, toAVs l = some r → ∀ ρ : Rho, Dens ρ r l
  | [], r, h, ρ => by simp [toAVs] at h; subst h; exact .nil
  | v :: l, r, h, ρ => by
    simp only [toAVs] at h
    split at h
    · rename_i a r' ha hr
      simp at h; subst h
      exact .cons (toAV_den ha ρ) (toAVs_den hr ρ)
    · cases h
theorem toAVA_den {v : Value} {a : AV} (h : toAVA v = some a) (ρ : Rho) : Den ρ a v := by
  unfold toAVA at h
  split at h
  · rename_i cs
    split at h
    · rename_i l hl
      simp at h; subst h
      have := Den.agg (toAVs_den hl ρ)
      simpa using this
    · cases h
  · exact toAV_den h ρ

/-! ### Rows of plain data, of whatever length -/
structure Rw where
  i : Nat → Int
  b : Nat → Bool
  s : Nat → ByteArray
  p : Nat → Nat → Nat := fun _ _ => 0
inductive Sh where
  | i (k : IntKind) | b | s | v
def encS (x : Rw) (j : Nat) : Sh → AV
  | .i k => .int k (x.i j)
  | .b => .bool (x.b j)
  | .s => .str (x.s j)
  | .v => .pv (x.p j 0) (x.p j 1) (x.p j 2) (x.p j 3)
def encR (x : Rw) : Nat → List Sh → List AV
  | _, [] => []
  | j, h :: r => encS x j h :: encR x (j + 1) r
theorem encR_length (x : Rw) : ∀ (sh : List Sh) (j : Nat), (encR x j sh).length = sh.length
  | [], _ => rfl
  | h :: r, j => by simp [encR, encR_length x r]
theorem encR_get (x : Rw) : ∀ (sh : List Sh) (j k : Nat), (encR x j sh)[k]? = (sh[k]?).map (encS x (j + k))
  | [], _, _ => by simp [encR]
  | h :: r, j, 0 => by simp [encR]
  | h :: r, j, k + 1 => by
    simp only [encR, List.getElem?_cons_succ, encR_get x r]
    rw [show j + 1 + k = j + (k + 1) by omega]
def encL (sh : List Sh) (xs : List Rw) : List AV := xs.flatMap fun x => encR x 0 sh
theorem encL_length (sh : List Sh) (xs : List Rw) : (encL sh xs).length = xs.length * sh.length := by
  induction xs with
  | nil => simp [encL]
  | cons x xs ih =>
    simp only [encL, List.flatMap_cons, List.length_append, encR_length, List.length_cons] at ih ⊢
    rw [ih, Nat.add_mul, Nat.one_mul, Nat.add_comm]
theorem encL_get {sh : List Sh} : ∀ {xs : List Rw} {i : Nat} {x : Rw}, xs[i]? = some x → ∀ {j : Nat}, j < sh.length → (encL sh xs)[i * sh.length + j]? = (encR x 0 sh)[j]?
  | [], i, x, h, j, hj => by simp at h
  | y :: xs, 0, x, h, j, hj => by
    simp at h; subst h
    simp only [encL, List.flatMap_cons, Nat.zero_mul, Nat.zero_add]
    rw [List.getElem?_append_left (by rw [encR_length]; exact hj)]
  | y :: xs, i + 1, x, h, j, hj => by
    have ih := encL_get (sh := sh) (xs := xs) (i := i) (x := x) (by simpa using h) hj
    simp only [encL, List.flatMap_cons] at ih ⊢
    rw [List.getElem?_append_right (by rw [encR_length, Nat.add_mul]; omega), encR_length]
    rw [show (i + 1) * sh.length + j - sh.length = i * sh.length + j by rw [Nat.add_mul]; omega]
    exact ih

/-! ### Maps of plain data: an entry is a row, the key first -/
structure MSh where
  kt : Sh
  vs : List Sh
  agg : Bool
def pvV : Nat → Nat → Nat → Nat → Value
  | 0, _, _, _ => .slice none 0 0
  | b + 1, z, l, c => .slice (some ⟨b, z, none⟩) l c
def vS (x : Rw) (j : Nat) : Sh → Value
  | .i k => .int k (x.i j)
  | .b => .bool (x.b j)
  | .s => .string (x.s j)
  | .v => pvV (x.p j 0) (x.p j 1) (x.p j 2) (x.p j 3)
def okP : Nat → Nat → Nat → Nat → Bool
  | 0, z, l, c => Nat.beq z 0 && (Nat.beq l 0 && Nat.beq c 0)
  | _ + 1, _, l, c => Nat.ble l c && Nat.ble c 9223372036854775807
def okS (x : Rw) (j : Nat) : Sh → Bool
  | .i k => inK k (x.i j)
  | .b => true
  | .s => Nat.ble (x.s j).size 9223372036854775807
  | .v => okP (x.p j 0) (x.p j 1) (x.p j 2) (x.p j 3)
theorem den_pv {q z l c : Nat} {ρ : Rho} {v : Value} (h : Den ρ (.pv q z l c) v) : okP q z l c = true ∧ v = pvV q z l c := by
  cases h with
  | pv0 => exact ⟨rfl, rfl⟩
  | pv1 b z l c hl hc => exact ⟨by simp only [okP, Bool.and_eq_true, Nat.ble_eq]; exact ⟨hl, hc⟩, rfl⟩
theorem pv_den {q z l c : Nat} (ρ : Rho) (h : okP q z l c = true) : Den ρ (.pv q z l c) (pvV q z l c) := by
  cases q with
  | zero =>
    simp only [okP, Bool.and_eq_true, Nat.beq_eq] at h
    obtain ⟨rfl, rfl, rfl⟩ := h
    exact .pv0
  | succ b =>
    simp only [okP, Bool.and_eq_true, Nat.ble_eq] at h
    exact .pv1 b z l c h.1 h.2
theorem vS_den {x : Rw} {j : Nat} {s : Sh} (h : okS x j s = true) (ρ : Rho) : Den ρ (encS x j s) (vS x j s) := by
  cases s with
  | i k => exact .int _ _ h
  | b => exact .bool _
  | s => exact .str _ (Nat.le_of_ble_eq_true h)
  | v => exact pv_den ρ h
theorem den_vS {x : Rw} {j : Nat} {s : Sh} {ρ : Rho} {v : Value} (h : Den ρ (encS x j s) v) : okS x j s = true ∧ v = vS x j s := by
  cases s with
  | i k => simp only [encS] at h; cases h; exact ⟨by assumption, rfl⟩
  | b => simp only [encS] at h; cases h; exact ⟨rfl, rfl⟩
  | s => simp only [encS] at h; cases h; exact ⟨by simpa [okS] using ‹_›, rfl⟩
  | v => exact den_pv h
def vR (x : Rw) : Nat → List Sh → List Value
  | _, [] => []
  | j, h :: r => vS x j h :: vR x (j + 1) r
def okR (x : Rw) : Nat → List Sh → Bool
  | _, [] => true
  | j, h :: r => okS x j h && okR x (j + 1) r
theorem vR_dens {x : Rw} (ρ : Rho) : ∀ {sh : List Sh} {j : Nat}, okR x j sh = true → Dens ρ (encR x j sh) (vR x j sh)
  | [], _, _ => .nil
  | s :: sh, j, h => by
    simp only [okR, Bool.and_eq_true] at h
    exact .cons (vS_den h.1 ρ) (vR_dens ρ h.2)
theorem dens_vR {x : Rw} {ρ : Rho} : ∀ {sh : List Sh} {j : Nat} {l : List Value}, Dens ρ (encR x j sh) l → okR x j sh = true ∧ l = vR x j sh
  | [], _, _, h => by cases h; exact ⟨rfl, rfl⟩
  | s :: sh, j, _, h => by
    cases h with | cons h t =>
    obtain ⟨h1, h2⟩ := den_vS h
    obtain ⟨t1, t2⟩ := dens_vR t
    exact ⟨by simp [okR, h1, t1], by simp [vR, h2, t2]⟩
def mkey (ms : MSh) (x : Rw) : AV := encS x 0 ms.kt
def mval (ms : MSh) (x : Rw) : AV := match ms.agg with
  | true => .agg (encR x 1 ms.vs)
  | false => match ms.vs with | [s] => encS x 1 s | _ => .tup []
def vkey (ms : MSh) (x : Rw) : Value := vS x 0 ms.kt
def vval (ms : MSh) (x : Rw) : Value := match ms.agg with
  | true => .agg (vR x 1 ms.vs).toArray
  | false => match ms.vs with | [s] => vS x 1 s | _ => .tuple #[]
def okE (ms : MSh) (x : Rw) : Bool := okS x 0 ms.kt && okR x 1 ms.vs
theorem mkey_den {ms : MSh} {x : Rw} (h : okE ms x = true) (ρ : Rho) : Den ρ (mkey ms x) (vkey ms x) := by
  simp only [okE, Bool.and_eq_true] at h; exact vS_den h.1 ρ
theorem mval_den {ms : MSh} {x : Rw} (h : okE ms x = true) (ρ : Rho) : Den ρ (mval ms x) (vval ms x) := by
  simp only [okE, Bool.and_eq_true] at h
  unfold mval vval
  split
  · exact .agg (vR_dens ρ h.2)
  · split
    · rename_i s hs
      rw [hs] at h; simp only [okR, Bool.and_true] at h
      exact vS_den h.2 ρ
    · exact .tup .nil
def mkE (ms : MSh) (e : Rw × Nat) : MapEntry := ⟨vkey ms e.1, vval ms e.1, e.2⟩
def MapRel (ms : MSh) (es : List (Rw × Nat)) (es' : List MapEntry) : Prop := es' = es.map (mkE ms) ∧ ∀ e ∈ es, okE ms e.1 = true

/-! ### Objects -/
/-- An entry of a map whose values are a channel of texts and the set of these. -/
structure Slot where
  k : Int
  cap : Nat
  line : List ByteArray
def slotSet (line : List ByteArray) : List MapEntry := line.zipIdx.map fun p => ⟨.string p.1, .bool true, p.2⟩
def SlotAt (w : World) (e : MapEntry) (s : Slot) (fp : List Nat) : Prop := ∃ c m s' r, e.key = .int .i64 s.k ∧ inK .i64 s.k = true ∧ e.val = .agg #[.chan (some c), .map (some m)] ∧ fp = [c, m] ∧
  w.heap[c]? = some (.chan s.cap (s.line.map Value.string).toArray false s' r false) ∧ w.heap[m]? = some (.map (slotSet s.line).toArray s.line.length) ∧ ∀ t ∈ s.line, t.size ≤ 9223372036854775807
def SlotsAt (w : World) : List MapEntry → List Slot → List Nat → Prop
  | [], [], fp => fp = []
  | e :: es, s :: ss, fp => ∃ f g, SlotAt w e s f ∧ SlotsAt w es ss g ∧ fp = f ++ g
  | _, _, _ => False
def ekey (e : MapEntry) : Int := match e.key with | .int _ n => n | _ => 0
def FocAt (ρ : Rho) : Option (Int × AV) → List MapEntry → Prop
  | none, l => l = []
  | some (k, v), l => ∃ x bn, l = [⟨.int .i64 k, x, bn⟩] ∧ inK .i64 k = true ∧ Den ρ v x
theorem SlotAt.mono {w w' : World} {e : MapEntry} {s : Slot} {fp : List Nat} (h : SlotAt w e s fp) (hw : ∀ x, x ∈ fp → w'.heap[x]? = w.heap[x]?) : SlotAt w' e s fp := by
  obtain ⟨c, m, s', r, h1, h2, h3, rfl, h5, h6, h7⟩ := h
  exact ⟨c, m, s', r, h1, h2, h3, rfl, (hw c (by simp)).trans h5, (hw m (by simp)).trans h6, h7⟩
theorem SlotsAt.mono {w w' : World} : ∀ {es : List MapEntry} {ss : List Slot} {fp : List Nat}, SlotsAt w es ss fp → (∀ x, x ∈ fp → w'.heap[x]? = w.heap[x]?) → SlotsAt w' es ss fp
  | [], [], fp, h, _ => h
  | e :: es, s :: ss, fp, h, hw => by
    obtain ⟨f, g, h1, h2, rfl⟩ := h
    exact ⟨f, g, h1.mono (fun x hx => hw x (List.mem_append_left _ hx)), SlotsAt.mono h2 (fun x hx => hw x (List.mem_append_right _ hx)), rfl⟩
  | [], _ :: _, _, h, _ => h.elim
  | _ :: _, [], _, h, _ => h.elim
theorem SlotsAt.lt {w : World} : ∀ {es : List MapEntry} {ss : List Slot} {fp : List Nat}, SlotsAt w es ss fp → ∀ x, x ∈ fp → x < w.heap.size
  | [], [], fp, h, x, hx => by rw [show fp = [] from h] at hx; simp at hx
  | e :: es, s :: ss, fp, h, x, hx => by
    obtain ⟨f, g, ⟨c, m, s', r, h1, h2, h3, rfl, h5, h6, h7⟩, h2, rfl⟩ := h
    rcases List.mem_append.1 hx with hx | hx
    · simp at hx
      rcases hx with rfl | rfl
      · exact (Array.getElem?_eq_some_iff.1 h5).1
      · exact (Array.getElem?_eq_some_iff.1 h6).1
    · exact SlotsAt.lt h2 x hx
  | [], _ :: _, _, h, _, _ => h.elim
  | _ :: _, [], _, h, _, _ => h.elim
theorem FocAt.mono {ρ ρ' : Rho} (e : Ext ρ ρ') {foc : Option (Int × AV)} {l : List MapEntry} (h : FocAt ρ foc l) : FocAt ρ' foc l := by
  cases foc with
  | none => exact h
  | some p => obtain ⟨x, bn, h1, h2, h3⟩ := h; exact ⟨x, bn, h1, h2, h3.mono e⟩
/-- Slices that lie in a map: of each block whether it is held, where these begin, and what lies there, and the room. -/
structure Pe where
  on : Bool
  z : Nat
  xs : List Rw
  cap : Nat
def Pe.off : Pe := ⟨false, 0, [], 0⟩
def pset (f : Nat → Pe) (b : Nat) (e : Pe) : Nat → Pe := fun x => match Nat.beq x b with | true => e | false => f x
inductive AO (O : Type) where
  | cells (t : TypeId) (l : List AV) (room : Nat)
  | rows (t : TypeId) (sh : List Sh) (xs : List Rw) (room : Nat)
  | out (ob : Obj) (sh : List Sh) (xs : List Rw)
  | mp (ms : MSh) (es : List (Rw × Nat)) (clk : Nat)
  | it (m since : Nat) (seen : List Nat) (last : Nat) (cur : Option (Rw × Nat))
  | itn
  | kb (t : TypeId) (v : AV)
  | pm (hid : List Slot) (foc : Option (Int × AV))
  | ch (cap : Nat) (sh : Sh) (xs : List Rw)
  | own (s : O)
  | pg (t : TypeId) (f : Nat → Pe)
  | gone

/-- What a layer's own object is: blocks and what lies there. -/
structure Interp (O : Type) where
  R : O → Nat × Nat → List Nat → World → Prop
  loc : ∀ s b fp w w', (∀ x, x ∈ fp → w'.heap[x]? = w.heap[x]?) → R s b fp w → R s b fp w'
  lt : ∀ s b fp w, R s b fp w → ∀ x, x ∈ fp → x < w.heap.size
  fz : Nat → Option Obj

variable {O : Type}

/-- Some cells, from z on. -/
def CellsAt (ρ : Rho) (z : Nat) (l : List AV) (arr : Array Value) : Prop := ∀ (i : Nat) (v : AV), l[i]? = some v → ∃ x, arr[z + i]? = some x ∧ Den ρ v x

def okO (I : Interp O) (ρ : Rho) (n : Nat) (fp : List Nat) (w : World) : AO O → Prop
  | .cells t l room => ∃ b z arr, ρ n = some (b, z) ∧ fp = [b] ∧ w.heap[b]? = some (.cells arr t (0, 0)) ∧ z + room ≤ arr.size ∧ l.length ≤ room ∧ CellsAt ρ z l arr
  | .rows t sh xs room => ∃ b z arr, ρ n = some (b, z) ∧ fp = [b] ∧ w.heap[b]? = some (.cells arr t (0, 0)) ∧ z + room ≤ arr.size ∧ xs.length * sh.length ≤ room ∧ CellsAt ρ z (encL sh xs) arr
  | .out ob sh xs => ∃ b z arr t k, ρ n = some (b, z) ∧ fp = [] ∧ (xs = [] ∨ (I.fz b = some ob ∧ w.heap[b]? = some ob)) ∧ ob = .cells arr t k ∧ CellsAt ρ z (encL sh xs) arr
  | .mp ms es clk => ∃ b es', ρ n = some (b, 0) ∧ fp = [b] ∧ w.heap[b]? = some (.map es' clk) ∧ MapRel ms es es'.toList
  | .it m since seen last cur => ∃ b bm zm, ρ n = some (b, 0) ∧ ρ m = some (bm, zm) ∧ fp = [b] ∧ w.heap[b]? = some (.mapIter (some bm) since seen.toArray last) ∧ ∀ e, cur = some e → seen.getLast? = some e.2
  | .itn => ∃ b, ρ n = some (b, 0) ∧ fp = [b] ∧ w.heap[b]? = some (.mapIter none 0 #[] 0)
  | .kb t v => ∃ b x, ρ n = some (b, 0) ∧ fp = [b] ∧ w.heap[b]? = some (.cells #[x] t (0, 0)) ∧ Den ρ v x
  | .pm hid foc => ∃ b es clk esF esH fpH, ρ n = some (b, 0) ∧ fp = b :: fpH ∧ fp.Nodup ∧ w.heap[b]? = some (.map es clk) ∧ es.toList.Perm (esF ++ esH) ∧ FocAt ρ foc esF ∧ SlotsAt w esH hid fpH ∧
      (es.toList.map ekey).Nodup ∧ es.toList.Pairwise (fun x y => x.born ≠ y.born) ∧ ∀ e ∈ es.toList, e.born < clk
  | .ch cap sh xs => ∃ b buf' s r, ρ n = some (b, 0) ∧ fp = [b] ∧ w.heap[b]? = some (.chan cap buf' false s r false) ∧ buf'.toList = xs.map (fun x => vS x 0 sh) ∧ ∀ x ∈ xs, okS x 0 sh = true
  | .own s => ∃ b, ρ n = some b ∧ I.R s b fp w
  | .pg t f => (∀ x, x ∈ fp ↔ (f x).on = true) ∧ ∀ x, x ∈ fp → ∃ arr, w.heap[x]? = some (.cells arr t (0, 0)) ∧ (f x).z + (f x).cap ≤ arr.size ∧ (f x).xs.length ≤ (f x).cap ∧ CellsAt ρ (f x).z (encL [.s] (f x).xs) arr
  | .gone => fp = []

theorem CellsAt.mono {ρ ρ' : Rho} (e : Ext ρ ρ') {z : Nat} {l : List AV} {arr : Array Value} (h : CellsAt ρ z l arr) : CellsAt ρ' z l arr :=
  fun i v hv => let ⟨x, hx, hd⟩ := h i v hv; ⟨x, hx, hd.mono e⟩

theorem okO.mono {I : Interp O} {ρ ρ' : Rho} (e : Ext ρ ρ') {n : Nat} {fp : List Nat} {w w' : World} {o : AO O} (h : okO I ρ n fp w o) (hf : ∀ b ob, I.fz b = some ob → w.heap[b]? = some ob → w'.heap[b]? = some ob) (hw : ∀ x, x ∈ fp → w'.heap[x]? = w.heap[x]?) : okO I ρ' n fp w' o := by
  cases o with
  | cells t l room =>
    obtain ⟨b, z, arr, h1, h2, h3, h4, h5, h6⟩ := h
    exact ⟨b, z, arr, e _ _ h1, h2, (hw b (by simp [h2])).trans h3, h4, h5, h6.mono e⟩
  | rows t sh xs room =>
    obtain ⟨b, z, arr, h1, h2, h3, h4, h5, h6⟩ := h
    exact ⟨b, z, arr, e _ _ h1, h2, (hw b (by simp [h2])).trans h3, h4, h5, h6.mono e⟩
  | out ob sh xs =>
    obtain ⟨b, z, arr, t, k, h1, h2, h3, h4, h6⟩ := h
    exact ⟨b, z, arr, t, k, e _ _ h1, h2, h3.imp id (fun h3 => ⟨h3.1, hf _ _ h3.1 h3.2⟩), h4, h6.mono e⟩
  | mp ms es clk =>
    obtain ⟨b, es', h1, h2, h3, h4⟩ := h
    exact ⟨b, es', e _ _ h1, h2, (hw b (by simp [h2])).trans h3, h4⟩
  | it m since seen last cur =>
    obtain ⟨b, bm, zm, h1, h2, h3, h4, h5⟩ := h
    exact ⟨b, bm, zm, e _ _ h1, e _ _ h2, h3, (hw b (by simp [h3])).trans h4, h5⟩
  | itn =>
    obtain ⟨b, h1, h2, h3⟩ := h
    exact ⟨b, e _ _ h1, h2, (hw b (by simp [h2])).trans h3⟩
  | kb t v =>
    obtain ⟨b, x, h1, h2, h3, h4⟩ := h
    exact ⟨b, x, e _ _ h1, h2, (hw b (by simp [h2])).trans h3, h4.mono e⟩
  | pm hid foc =>
    obtain ⟨b, es, clk, esF, esH, fpH, h1, h2, h3, h4, h5, h6, h7, h8⟩ := h
    exact ⟨b, es, clk, esF, esH, fpH, e _ _ h1, h2, h3, (hw b (by simp [h2])).trans h4, h5, h6.mono e, h7.mono (fun x hx => hw x (by simp [h2, hx])), h8⟩
  | ch cap sh xs =>
    obtain ⟨b, buf', s, r, h1, h2, h3, h4⟩ := h
    exact ⟨b, buf', s, r, e _ _ h1, h2, (hw b (by simp [h2])).trans h3, h4⟩
  | own s => obtain ⟨b, h1, h2⟩ := h; exact ⟨b, e _ _ h1, I.loc _ _ _ _ _ hw h2⟩
  | pg t f => exact ⟨h.1, fun x hx => let ⟨arr, h1, h2, h3, h4⟩ := h.2 x hx; ⟨arr, (hw x hx).trans h1, h2, h3, h4.mono e⟩⟩
  | gone => exact h

theorem okO.lt {I : Interp O} {ρ : Rho} {n : Nat} {fp : List Nat} {w : World} {o : AO O} (h : okO I ρ n fp w o) : ∀ x, x ∈ fp → x < w.heap.size := by
  intro x hx
  have lt : ∀ {b : Nat} {o : Obj}, w.heap[b]? = some o → b < w.heap.size := fun h => (Array.getElem?_eq_some_iff.1 h).1
  cases o with
  | cells t l room => obtain ⟨b, z, arr, h1, h2, h3, _⟩ := h; rw [h2] at hx; simp at hx; subst hx; exact lt h3
  | rows t sh xs room => obtain ⟨b, z, arr, h1, h2, h3, _⟩ := h; rw [h2] at hx; simp at hx; subst hx; exact lt h3
  | out ob sh xs => obtain ⟨b, z, arr, t, k, h1, h2, h3, _⟩ := h; rw [h2] at hx; simp at hx
  | mp ms es clk => obtain ⟨b, es', h1, h2, h3, h4⟩ := h; rw [h2] at hx; simp at hx; subst hx; exact lt h3
  | it m since seen last cur => obtain ⟨b, bm, zm, h1, h2, h3, h4, h5⟩ := h; rw [h3] at hx; simp at hx; subst hx; exact lt h4
  | itn => obtain ⟨b, h1, h2, h3⟩ := h; rw [h2] at hx; simp at hx; subst hx; exact lt h3
  | kb t v => obtain ⟨b, x, h1, h2, h3, h4⟩ := h; rw [h2] at hx; simp at hx; subst hx; exact lt h3
  | pm hid foc =>
    obtain ⟨b, es, clk, esF, esH, fpH, h1, h2, h3, h4, h5, h6, h7, h8⟩ := h
    rw [h2] at hx
    rcases List.mem_cons.1 hx with rfl | hx
    · exact lt h4
    · exact h7.lt x hx
  | ch cap sh xs => obtain ⟨b, buf', s, r, h1, h2, h3, h4⟩ := h; rw [h2] at hx; simp at hx; subst hx; exact lt h3
  | own s => obtain ⟨b, h1, h2⟩ := h; exact I.lt _ _ _ _ h2 x hx
  | pg t f => obtain ⟨arr, h1, _⟩ := h.2 x hx; exact lt h1
  | gone => rw [h] at hx; simp at hx

/-- The world holds the abstract heap. -/
structure Sat (I : Interp O) (ρ : Rho) (fp : Nat → List Nat) (h : Tr (AO O)) (w : World) : Prop where
  ok : ∀ n o, h.get n = some o → okO I ρ n (fp n) w o
  dom : ∀ n, h.get n = none → ρ n = none ∧ fp n = []
  dis : ∀ n m b, b ∈ fp n → b ∈ fp m → n = m
  fz : ∀ b ob, I.fz b = some ob → w.heap[b]? = some ob ∧ ∀ n, b ∉ fp n

theorem Sat.lt {I : Interp O} {ρ : Rho} {fp : Nat → List Nat} {h : Tr (AO O)} {w : World} (s : Sat I ρ fp h w) {n b : Nat} (hb : b ∈ fp n) : b < w.heap.size := by
  cases hg : h.get n with
  | none => rw [(s.dom n hg).2] at hb; simp at hb
  | some o => exact (s.ok n o hg).lt b hb

/-- What has become of the world since (w0, owned: F0, names: ρ0). -/
structure Since (w0 : World) (F0 : Nat → Prop) (ρ0 : Rho) (ρ : Rho) (fp : Nat → List Nat) (w : World) : Prop where
  os : w.os = w0.os
  tape : w.tape = w0.tape
  output : w.output = w0.output
  size : w0.heap.size ≤ w.heap.size
  keep : ∀ b, b < w0.heap.size → ¬ F0 b → w.heap[b]? = w0.heap[b]?
  own : ∀ n b, b ∈ fp n → F0 b ∨ w0.heap.size ≤ b
  ext : Ext ρ0 ρ

theorem Since.refl (w : World) (ρ : Rho) (fp : Nat → List Nat) : Since w (fun b => ∃ n, b ∈ fp n) ρ ρ fp w :=
  ⟨rfl, rfl, rfl, Nat.le_refl _, fun _ _ _ => rfl, fun n b h => .inl ⟨n, h⟩, Ext.refl _⟩

theorem Since.trans {w0 w1 w2 : World} {F0 : Nat → Prop} {ρ0 ρ1 ρ2 : Rho} {fp1 fp2 : Nat → List Nat} (h : Since w0 F0 ρ0 ρ1 fp1 w1) (k : Since w1 (fun b => ∃ n, b ∈ fp1 n) ρ1 ρ2 fp2 w2) : Since w0 F0 ρ0 ρ2 fp2 w2 where
  os := k.os.trans h.os
  tape := k.tape.trans h.tape
  output := k.output.trans h.output
  size := Nat.le_trans h.size k.size
  keep := fun b hb hF => by
    refine (k.keep b (Nat.lt_of_lt_of_le hb h.size) ?_).trans (h.keep b hb hF)
    rintro ⟨n, hn⟩
    rcases h.own n b hn with h' | h'
    · exact hF h'
    · omega
  own := fun n b hb => by
    rcases k.own n b hb with ⟨m, hm⟩ | h'
    · exact h.own m b hm
    · exact .inr (Nat.le_trans h.size h')
  ext := h.ext.trans k.ext

/-- One object is changed in place (its blocks stay among its own), the other ones stay. -/
theorem Sat.update {I : Interp O} {ρ : Rho} {fp : Nat → List Nat} {h : Tr (AO O)} {w w' : World} (s : Sat I ρ fp h w) {n : Nat} (hn : Nat.blt n 16777215 = true) {o : AO O} (hd : h.get n ≠ none)
    (hw : ∀ b, b ∉ fp n → w'.heap[b]? = w.heap[b]?) (ho : okO I ρ n (fp n) w' o) : Sat I ρ fp (h.set n (some o)) w' where
  ok := fun m o' hm => by
    by_cases e : n = m
    · subst e; rw [Tr.get_set_eq hn] at hm; cases hm; exact ho
    · rw [Tr.get_set_ne e] at hm
      exact (s.ok m o' hm).mono (Ext.refl _) (fun b ob hb h => (hw b ((s.fz b ob hb).2 n)).trans h) (fun x hx => hw x (fun hx' => e (s.dis _ _ _ hx' hx)))
  dom := fun m hm => by
    by_cases e : n = m
    · subst e; rw [Tr.get_set_eq hn] at hm; cases hm
    · rw [Tr.get_set_ne e] at hm; exact s.dom m hm
  dis := s.dis
  fz := fun b ob hb => ⟨(hw b ((s.fz b ob hb).2 n)).trans (s.fz b ob hb).1, (s.fz b ob hb).2⟩

/-- A new object, with new blocks. -/
theorem Sat.new {I : Interp O} {ρ : Rho} {fp : Nat → List Nat} {h : Tr (AO O)} {w w' : World} (s : Sat I ρ fp h w) {n b z : Nat} {bs : List Nat} (hn : Nat.blt n 16777215 = true) {o : AO O} (hd : h.get n = none)
    (hw : ∀ x, x < w.heap.size → w'.heap[x]? = w.heap[x]?) (hbs : ∀ x, x ∈ bs → w.heap.size ≤ x)
    (ho : okO I (fun m => if m = n then some (b, z) else ρ m) n bs w' o) :
    Sat I (fun m => if m = n then some (b, z) else ρ m) (fun m => if m = n then bs else fp m) (h.set n (some o)) w' ∧ Ext ρ (fun m => if m = n then some (b, z) else ρ m) := by
  have hnone := (s.dom n hd)
  have e : Ext ρ (fun m => if m = n then some (b, z) else ρ m) := fun m p hp => by
    by_cases hmn : m = n
    · subst hmn; rw [hnone.1] at hp; cases hp
    · simp [hmn, hp]
  refine ⟨⟨fun m o' hm => ?_, fun m hm => ?_, fun m m' x hx hx' => ?_, fun b ob hb => ?_⟩, e⟩
  · by_cases hmn : m = n
    · subst hmn; rw [Tr.get_set_eq hn] at hm; cases hm; simpa using ho
    · rw [Tr.get_set_ne (Ne.symm hmn)] at hm
      have := (s.ok m o' hm).mono e (w' := w') (fun b ob hb h => (hw b (Array.getElem?_eq_some_iff.1 h).1).trans h) (fun x hx => hw x (s.lt hx))
      simpa [hmn] using this
  · by_cases hmn : m = n
    · subst hmn; rw [Tr.get_set_eq hn] at hm; cases hm
    · rw [Tr.get_set_ne (Ne.symm hmn)] at hm
      simpa [hmn] using s.dom m hm
  · by_cases h1 : m = n <;> by_cases h2 : m' = n
    · rw [h1, h2]
    · simp [h1, h2] at hx hx'; have := s.lt hx'; have := hbs x hx; omega
    · simp [h1, h2] at hx hx'; have := s.lt hx; have := hbs x hx'; omega
    · simp [h1, h2] at hx hx'; exact s.dis _ _ _ hx hx'
  · obtain ⟨f1, f2⟩ := s.fz b ob hb
    have hlt := (Array.getElem?_eq_some_iff.1 f1).1
    refine ⟨(hw b hlt).trans f1, fun m hm => ?_⟩
    by_cases hmn : m = n
    · simp [hmn] at hm; have := hbs b hm; omega
    · simp [hmn] at hm; exact f2 m hm

/-- The temporaries hold what is known of them. -/
def TmOk (ρ : Rho) (tm : Tr AV) (a : Array Value) : Prop := ∀ t v, tm.get t = some v → ∃ x, a[t]? = some x ∧ Den ρ v x
theorem TmOk.mono {ρ ρ' : Rho} (e : Ext ρ ρ') {tm : Tr AV} {a : Array Value} (h : TmOk ρ tm a) : TmOk ρ' tm a :=
  fun t v hv => let ⟨x, hx, hd⟩ := h t v hv; ⟨x, hx, hd.mono e⟩

/-- The abstract state: temporaries, heap, the next name. -/
structure St (O : Type) where
  tm : Tr AV
  hp : Tr (AO O)
  nx : Nat
  sz : Nat

/-- What the act and the world are when the abstract state is s. -/
structure Ctx where
  w0 : World
  F0 : Nat → Prop
  ρ0 : Rho
def Mt (I : Interp O) (c : Ctx) (s : St O) (a : Act) (w : World) : Prop :=
  a.defers = [] ∧ a.tmps.size = s.sz ∧ ∃ ρ fp, TmOk ρ s.tm a.tmps ∧ Sat I ρ fp s.hp w ∧ Since c.w0 c.F0 c.ρ0 ρ fp w

end Go.Tb
