/- Contracts: lists of them, and how one is proved over those before it. -/
import Derived.Test.YtojppaicjioohaaM9
set_option linter.all false
namespace Go.Tb
open Go
variable {O : Type} {P : Program} {I : Interp O}

/-! ### Ranges -/
mutual
def rg : AV → Bool
  | .int k n => inK k n
  | .str s => Nat.ble s.size 9223372036854775807
  | .sl _ _ l c => Nat.ble l c && Nat.ble c 9223372036854775807
  | .sd _ _ _ l c _ => Nat.ble l c && Nat.ble c 9223372036854775807
  | .slq _ l c _ => Nat.ble l c && Nat.ble c 9223372036854775807
  | .pv q z l c => okP q z l c
  | .fn _ a b => rgs a && rgs b
  | .iface _ v => rg v
  | .agg l => rgs l
  | .tup l => rgs l
  | _ => true
def rgs : List AV → Bool
  | [] => true
  | v :: l => rg v && rgs l
end
mutual
theorem rg_den {ρ : Rho} {v : AV} {x : Value} (h : Den ρ v x) : rg v = true := by
  cases h with
  | int k n h => simpa [rg] using h
  | str s h => simpa [rg] using h
  | sl o l c h hl hc => simp only [rg, Bool.and_eq_true, Nat.ble_eq]; exact ⟨hl, hc⟩
  | sd zz lo l c k h hl hc hk => simp only [rg, Bool.and_eq_true, Nat.ble_eq]; exact ⟨hl, hc⟩
  | slq1 l c h hl hc => simp only [rg, Bool.and_eq_true, Nat.ble_eq]; exact ⟨hl, hc⟩
  | slq0 n => rfl
  | pv0 => rfl
  | pv1 b z l c hl hc => simp only [rg, okP, Bool.and_eq_true, Nat.ble_eq]; exact ⟨hl, hc⟩
  | fn f ha hb => simp only [rg, Bool.and_eq_true]; exact ⟨rgs_den ha, rgs_den hb⟩
  | iface t h => simp only [rg]; exact rg_den h
  | agg h => simp only [rg]; exact rgs_den h
  | tup h => simp only [rg]; exact rgs_den h
  | _ => rfl
theorem rgs_den {ρ : Rho} {l : List AV} {l' : List Value} (h : Dens ρ l l') : rgs l = true := by
  cases h with
  | nil => rfl
  | cons h t => simp only [rgs, Bool.and_eq_true]; exact ⟨rg_den h, rgs_den t⟩
end

theorem ACall.mono {f : FuncId} {args : List AV} {hp : Tr (AO O)} {K K' : AV → Tr (AO O) → Prop} (h : ACall I P f args hp K) (hk : ∀ v hp', K v hp' → K' v hp') : ACall I P f args hp K' :=
  ⟨h.1, fun ρ fp w args' hs hd => (h.2 ρ fp w args' hs hd).mono fun e w' ⟨v, hp', ρ', fp', x, k, r⟩ => ⟨v, hp', ρ', fp', x, hk _ _ k, r⟩⟩
theorem ACall.of_rg {f : FuncId} {args : List AV} {hp : Tr (AO O)} {K : AV → Tr (AO O) → Prop} (h0 : ∀ as w, (callFunc f as).run P w = .ok (.enter f as) w) (h : rgs args = true → ACall I P f args hp K) : ACall I P f args hp K :=
  ⟨h0, fun ρ fp w args' hs hd => (h (rgs_den hd)).2 ρ fp w args' hs hd⟩
theorem ACall.and_true {f : FuncId} {args : List AV} {hp : Tr (AO O)} {K : AV → Prop} (h : ACall I P f args hp (fun v hp' => ∃ nx : Nat, K v)) : ACall I P f args hp (fun v _ => K v) := h.mono fun _ _ ⟨_, h⟩ => h

/-- A function that is handed no memory, by its body. -/
theorem pcall (hmix : P.follows .mixedOrders = true) {Γ : Gam O} (hΓ : GOk I P Γ) {f : FuncId} {fn : Func} (hf : P.funcs[f]? = some fn) (hname : (fn.name == "runtime.NumGoroutine") = false) (hb : fn.body.isSome = true)
    {args : List AV} {K : AV → Prop} (hn : Nat.blt args.length 16777215 = true) (ha : cls args = true)
    (h : rgs args = true → abody I P Γ (adraw P Γ) 0 fn args .leaf 0 (fun v _ _ => K v ∧ cl v = true)) (hp : Tr (AO O)) : ACall I P f args hp (fun v hp' => K v ∧ hp' = hp) :=
  ACall.of_rg (callable hf hname hb) fun hr => lift_pure (ACall.and_true (body_call hΓ (adraw_ok hmix hΓ) hf (callable hf hname hb) (fun n _ => rfl) hn (h hr))) ha hp

/-! ### Lists of contracts -/
inductive Sp (O : Type) where
  | p (s : List AV → (AV → Prop) → Prop)
  | h (s : List AV → Tr (AO O) → Nat → (AV → Tr (AO O) → Nat → Prop) → Prop)
def findS : List (FuncId × Sp O) → FuncId → Option (Sp O)
  | [], _ => none
  | (g, s) :: l, f => match Nat.beq g f with | true => some s | false => findS l f
def Gm (l : List (FuncId × Sp O)) : Gam O where
  q := fun f => match findS l f with | some (.p _) => true | _ => false
  p := fun f args K => match findS l f with | some (.p s) => s args K | _ => False
  h := fun f args hp nx K => match findS l f with | some (.h s) => s args hp nx K | _ => False
theorem Gm.nil : GOk I P (Gm ([] : List (FuncId × Sp O))) := ⟨fun _ _ _ h => h.elim, fun _ _ _ _ _ h => h.elim⟩
theorem Gm.consP {l : List (FuncId × Sp O)} (h : GOk I P (Gm l)) {f : FuncId} {s : List AV → (AV → Prop) → Prop} (hs : ∀ args K, s args K → ∀ hp, ACall I P f args hp (fun v hp' => K v ∧ hp' = hp)) : GOk I P (Gm ((f, .p s) :: l)) where
  p := fun g args K hg => by
    simp only [Gm, findS] at hg
    cases hb : Nat.beq f g with
    | true => rw [hb] at hg; have := Nat.eq_of_beq_eq_true hb; subst this; exact hs args K hg
    | false => rw [hb] at hg; exact h.p g args K hg
  h := fun g args hp nx K hg => by
    simp only [Gm, findS] at hg
    cases hb : Nat.beq f g with
    | true => rw [hb] at hg; exact hg.elim
    | false => rw [hb] at hg; exact h.h g args hp nx K hg
theorem Gm.consH {l : List (FuncId × Sp O)} (h : GOk I P (Gm l)) {f : FuncId} {s : List AV → Tr (AO O) → Nat → (AV → Tr (AO O) → Nat → Prop) → Prop}
    (hs : ∀ args hp nx K, s args hp nx K → ACall I P f args hp (fun v hp' => ∃ nx', K v hp' nx')) : GOk I P (Gm ((f, .h s) :: l)) where
  p := fun g args K hg => by
    simp only [Gm, findS] at hg
    cases hb : Nat.beq f g with
    | true => rw [hb] at hg; exact hg.elim
    | false => rw [hb] at hg; exact h.p g args K hg
  h := fun g args hp nx K hg => by
    simp only [Gm, findS] at hg
    cases hb : Nat.beq f g with
    | true => rw [hb] at hg; have := Nat.eq_of_beq_eq_true hb; subst this; exact hs args hp nx K hg
    | false => rw [hb] at hg; exact h.h g args hp nx K hg
end Go.Tb
