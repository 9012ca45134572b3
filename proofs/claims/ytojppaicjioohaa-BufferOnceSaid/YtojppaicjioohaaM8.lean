/- A function's body, and its call; contracts of functions that are handed no memory. -/
import Derived.Test.YtojppaicjioohaaM7
set_option linter.all false
namespace Go.Tb
open Go
variable {O : Type} {P : Program} {I : Interp O}

theorem callable {f : FuncId} {fn : Func} (hf : P.funcs[f]? = some fn) (hname : (fn.name == "runtime.NumGoroutine") = false) (hb : fn.body.isSome = true) (as : Array Value) (w : World) : (callFunc f as).run P w = .ok (.enter f as) w := by
  have h1 : fn.name ≠ "runtime.NumGoroutine" := by simpa using hname
  obtain ⟨c, hc⟩ := Option.isSome_iff_exists.1 hb
  simp [callFunc, hf, h1, hc]

/-! ### Results -/
def ares (P : Program) (s : St O) : List ResultVar → (List AV → Prop) → Prop
  | [], K => K []
  | .tmp t :: r, K => withV (s.tm.get t) fun v => ares P s r fun l => K (v :: l)
  | .cell t ty :: r, K => withV (s.tm.get t) fun a => aload P s.hp ty a fun v => ares P s r fun l => K (v :: l)
def pack : List AV → AV
  | [v] => v
  | l => .tup l
def res1 (tmps : Array Value) : ResultVar → Sem Value
  | .tmp t => pure (tmps.getD t undef)
  | .cell b t => do loadVar t (← asAddr (tmps.getD b undef))
def packV : List Value → Value
  | [x] => x
  | l => .tuple l.toArray
theorem ares_ok {s : St O} {c : Ctx} {a : Act} {w : World} (hm : Mt I c s a w) : ∀ {rs : List ResultVar} {K : List AV → Prop}, ares P s rs K →
    ∃ l, K l ∧ ∀ ρ fp, TmOk ρ s.tm a.tmps → Sat I ρ fp s.hp w → ∃ l', Dens ρ l l' ∧ (rs.mapM (res1 a.tmps) : Sem (List Value)).run P w = .ok l' w
  | [], K, h => ⟨[], h, fun ρ fp ht hs => ⟨[], .nil, rfl⟩⟩
  | .tmp t :: rs, K, h => by
    obtain ⟨v, hv, h⟩ := withV_spec h
    obtain ⟨l, hk, hl⟩ := ares_ok hm h
    refine ⟨_, hk, fun ρ fp ht hs => ?_⟩
    obtain ⟨l', dl, rl⟩ := hl ρ fp ht hs
    obtain ⟨x, hx, dx⟩ := ht t v hv
    refine ⟨x :: l', .cons dx dl, ?_⟩
    have e : a.tmps.getD t undef = x := by simp [Array.getD_eq_getD_getElem?, hx]
    simp only [List.mapM_cons, Sem.run_bind, res1, Sem.run_pure, Result.andThen_ok, e] at rl ⊢
    rw [show (List.mapM _ rs : Sem (List Value)).run P w = .ok l' w from rl]
    rfl
  | .cell t ty :: rs, K, h => by
    obtain ⟨v, hv, h⟩ := withV_spec h
    obtain ⟨u, hu, hl0⟩ := aload_ok h
    obtain ⟨l, hk, hl⟩ := ares_ok hm hu
    refine ⟨_, hk, fun ρ fp ht hs => ?_⟩
    obtain ⟨l', dl, rl⟩ := hl ρ fp ht hs
    obtain ⟨x, hx, dx⟩ := ht t v hv
    obtain ⟨z, dz, rz⟩ := hl0 ρ fp w x hs dx
    refine ⟨z :: l', .cons dz dl, ?_⟩
    have e : a.tmps.getD t undef = x := by simp [Array.getD_eq_getD_getElem?, hx]
    have hp : ∃ ad, x = .pointer (some ad) := by
      cases x with
      | pointer p => cases p with
        | some ad => exact ⟨ad, rfl⟩
        | none => simp [Instr.loadAt, Instr.sureAddr, stuck, Sem.run] at rz
      | _ => simp [Instr.loadAt, Instr.sureAddr, stuck, Sem.run] at rz
    obtain ⟨ad, rfl⟩ := hp
    simp only [Instr.loadAt, Instr.sureAddr, Sem.run_bind, Sem.run_pure, Result.andThen_ok] at rz
    have hA : (asAddr (a.tmps.getD t undef)).run P w = .ok ad w := by rw [e]; rfl
    have h1 : (res1 a.tmps (.cell t ty)).run P w = .ok z w := by
      show (do loadVar ty (← asAddr (a.tmps.getD t undef))).run P w = _
      rw [Sem.run_bind, hA]
      exact rz
    simp only [List.mapM_cons, Sem.run_bind, h1, Result.andThen_ok, rl, Sem.run_pure]
theorem results_run {fn : Func} {tmps : Array Value} {l : List Value} {w : World} (h : (fn.results.toList.mapM (res1 tmps) : Sem (List Value)).run P w = .ok l w) :
    (results fn tmps).run P w = .ok (packV l) w := by
  change (do let vs ← fn.results.mapM (res1 tmps); pure (if h : vs.size = 1 then vs[0] else .tuple vs) : Sem Value).run P w = _
  simp only [Sem.run_bind, Array.mapM_eq_mapM_toList, Sem.run_map, h, Result.andThen_ok, Sem.run_pure]
  match l with
  | [] => rfl
  | [x] => rfl
  | x :: y :: r => simp [packV]
theorem pack_den {ρ : Rho} {l : List AV} {l' : List Value} (h : Dens ρ l l') : Den ρ (pack l) (packV l') := by
  cases h with
  | nil => exact .tup .nil
  | cons hv h => cases h with
    | nil => exact hv
    | cons hu h => exact .tup (.cons hv (.cons hu h))

/-! ### Bodies -/
def kret (P : Program) (fn : Func) (K : AV → Tr (AO O) → Nat → Prop) : Kt O := fun e s => match e with
  | .exit _ => False
  | _ => ares P s fn.results.toList fun l => K (pack l) s.hp s.nx
def abody (I : Interp O) (P : Program) (Γ : Gam O) (D : Array Oper → St O → (St O → Prop) → Prop) (m : Nat) (fn : Func) (args : List AV) (hp : Tr (AO O)) (nx : Nat) (K : AV → Tr (AO O) → Nat → Prop) : Prop :=
  match fn.body with
  | some code => match Nat.ble args.length fn.ntmps with
    | true => acode I P Γ D m code ⟨Tr.ofList 0 args .leaf, hp, nx, fn.ntmps⟩ (kret P fn K)
    | false => False
  | none => False
theorem Tr.ofList_get {α : Type} : ∀ (l : List α) (i : Nat) (t : Tr α) (j : Nat) (x : α), i + l.length < 16777215 → (Tr.ofList i l t).get j = some x → (t.get j = some x ∧ (j < i ∨ i + l.length ≤ j)) ∨ (i ≤ j ∧ l[j - i]? = some x)
  | [], i, t, j, x, _, h => .inl ⟨h, by simp; omega⟩
  | y :: l, i, t, j, x, hb, h => by
    simp only [List.length_cons] at hb ⊢
    rcases Tr.ofList_get l (i + 1) (t.set i (some y)) j x (by omega) h with ⟨h1, h2⟩ | ⟨h1, h2⟩
    · by_cases e : i = j
      · subst e
        rw [Tr.get_set_eq (blt_iff.2 (by omega))] at h1
        cases h1
        exact .inr ⟨Nat.le_refl _, by simp⟩
      · rw [Tr.get_set_ne e] at h1
        exact .inl ⟨h1, by omega⟩
    · refine .inr ⟨by omega, ?_⟩
      have : j - i = (j - (i + 1)) + 1 := by omega
      rw [this]; simpa using h2
theorem init_ok {ρ : Rho} {args : List AV} {args' : List Value} (h : Dens ρ args args') (hn : args.length < 16777215) (r : Array Value) : TmOk ρ (Tr.ofList 0 args .leaf) (args'.toArray ++ r) := by
  intro t v hv
  rcases Tr.ofList_get args 0 .leaf t v (by simpa using hn) hv with ⟨h1, _⟩ | ⟨_, h2⟩
  · cases h1
  · simp at h2
    obtain ⟨x, hx, dx⟩ := h.get h2
    have ht : t < args'.length := (List.getElem?_eq_some_iff.1 hx).1
    exact ⟨x, by rw [Array.getElem?_append_left (by simpa using ht)]; simpa using hx, dx⟩
theorem body_call {Γ : Gam O} (hΓ : GOk I P Γ) {D : Array Oper → St O → (St O → Prop) → Prop} (hD : DOk I P D) {m : Nat} {f : FuncId} {fn : Func} (hf : P.funcs[f]? = some fn) (hcall : ∀ as w, (callFunc f as).run P w = .ok (.enter f as) w)
    {args : List AV} {hp : Tr (AO O)} {nx : Nat} {K : AV → Tr (AO O) → Nat → Prop} (hm : ∀ n, m ≤ n → hp.get n = none) (hn : Nat.blt args.length 16777215 = true) (h : abody I P Γ D m fn args hp nx K) : ACall I P f args hp (fun v hp' => ∃ nx', K v hp' nx') := by
  refine ⟨hcall, fun ρ fp w args' hs ha => ?_⟩
  unfold abody at h
  split at h
  · rename_i code hcode
    split at h
    · rename_i hle
      have hle := Nat.le_of_ble_eq_true hle
      refine calls_of_nwp hf hcode ?_
      let c : Ctx := ⟨w, fun b => ∃ n, b ∈ fp n, ρ⟩
      have hsz : (args'.toArray ++ Array.replicate (fn.ntmps - args'.toArray.size) undef).size = fn.ntmps := by
        have := ha.length
        simp; omega
      have hM : Mt I c ⟨Tr.ofList 0 args .leaf, hp, nx, fn.ntmps⟩ { tmps := args'.toArray ++ Array.replicate (fn.ntmps - args'.toArray.size) undef, defers := [] } w :=
        ⟨rfl, hsz, ρ, fp, init_ok ha (blt_iff.1 hn) _, hs, Since.refl w ρ fp⟩
      refine nwp_mono (acode_ok hΓ hD (c := c) (fun n hn => (hs.dom n (hm n hn)).1) code h hM) ?_
      rintro e a w' ⟨x, s, rfl, hk, hm'⟩
      have fin : ∀ e : Exit, (e = .normal ∨ e = .ret) → (ares P s fn.results.toList fun l => K (pack l) s.hp s.nx) → bodyPost P fn (fun e w' => ∃ v hp' ρ' fp' x, (∃ nx', K v hp' nx') ∧ e = .returned x ∧ Den ρ' v x ∧ Sat I ρ' fp' hp' w' ∧ Since w (fun b => ∃ n, b ∈ fp n) ρ ρ' fp' w') e a w' := by
        intro e he hk
        obtain ⟨l, hl, hr⟩ := ares_ok hm' hk
        obtain ⟨hd, hz, ρ', fp', ht, hs', hc'⟩ := hm'
        obtain ⟨l', dl, rl⟩ := hr ρ' fp' ht hs'
        have : a.defers = [] ∧ ∃ v, (results fn a.tmps).run P w' = .ok v w' ∧ ∃ v' hp' ρ' fp' x, (∃ nx', K v' hp' nx') ∧ Ending.returned v = .returned x ∧ Den ρ' v' x ∧ Sat I ρ' fp' hp' w' ∧ Since w (fun b => ∃ n, b ∈ fp n) ρ ρ' fp' w' :=
          ⟨hd, _, results_run rl, pack l, s.hp, ρ', fp', _, ⟨s.nx, hl⟩, rfl, pack_den dl, hs', hc'⟩
        rcases he with rfl | rfl <;> exact this
      cases x with
      | normal => exact fin _ (.inl rfl) hk
      | exit n => exact hk.elim
      | ret => exact fin _ (.inr rfl) hk
    · exact h.elim
  · exact h.elim

/-! ### Values without names -/
mutual
def cl : AV → Bool
  | .ptr _ _ | .ep _ _ _ _ _ | .sl _ _ _ _ | .map _ | .chan _ | .sd _ _ _ _ _ _ | .slq _ _ _ _ | .chanP _ _ | .mapP _ _ => false
  | .fn _ a b => cls a && cls b
  | .iface _ v => cl v
  | .agg l => cls l
  | .tup l => cls l
  | _ => true
def cls : List AV → Bool
  | [] => true
  | v :: l => cl v && cls l
end
mutual
theorem cl_den {ρ ρ' : Rho} {v : AV} {x : Value} (h : Den ρ v x) (hc : cl v = true) : Den ρ' v x := by
  cases h with
  | bool b => exact .bool b
  | int k n h => exact .int k n h
  | str s h => exact .str s h
  | ptr o h => simp [cl] at hc
  | ep o zz i j h => simp [cl] at hc
  | nilp => exact .nilp
  | sl o l c h _ _ => simp [cl] at hc
  | nils => exact .nils
  | map h => simp [cl] at hc
  | nilm => exact .nilm
  | chan h => simp [cl] at hc
  | nilc => exact .nilc
  | sd zz lo l c k h hl hc hk => simp [cl] at hc
  | slq1 l c h _ _ => simp [cl] at hc
  | slq0 n => simp [cl] at hc
  | chanP n b => simp [cl] at hc
  | mapP n b => simp [cl] at hc
  | pv0 => exact .pv0
  | pv1 b z l c hl hm => exact .pv1 b z l c hl hm
  | fn f ha hb => simp only [cl, Bool.and_eq_true] at hc; exact .fn f (cls_den ha hc.1) (cls_den hb hc.2)
  | nilf => exact .nilf
  | iface t h => simp only [cl] at hc; exact .iface t (cl_den h hc)
  | nili => exact .nili
  | agg h => simp only [cl] at hc; exact .agg (cls_den h hc)
  | tup h => simp only [cl] at hc; exact .tup (cls_den h hc)
theorem cls_den {ρ ρ' : Rho} {l : List AV} {l' : List Value} (h : Dens ρ l l') (hc : cls l = true) : Dens ρ' l l' := by
  cases h with
  | nil => exact .nil
  | cons h t => simp only [cls, Bool.and_eq_true] at hc; exact .cons (cl_den h hc.1) (cls_den t hc.2)
end
/-- What is known of a call without memory holds over every heap. -/
theorem lift_pure {f : FuncId} {args : List AV} {K : AV → Prop} (h : ACall I P f args .leaf (fun v _ => K v ∧ cl v = true)) (ha : cls args = true) (hp : Tr (AO O)) :
    ACall I P f args hp (fun v hp' => K v ∧ hp' = hp) := by
  refine ⟨h.1, fun ρ fp w args' hs hd => ?_⟩
  have h0 : Sat I (fun _ => none) (fun _ => []) (.leaf : Tr (AO O)) w := ⟨(fun n o hn => by cases hn), (fun n _ => ⟨rfl, rfl⟩), (fun n m b hb => by simp at hb), (fun b ob hb => ⟨(hs.fz b ob hb).1, fun n => by simp⟩)⟩
  refine (h.2 _ _ w args' h0 (cls_den hd ha)).mono fun e w' hh => ?_
  obtain ⟨v, hp', ρ', fp', x, ⟨hk, hc⟩, rfl, dx, hs', hsc⟩ := hh
  have hw : ∀ b, b < w.heap.size → w'.heap[b]? = w.heap[b]? := fun b hb => hsc.keep b hb (by simp)
  exact ⟨v, hp, ρ, fp, x, ⟨hk, rfl⟩, rfl, cl_den dx hc, ⟨fun n o hn => (hs.ok n o hn).mono (Ext.refl _) (fun b ob hb _ => (hs'.fz b ob hb).1) (fun x hx => hw x (hs.lt hx)), hs.dom, hs.dis, fun b ob hb => ⟨(hs'.fz b ob hb).1, (hs.fz b ob hb).2⟩⟩,
    ⟨hsc.os, hsc.tape, hsc.output, hsc.size, fun b hb _ => hw b hb, fun n b hb => .inl ⟨n, hb⟩, Ext.refl _⟩⟩
end Go.Tb
