/- The abstract machine's code: operations in the text's order, tests, blocks, loops; and that it is the machine's. -/
import Derived.Test.YtojppaicjioohaaM67
import Derived.Scope
set_option linter.all false
namespace Go.Tb
open Go Go.Conc Go.RowKit
variable {O : Type} {P : Program} {I : Interp O}

def ACall (I : Interp O) (P : Program) (f : FuncId) (args : List AV) (hp : Tr (AO O)) (K : AV → Tr (AO O) → Prop) : Prop :=
  (∀ as w, (callFunc f as).run P w = .ok (.enter f as) w) ∧
  ∀ ρ fp w args', Sat I ρ fp hp w → Dens ρ args args' → Calls P f args'.toArray w fun e w' =>
    ∃ v hp' ρ' fp' x, K v hp' ∧ e = .returned x ∧ Den ρ' v x ∧ Sat I ρ' fp' hp' w' ∧ Since w (fun b => ∃ n, b ∈ fp n) ρ ρ' fp' w'
/-- What is known of the callees: of those that are handed no memory (q says which), and of the other ones. -/
structure Gam (O : Type) where
  q : FuncId → Bool
  p : FuncId → List AV → (AV → Prop) → Prop
  h : FuncId → List AV → Tr (AO O) → Nat → (AV → Tr (AO O) → Nat → Prop) → Prop
structure GOk (I : Interp O) (P : Program) (Γ : Gam O) : Prop where
  p : ∀ f args K, Γ.p f args K → ∀ hp, ACall I P f args hp (fun v hp' => K v ∧ hp' = hp)
  h : ∀ f args hp nx K, Γ.h f args hp nx K → ACall I P f args hp (fun v hp' => ∃ nx', K v hp' nx')

/-! ### One operation -/
def acall (Γ : Gam O) (s : St O) (d : Option Tmp) (f : AV) (as : List AV) (K : St O → Prop) : Prop := match f with
  | .fn (.func f) a b => match Γ.q f with
    | true => Γ.p f (a ++ as ++ b) fun v => putv s d v K
    | false => Γ.h f (a ++ as ++ b) s.hp s.nx fun v hp nx => putv { s with hp := hp, nx := nx } d v K
  | _ => False
def aop (P : Program) (Γ : Gam O) (o : Oper) (s : St O) (K : St O → Prop) : Prop := match o.op with
  | .load t x => withV (ev s.tm x) fun a => aload P s.hp t a fun v => putv s o.dst v K
  | .box t x => withV (ev s.tm x) fun a => abox s o.dst t a K
  | .alloc t => withV (zeroT P t) fun a => abox s o.dst t a K
  | .buildSlice t n ps => match evps s.tm ps.toList with | some l => abuildSlice P s o.dst t n l K | none => False
  | .store t x y => withV (ev s.tm x) fun a => withV (ev s.tm y) fun b => astore P s t a b fun s => putv s o.dst (.tup []) K
  | .call c => match c.callee with
    | .value f => withV (ev s.tm f) fun f => match evs s.tm c.args.toList with | some as => acall Γ s o.dst f as K | none => False
    | .builtin .append => match evs s.tm c.args.toList with | some [x, y] => aunpin s x fun s x => aappend P s o.dst c.argTypes.toList x y K | _ => False
    | .builtin .delete => match evs s.tm c.args.toList with | some [x, y] => amapDeleteX P s c.argTypes.toList x y fun s => putv s o.dst (.tup []) K | _ => False
    | .builtin .clear => match evs s.tm c.args.toList with | some [x] => aclear P s c.argTypes.toList x fun s => putv s o.dst (.tup []) K | _ => False
    | .builtin .len => match evs s.tm c.args.toList with
      | some [.map n] => amapLenX P s.hp c.argTypes.toList n fun v => putv s o.dst v K
      | _ => apure P o.op s.tm fun v => putv s o.dst v K
    | .invoke r name => withV (ev s.tm r) fun
      | .iface t v => match evs s.tm c.args.toList with
        | some as => amethod P s.hp t v name fun f r => acall Γ s o.dst (.fn (.func f) [] []) (r :: as) K
        | none => False
      | _ => False
    | _ => apure P o.op s.tm fun v => putv s o.dst v K
  | .lookup t x y ok => withV (ev s.tm x) fun a => withV (ev s.tm y) fun b => alookupX P s.hp t a b ok fun v => putv s o.dst v K
  | .mapUpdate t x y z => withV (ev s.tm x) fun a => withV (ev s.tm y) fun b => withV (ev s.tm z) fun c => apin s a c fun s c => amapUpdateX P s t a b c fun s => putv s o.dst (.tup []) K
  | .insert t x y z => withV (ev s.tm x) fun a => withV (ev s.tm y) fun b => withV (ev s.tm z) fun c => apin s a c fun s c => amapUpdateX P s t a b c fun s => putv s o.dst (.tup []) K
  | .makeMap t r => match evO s.tm r with | some r => apgnew P s t fun s => amakeMapX P s o.dst t r K | none => False
  | .range t x => withV (ev s.tm x) fun a => arange P s o.dst t a K
  | .next x isS => match isS with | false => withV (ev s.tm x) fun a => anext s o.dst a K | true => False
  | .entry x => withV (ev s.tm x) fun a => aentry s.hp a fun v => putv s o.dst v K
  | .typeAssert x _ t ok => withV (ev s.tm x) fun a => atypeAssert P t a ok fun v => putv s o.dst v K
  | .makeSlice t x y => withV (ev s.tm x) fun a => withV (ev s.tm y) fun b => amakeSlice P s o.dst t a b K
  | .makeChan t x => withV (ev s.tm x) fun a => amakeChan P s o.dst t a K
  | .convert t t' x => match ev s.tm x with
    | some (.sl n q l c) => aconvS P s.hp t t' (.sl n q l c) fun v => putv s o.dst v K
    | _ => apure P o.op s.tm fun v => putv s o.dst v K
  | _ => apure P o.op s.tm fun v => putv s o.dst v K
/-- The objects that an operation may change. -/
def chg (Γ : Gam O) (o : Oper) (s : St O) : Nat → Bool := match o.op with
  | .store _ x _ => match ev s.tm x with | some a => nameOf a | none => fun _ => true
  | .call c => match c.callee with
    | .value f => match ev s.tm f with
      | some (.fn (.func f) _ _) => match Γ.q f with | true => fun _ => false | false => fun _ => true
      | _ => fun _ => true
    | .builtin .append => fun _ => true
    | .builtin .delete => fun _ => true
    | .builtin .clear => fun _ => true
    | .invoke _ _ => fun _ => true
    | _ => fun _ => false
  | .makeSlice _ _ _ => fun _ => true
  | .mapUpdate _ _ _ _ => fun _ => true
  | .insert _ _ _ _ => fun _ => true
  | .next _ _ => fun _ => true
  | _ => fun _ => false

theorem undef_den (ρ : Rho) : Den ρ (.tup []) undef := .tup .nil
theorem pure_wp {o : Oper} {c : Ctx} {ρ : Rho} {s : St O} {K : St O → Prop} {a : Act} {w : World} {Q : Exit → Act → World → Prop} (h : apure P o.op s.tm fun v => putv s o.dst v K) (hm : Mr I c ρ s a w) (p : Nat → Bool) : o.wp P a w (KM I c ρ p s.hp K) Q := by
  obtain ⟨hd, hz, fp, ht, hs, hc⟩ := hm
  obtain ⟨v, hk, hv⟩ := apure_ok (o := o) h
  obtain ⟨x, dx, rx⟩ := hv ρ a ht
  unfold Oper.wp
  rw [rx, Oper.upon_value]
  exact putv_ok hk hd hz ht hs hc dx (Ext.refl ρ) (Same.refl _ _)
theorem acall_ok {Γ : Gam O} (hΓ : GOk I P Γ) {c : Ctx} {ρ : Rho} {s : St O} {d : Option Tmp} {f : FuncId} {as : List AV} {K : St O → Prop} (h : acall Γ s d (.fn (.func f) [] []) as K) {a : Act} {w : World} (hd : a.defers = []) (hz : a.tmps.size = s.sz) {fp : Nat → List Nat} (ht : TmOk ρ s.tm a.tmps)
    (hs : Sat I ρ fp s.hp w) (hc : Since c.w0 c.F0 c.ρ0 ρ fp w) {as' : List Value} (has : Dens ρ as as') : (∀ as w, (callFunc f as).run P w = .ok (.enter f as) w) ∧ Calls P f as'.toArray w fun e w' => ∃ x, e = .returned x ∧ KM I c ρ (fun _ => false) s.hp K (a.put d x) w' := by
  unfold acall at h
  simp only [List.nil_append, List.append_nil] at h
  split at h
  · obtain ⟨hen, hC⟩ := hΓ.p _ _ _ h s.hp
    refine ⟨hen, (hC ρ fp w _ hs has).mono fun e w' hh => ?_⟩
    obtain ⟨v, hp', ρ', fp', z, ⟨hk, rfl⟩, rfl, dz, hs', hc'⟩ := hh
    exact ⟨z, rfl, putv_ok hk hd hz (ht.mono hc'.ext) hs' (hc.trans hc') dz hc'.ext (fun n o hn => by simp at hn)⟩
  · obtain ⟨hen, hC⟩ := hΓ.h _ _ _ _ _ h
    refine ⟨hen, (hC ρ fp w _ hs has).mono fun e w' hh => ?_⟩
    obtain ⟨v, hp', ρ', fp', z, ⟨nx', hk⟩, rfl, dz, hs', hc'⟩ := hh
    exact ⟨z, rfl, putv_ok hk hd hz (ht.mono hc'.ext) hs' (hc.trans hc') dz hc'.ext (fun n o hn => by simp at hn)⟩
theorem aop_ok {Γ : Gam O} (hΓ : GOk I P Γ) {o : Oper} {c : Ctx} {ρ : Rho} {s : St O} {K : St O → Prop} {a : Act} {w : World} {Q : Exit → Act → World → Prop} (h : aop P Γ o s K) (hm : Mr I c ρ s a w) : o.wp P a w (KM I c ρ (fun m => !chg Γ o s m) s.hp K) Q := by
  have hm0 := hm
  obtain ⟨hd, hz, fp, ht, hs, hc⟩ := hm
  unfold aop at h
  split at h
  · rename_i t x hop
    obtain ⟨v, hv, h⟩ := withV_spec h
    obtain ⟨r, hr, hk⟩ := aload_ok h
    obtain ⟨z, dz, rz⟩ := hk ρ fp w _ hs (ev_spec ht hv)
    unfold Oper.wp
    have : (execOp a.eval o).run P w = .ok (.value z) w := by simp [execOp, hop, rz]
    rw [this, Oper.upon_value]
    exact putv_ok hr hd hz ht hs hc dz (Ext.refl ρ) (Same.refl _ _)
  · rename_i t x hop
    obtain ⟨v, hv, h⟩ := withV_spec h
    have hb := abox_ok h hd hz ht hs hc (ev_spec ht hv) (fun m => !chg Γ o s m)
    unfold Oper.wp
    have : (execOp a.eval o).run P w = .ok (.value (.pointer (some ⟨w.heap.size, 0, none⟩))) (w.alloc (.cells (a.eval x).cells t (0, 0))) := by
      simp [execOp, hop, Instr.box, newVar, newRow, newObj, Sem.run]
    rw [this, Oper.upon_value]
    exact hb
  · rename_i t hop
    obtain ⟨v, hv, h⟩ := withV_spec h
    obtain ⟨z, rz, dz⟩ := zeroT_spec hv
    have hb := abox_ok h hd hz ht hs hc (dz ρ) (fun m => !chg Γ o s m)
    unfold Oper.wp
    have : (execOp a.eval o).run P w = .ok (.value (.pointer (some ⟨w.heap.size, 0, none⟩))) (w.alloc (.cells z.cells t (0, 0))) := by
      simp [execOp, hop, Instr.alloc, rz, newVar, newRow, newObj, Sem.run]
    rw [this, Oper.upon_value]
    exact hb
  · rename_i t n ps hop
    split at h
    · rename_i l hl
      obtain ⟨h1, h2⟩ := evps_spec ht hl
      obtain ⟨x, w', hrun, hk⟩ := abuildSlice_ok h hd hz ht hs hc h1 h2 (fun m => !chg Γ o s m)
      unfold Oper.wp
      have e : (ps.map fun p => (p.1, a.eval p.2)) = (ps.toList.map fun p => (p.1, a.eval p.2)).toArray := by apply Array.ext'; simp
      have : (execOp a.eval o).run P w = .ok (.value x) w' := by simp [execOp, hop, e, hrun]
      rw [this, Oper.upon_value]
      exact hk
    · exact h.elim
  · rename_i t x y hop
    obtain ⟨u, hu, h⟩ := withV_spec h
    obtain ⟨v, hv, h⟩ := withV_spec h
    obtain ⟨w', s', hrun, hk, e1, e2, hsm, ht', hs', hc'⟩ := astore_ok h ht hs hc (ev_spec ht hu) (ev_spec ht hv)
    unfold Oper.wp
    have : (execOp a.eval o).run P w = .ok .skip w' := by simp [execOp, hop, hrun]
    rw [this, Oper.upon_skip]
    have e : chg Γ o s = nameOf u := by simp [chg, hop, hu]
    rw [e]
    exact putv_ok hk hd (hz.trans e2.symm) ht' hs' hc' (undef_den ρ) (Ext.refl ρ) hsm
  · rename_i cl hop
    split at h
    · rename_i f hf
      obtain ⟨u, hu, h⟩ := withV_spec h
      split at h
      · rename_i as has
        unfold acall at h
        split at h
        · rename_i g x y
          have hfv := ev_spec ht hu
          generalize hfe : a.eval f = f' at hfv
          cases hfv with | fn _ hx hy =>
          rename_i x' y'
          have hargs := (hx.append (evs_spec ht has)).append hy
          have run : (∀ as w, (callFunc g as).run P w = .ok (.enter g as) w) → (execOp a.eval o).run P w = .ok (.enter g (x' ++ cl.args.toList.map a.eval ++ y').toArray) w := by
            intro hen
            have e : (x' ++ cl.args.toList.map a.eval ++ y').toArray = x'.toArray ++ cl.args.map a.eval ++ y'.toArray := by apply Array.ext'; simp
            rw [e]
            simp [execOp, hop, resolve, hf, hfe, Deferred.ofValue, invoke, hen]
          split at h
          · rename_i hq
            obtain ⟨hen, hC⟩ := hΓ.p _ _ _ h s.hp
            have hC := hC ρ fp w _ hs hargs
            unfold Oper.wp
            rw [run hen, Oper.upon_enter]
            refine hC.mono fun e w' hh => ?_
            obtain ⟨v, hp', ρ', fp', z, ⟨hk, rfl⟩, rfl, dz, hs', hc'⟩ := hh
            exact putv_ok hk hd hz (ht.mono hc'.ext) hs' (hc.trans hc') dz hc'.ext (Same.refl _ _)
          · rename_i hq
            obtain ⟨hen, hC⟩ := hΓ.h _ _ _ _ _ h
            have hC := hC ρ fp w _ hs hargs
            unfold Oper.wp
            rw [run hen, Oper.upon_enter]
            refine hC.mono fun e w' hh => ?_
            obtain ⟨v, hp', ρ', fp', z, ⟨nx', hk⟩, rfl, dz, hs', hc'⟩ := hh
            have e : chg Γ o s = fun _ => true := by simp [chg, hop, hf, hu, hq]
            rw [e]
            exact putv_ok hk hd hz (ht.mono hc'.ext) hs' (hc.trans hc') dz hc'.ext (fun n o hn => by simp at hn)
        · exact h.elim
      · exact h.elim
    · rename_i hf
      split at h
      · rename_i x y has
        have hargs := evs_spec ht has
        generalize hl : cl.args.toList.map a.eval = l' at hargs
        cases hargs with | cons dx hargs =>
        cases hargs with | cons dy hargs =>
        cases hargs
        rename_i x' y'
        obtain ⟨s1, x1, ρ1, fp1, h, e1, e2, he, ht1, hs1, hc1, dx1⟩ := aunpin_ok h ht hs hc dx
        obtain ⟨v, w', hrun, hk⟩ := aappend_ok h hd (hz.trans e2.symm) ht1 hs1 hc1 dx1 (dy.mono he)
        replace hk : KM I c ρ (fun _ => !true) s.hp K (a.put o.dst v) w' := let ⟨s2, ρ2, k1, k2, _, k4⟩ := hk; ⟨s2, ρ2, k1, he.trans k2, fun n o hn => by simp at hn, k4⟩
        have e : chg Γ o s = fun _ => true := by simp [chg, hop, hf]
        rw [e]
        have ea : cl.args.map a.eval = #[x', y'] := by apply Array.ext'; simpa using hl
        have hrun' : (Builtin.append_ cl.argTypes o.type #[x', y']).run P w = .ok v w' := by simpa using hrun o.type
        unfold Oper.wp
        have : (execOp a.eval o).run P w = .ok (.value v) w' := by simp [execOp, hop, resolve, hf, invoke, builtin, ea, hrun']
        rw [this, Oper.upon_value]
        exact hk
      · exact h.elim
    · rename_i hf
      split at h
      · rename_i x y has
        have hargs := evs_spec ht has
        generalize hl : cl.args.toList.map a.eval = l' at hargs
        cases hargs with | cons dx hargs =>
        cases hargs with | cons dy hargs =>
        cases hargs
        rename_i x' y'
        obtain ⟨w', s', hrun, hk, e1, e2, ht', hs', hc'⟩ := amapDeleteX_ok h ht hs hc dx dy
        have e : chg Γ o s = fun _ => true := by simp [chg, hop, hf]
        rw [e]
        have ea : cl.args.map a.eval = #[x', y'] := by apply Array.ext'; simpa using hl
        have hrun' : (Builtin.delete_ cl.argTypes o.type #[x', y']).run P w = .ok (.tuple #[]) w' := by simpa using hrun o.type
        unfold Oper.wp
        have : (execOp a.eval o).run P w = .ok (.value (.tuple #[])) w' := by simp [execOp, hop, resolve, hf, invoke, builtin, ea, hrun']
        rw [this, Oper.upon_value]
        exact putv_ok hk hd (hz.trans e2.symm) ht' hs' hc' (undef_den ρ) (Ext.refl ρ) (fun n o hn => by simp at hn)
      · exact h.elim
    · rename_i hf
      split at h
      · rename_i x has
        have hargs := evs_spec ht has
        generalize hl : cl.args.toList.map a.eval = l' at hargs
        cases hargs with | cons dx hargs =>
        cases hargs
        rename_i x'
        obtain ⟨w', s', hrun, hk, e1, e2, ht', hs', hc'⟩ := aclear_ok h ht hs hc dx
        have e : chg Γ o s = fun _ => true := by simp [chg, hop, hf]
        rw [e]
        have ea : cl.args.map a.eval = #[x'] := by apply Array.ext'; simpa using hl
        have hrun' : (Builtin.clear_ cl.argTypes o.type #[x']).run P w = .ok (.tuple #[]) w' := by simpa using hrun o.type
        unfold Oper.wp
        have : (execOp a.eval o).run P w = .ok (.value (.tuple #[])) w' := by simp [execOp, hop, resolve, hf, invoke, builtin, ea, hrun']
        rw [this, Oper.upon_value]
        exact putv_ok hk hd (hz.trans e2.symm) ht' hs' hc' (undef_den ρ) (Ext.refl ρ) (fun n o hn => by simp at hn)
      · exact h.elim
    · rename_i hf
      split at h
      · rename_i n has
        have hargs := evs_spec ht has
        generalize hl : cl.args.toList.map a.eval = l' at hargs
        cases hargs with | cons dx hargs =>
        cases hargs
        rename_i x'
        obtain ⟨v, hk, hv⟩ := amapLenX_ok (I := I) h
        obtain ⟨z, dz, rz⟩ := hv ρ fp w _ hs dx
        have ea : cl.args.map a.eval = #[x'] := by apply Array.ext'; simpa using hl
        have hrun' : (Builtin.len_ cl.argTypes o.type #[x']).run P w = .ok z w := by simpa using rz o.type
        unfold Oper.wp
        have : (execOp a.eval o).run P w = .ok (.value z) w := by simp [execOp, hop, resolve, hf, invoke, builtin, ea, hrun']
        rw [this, Oper.upon_value]
        exact putv_ok hk hd hz ht hs hc dz (Ext.refl ρ) (Same.refl _ _)
      · exact pure_wp h hm0 _
    · rename_i r name hf
      obtain ⟨u, hu, h⟩ := withV_spec h
      split at h
      · rename_i t v
        split at h
        · rename_i as has
          obtain ⟨f, q, hk, hq⟩ := amethod_ok (I := I) h
          have hrv := ev_spec ht hu
          generalize hre : a.eval r = r' at hrv
          cases hrv with | iface _ hx =>
          rename_i x'
          obtain ⟨z, dz, rz⟩ := hq ρ fp w _ hs hx
          have hargs := Dens.cons dz (evs_spec ht has)
          obtain ⟨hen, hC⟩ := acall_ok hΓ hk hd hz ht hs hc hargs
          have e : chg Γ o s = fun _ => true := by simp [chg, hop, hf]
          rw [e]
          have hm1 : (method (P.types.size + Made.depth) t x' name).run P w = .ok (f, z) w := by
            have hd0 : 0 < Made.depth := by decide
            have : P.types.size + Made.depth = (P.types.size + Made.depth - 1) + 1 := by omega
            rw [this]; exact rz _
          have run : (execOp a.eval o).run P w = .ok (.enter f (z :: cl.args.toList.map a.eval).toArray) w := by
            have e : (z :: cl.args.toList.map a.eval).toArray = #[z] ++ cl.args.map a.eval := by apply Array.ext'; rw [Array.toList_append, Array.toList_map]; rfl
            rw [e]
            have e0 : (#[Value.iface t x'] ++ Array.map a.eval cl.args)[0]? = some (.iface t x') := by rw [Array.getElem?_append_left (by simp)]; rfl
            simp [execOp, hop, resolve, hf, hre, invoke, callMethod, hm1, hen, e0]
            rw [Array.extract_eq_self_of_le (by simp)]
          unfold Oper.wp
          rw [run, Oper.upon_enter]
          refine hC.mono fun e w' hh => ?_
          obtain ⟨x, rfl, hkm⟩ := hh
          exact hkm
        · exact h.elim
      · exact h.elim
    · exact pure_wp h hm0 _
  · rename_i t x y ok hop
    obtain ⟨u, hu, h⟩ := withV_spec h
    obtain ⟨v, hv, h⟩ := withV_spec h
    obtain ⟨r, hr, hk⟩ := alookupX_ok (I := I) h
    obtain ⟨z, dz, rz⟩ := hk ρ fp w _ _ hs (ev_spec ht hu) (ev_spec ht hv)
    unfold Oper.wp
    have : (execOp a.eval o).run P w = .ok (.value z) w := by simp [execOp, hop, rz]
    rw [this, Oper.upon_value]
    exact putv_ok hr hd hz ht hs hc dz (Ext.refl ρ) (Same.refl _ _)
  · rename_i t x y z hop
    obtain ⟨u, hu, h⟩ := withV_spec h
    obtain ⟨v, hv, h⟩ := withV_spec h
    obtain ⟨q, hq, h⟩ := withV_spec h
    obtain ⟨s1, v1, fp1, h, g1, g2, hs1, hc1, dv1⟩ := apin_ok h ht hs hc (ev_spec ht hq)
    obtain ⟨w', s', hrun, hk, e1, e2, ht', hs', hc'⟩ := amapUpdateX_ok h (by rw [g1]; exact ht) hs1 hc1 (ev_spec ht hu) (ev_spec ht hv) dv1
    unfold Oper.wp
    have : (execOp a.eval o).run P w = .ok .skip w' := by simp [execOp, hop, hrun]
    rw [this, Oper.upon_skip]
    have e : chg Γ o s = fun _ => true := by simp [chg, hop]
    rw [e]
    exact putv_ok hk hd (hz.trans (e2.trans g2).symm) ht' hs' hc' (undef_den ρ) (Ext.refl ρ) (fun n o hn => by simp at hn)
  · rename_i t x y z hop
    obtain ⟨u, hu, h⟩ := withV_spec h
    obtain ⟨v, hv, h⟩ := withV_spec h
    obtain ⟨q, hq, h⟩ := withV_spec h
    obtain ⟨s1, v1, fp1, h, g1, g2, hs1, hc1, dv1⟩ := apin_ok h ht hs hc (ev_spec ht hq)
    obtain ⟨w', s', hrun, hk, e1, e2, ht', hs', hc'⟩ := amapUpdateX_ok h (by rw [g1]; exact ht) hs1 hc1 (ev_spec ht hu) (ev_spec ht hv) dv1
    unfold Oper.wp
    have : (execOp a.eval o).run P w = .ok .skip w' := by simp [execOp, hop, hrun]
    rw [this, Oper.upon_skip]
    have e : chg Γ o s = fun _ => true := by simp [chg, hop]
    rw [e]
    exact putv_ok hk hd (hz.trans (e2.trans g2).symm) ht' hs' hc' (undef_den ρ) (Ext.refl ρ) (fun n o hn => by simp at hn)
  · rename_i t r hop
    split at h
    · rename_i r' hr
      obtain ⟨s1, ρ1, fp1, h, g1, g2, hsm, he, ht1, hs1, hc1⟩ := apgnew_ok h ht hs hc
      obtain ⟨v, w', hrun, hk⟩ := amakeMapX_ok h hd (hz.trans g2.symm) ht1 hs1 hc1 (evO_den (by rw [g1] at ht1; exact ht1) hr) (fun m => !chg Γ o s m)
      replace hk : KM I c ρ (fun m => !chg Γ o s m) s.hp K (a.put o.dst v) w' := let ⟨s2, ρ2, k1, k2, k3, k4⟩ := hk; ⟨s2, ρ2, k1, he.trans k2, fun n ob hn hg => k3 n ob hn (hsm (fun m => !chg Γ o s m) n ob hn hg), k4⟩
      unfold Oper.wp
      have : (execOp a.eval o).run P w = .ok (.value v) w' := by simp [execOp, hop, hrun]
      rw [this, Oper.upon_value]
      exact hk
    · exact h.elim
  · rename_i t x hop
    obtain ⟨u, hu, h⟩ := withV_spec h
    obtain ⟨v, w', hrun, hk⟩ := arange_ok h hd hz ht hs hc (ev_spec ht hu) (fun m => !chg Γ o s m)
    unfold Oper.wp
    have : (execOp a.eval o).run P w = .ok (.value v) w' := by simp [execOp, hop, hrun]
    rw [this, Oper.upon_value]
    exact hk
  · rename_i x isS hop
    split at h
    · obtain ⟨u, hu, h⟩ := withV_spec h
      obtain ⟨v, w', hrun, hk⟩ := anext_ok (P := P) h hd hz ht hs hc (ev_spec ht hu)
      have e : chg Γ o s = fun _ => true := by simp [chg, hop]
      rw [e]
      unfold Oper.wp
      have : (execOp a.eval o).run P w = .ok (.value v) w' := by simp [execOp, hop, hrun]
      rw [this, Oper.upon_value]
      exact hk
    · exact h.elim
  · rename_i x hop
    obtain ⟨u, hu, h⟩ := withV_spec h
    obtain ⟨r, hr, hk⟩ := aentry_ok (P := P) (I := I) h
    obtain ⟨z, dz, rz⟩ := hk ρ fp w _ hs (ev_spec ht hu)
    unfold Oper.wp
    have : (execOp a.eval o).run P w = .ok (.value z) w := by simp [execOp, hop, rz]
    rw [this, Oper.upon_value]
    exact putv_ok hr hd hz ht hs hc dz (Ext.refl ρ) (Same.refl _ _)
  · rename_i x xt t ok hop
    obtain ⟨u, hu, h⟩ := withV_spec h
    obtain ⟨r, hr, hk⟩ := atypeAssert_ok (P := P) h
    obtain ⟨z, dz, rz⟩ := hk ρ _ (ev_spec ht hu)
    unfold Oper.wp
    have : (execOp a.eval o).run P w = .ok (.value z) w := by simp [execOp, hop, rz]
    rw [this, Oper.upon_value]
    exact putv_ok hr hd hz ht hs hc dz (Ext.refl ρ) (Same.refl _ _)
  · rename_i t x y hop
    obtain ⟨u, hu, h⟩ := withV_spec h
    obtain ⟨v, hv, h⟩ := withV_spec h
    obtain ⟨z, w', hrun, hk⟩ := amakeSlice_ok h hd hz ht hs hc (ev_spec ht hu) (ev_spec ht hv)
    have e : chg Γ o s = fun _ => true := by simp [chg, hop]
    rw [e]
    unfold Oper.wp
    have : (execOp a.eval o).run P w = .ok (.value z) w' := by simp [execOp, hop, hrun]
    rw [this, Oper.upon_value]
    exact hk
  · rename_i t x hop
    obtain ⟨u, hu, h⟩ := withV_spec h
    obtain ⟨v, w', hrun, hk⟩ := amakeChan_ok h hd hz ht hs hc (ev_spec ht hu) (fun m => !chg Γ o s m)
    unfold Oper.wp
    have : (execOp a.eval o).run P w = .ok (.value v) w' := by simp [execOp, hop, hrun]
    rw [this, Oper.upon_value]
    exact hk
  · rename_i t t' x hop
    split at h
    · rename_i n q l c hev
      obtain ⟨v, hk, hv⟩ := aconvS_ok (I := I) h
      obtain ⟨z, dz, rz⟩ := hv ρ fp w _ hs (ev_spec ht hev)
      unfold Oper.wp
      have : (execOp a.eval o).run P w = .ok (.value z) w := by simp [execOp, hop, rz]
      rw [this, Oper.upon_value]
      exact putv_ok hk hd hz ht hs hc dz (Ext.refl ρ) (Same.refl _ _)
    · exact pure_wp h hm0 _
  · exact pure_wp h hm0 _

/-! ### Operations in the text's order -/
def setB (s : St O) (d : Tmp) (b : Bool) : St O := match Nat.blt d 16777215 with
  | true => { s with tm := s.tm.set d (some (.bool b)) }
  | false => s
def aguarded (s : St O) (ops : Array Oper) (g : Option (Nat × Bool)) (yes no : St O → Prop) : Prop := match g with
  | none => yes s
  | some (j, b) => match (ops[j]?).bind (·.dst) with
    | some d => match s.tm.get d with
      | some (.bool c) => bsplit c fun
        | true => match b with | true => yes (setB s d true) | false => no (setB s d true)
        | false => match b with | true => no (setB s d false) | false => yes (setB s d false)
      | some (.tup []) => no s
      | _ => False
    | none => False
def aops (P : Program) (Γ : Gam O) (ops : Array Oper) : List Oper → St O → (St O → Prop) → Prop
  | [], s, K => K s
  | o :: l, s, K => aguarded s ops o.guard (fun s => aop P Γ o s fun s => aops P Γ ops l s K) (fun s => putv s o.dst (.tup []) fun s => aops P Γ ops l s K)
theorem setB_ok {c : Ctx} {ρ : Rho} {s : St O} {a : Act} {w : World} (hm : Mr I c ρ s a w) {d : Tmp} {b : Bool} (hg : s.tm.get d = some (.bool b)) : Mr I c ρ (setB s d b) a w := by
  unfold setB
  split
  · rename_i hb
    obtain ⟨hd, hz, fp, ht, hs, hc⟩ := hm
    refine ⟨hd, hz, fp, fun t v hv => ?_, hs, hc⟩
    by_cases e : d = t
    · subst e
      simp only at hv
      rw [Tr.get_set_eq hb] at hv
      exact ht d v (hg.trans hv)
    · simp only at hv
      rw [Tr.get_set_ne e] at hv
      exact ht t v hv
  · exact hm
theorem setB_hp (s : St O) (d : Tmp) (b : Bool) : (setB s d b).hp = s.hp := by unfold setB; split <;> rfl
theorem aguarded_ok {c : Ctx} {ρ : Rho} {s : St O} {a : Act} {w : World} {ops : Array Oper} {o : Oper} {yes no : St O → Prop} (h : aguarded s ops o.guard yes no) (hm : Mr I c ρ s a w) :
    (Region.wanted o (yielded ops a.tmps) = true ∧ ∃ s', s'.hp = s.hp ∧ Mr I c ρ s' a w ∧ yes s') ∨ (Region.wanted o (yielded ops a.tmps) = false ∧ ∃ s', s'.hp = s.hp ∧ Mr I c ρ s' a w ∧ no s') := by
  unfold aguarded at h
  split at h
  · rename_i hg
    exact .inl ⟨by simp [Region.wanted, hg], s, rfl, hm, h⟩
  · rename_i j b hg
    split at h
    · rename_i d hd
      split at h
      · rename_i cc hget
        have hb := bsplit_spec h
        obtain ⟨_, hz, fp, ht, _, _⟩ := id hm
        obtain ⟨x, hx, dx⟩ := ht d _ hget
        cases dx
        have hy : yielded ops a.tmps j = some cc := by simp [yielded, hd, hx]
        cases cc <;> cases b <;> simp only at hb
        · exact .inl ⟨by simp [Region.wanted, hg, hy], _, setB_hp _ _ _, setB_ok hm hget, hb⟩
        · exact .inr ⟨by simp [Region.wanted, hg, hy], _, setB_hp _ _ _, setB_ok hm hget, hb⟩
        · exact .inr ⟨by simp [Region.wanted, hg, hy], _, setB_hp _ _ _, setB_ok hm hget, hb⟩
        · exact .inl ⟨by simp [Region.wanted, hg, hy], _, setB_hp _ _ _, setB_ok hm hget, hb⟩
      · rename_i hget
        obtain ⟨_, hz, fp, ht, _, _⟩ := id hm
        obtain ⟨x, hx, dx⟩ := ht d _ hget
        cases dx with | tup dx =>
        cases dx
        have hy : yielded ops a.tmps j = none := by simp [yielded, hd, hx]
        exact .inr ⟨by simp [Region.wanted, hg, hy], s, rfl, hm, h⟩
      · exact h.elim
    · exact h.elim
theorem putv_Mr {c : Ctx} {ρ : Rho} {s : St O} {d : Option Tmp} {v : AV} {K : St O → Prop} (h : putv s d v K) {a : Act} {w : World} (hm : Mr I c ρ s a w) {x : Value} (hv : ∀ ρ : Rho, Den ρ v x) (p : Nat → Bool) : KM I c ρ p s.hp K (a.put d x) w := by
  obtain ⟨hd, hz, fp, ht, hs, hc⟩ := hm
  exact putv_ok h hd hz ht hs hc (hv ρ) (Ext.refl ρ) (Same.refl _ _)
def KT (I : Interp O) (c : Ctx) (K : St O → Prop) (a : Act) (w : World) : Prop := ∃ s, K s ∧ Mt I c s a w
theorem aops_ok {Γ : Gam O} (hΓ : GOk I P Γ) {c : Ctx} {ops : Array Oper} {K : St O → Prop} {Q : Exit → Act → World → Prop} (hQ : ∀ a w, KT I c K a w → Q .normal a w) : ∀ {l : List Oper} {s : St O} {a : Act} {w : World}, aops P Γ ops l s K → Mt I c s a w → wpList P ops Q l a w
  | [], s, a, w, h, hm => hQ a w ⟨s, h, hm⟩
  | o :: l, s, a, w, h, hm => by
    simp only [aops] at h
    obtain ⟨h1, h2, ρ, h3⟩ := hm
    refine wpList_step fun K' hK' => ?_
    rcases aguarded_ok h ⟨h1, h2, h3⟩ with ⟨hw, s', _, hm', h'⟩ | ⟨hw, s', _, hm', h'⟩
    · rw [if_pos hw]
      refine Oper.wp_mono ?_ (aop_ok hΓ h' hm')
      rintro a' w' ⟨s'', ρ', hk, _, _, hm''⟩
      exact hK' _ _ (aops_ok hΓ hQ hk hm''.mt)
    · rw [if_neg (by simp [hw])]
      obtain ⟨s'', ρ', hk, _, _, hm''⟩ := putv_Mr h' hm' (x := undef) undef_den (fun _ => true)
      exact hK' _ _ (aops_ok hΓ hQ hk hm''.mt)

/-! ### A select of one case, with a default -/
def aselect (P : Program) (s : St O) (d : Option Tmp) (cs : List SelectCase) (K : St O → Prop) : Prop := match cs with
  | [c] => match ev s.tm c.chan, zeroT P c.elem with
    | some (.chan n), some z => match s.hp.get n with
      | some (.ch cap .s xs) => must (Nat.blt n 16777215) (match c.send with
        | none => (xs = [] → putv s d (.tup [.int .i64 (-1), .bool false, z]) K) ∧ ∀ x rest, xs = x :: rest → putv { s with hp := s.hp.set n (some (.ch cap .s rest)) } d (.tup [.int .i64 0, .bool true, .str (x.s 0)]) K
        | some y => match ev s.tm y with
          | some (.str t) => bsplit (Nat.blt xs.length cap) fun
            | true => putv { s with hp := s.hp.set n (some (.ch cap .s (xs ++ [rwA [.str t]]))) } d (.tup [.int .i64 0, .bool false]) K
            | false => putv s d (.tup [.int .i64 (-1), .bool false]) K
          | _ => False)
      | _ => False
    | _, _ => False
  | _ => False
def isSel (o : Oper) : Option (List SelectCase) := match o.guard, o.op with
  | none, .select cs false => some cs.toList
  | _, _ => none
def areg (P : Program) (Γ : Gam O) (ops : Array Oper) (s : St O) (K : St O → Prop) : Prop := match ops.toList with
  | o :: rest => match isSel o with
    | some cs => aselect P s o.dst cs (fun s => aops P Γ ops rest s K)
    | none => aops P Γ ops ops.toList s K
  | [] => aops P Γ ops ops.toList s K
theorem blt_len {n m : Nat} (h : Nat.blt n m = true) : n < m := Nat.le_of_ble_eq_true h
theorem areg_ok {Γ : Gam O} (hΓ : GOk I P Γ) {c : Ctx} {id : Nat} {ops : Array Oper} {K : St O → Prop} {Q : Exit → Act → World → Prop} (hQ : ∀ a w, KT I c K a w → Q .normal a w) {s : St O} {a : Act} {w : World} (h : areg P Γ ops s K) (hm : Mt I c s a w) : nwp P (.region id ops false) Q a w := by
  unfold areg at h
  split at h
  · rename_i o rest hops
    split at h
    · rename_i cs hsel
      unfold isSel at hsel
      split at hsel
      · rename_i cs0 hg hop
        cases hsel
        unfold aselect at h
        split at h
        · rename_i sc hcs
          have hcs0 : cs0 = #[sc] := by apply Array.ext'; simpa using hcs
          subst hcs0
          split at h
          · rename_i n z hev hz0
            split at h
            · rename_i cap xs hgn
              obtain ⟨hbn, h⟩ := must_spec h
              obtain ⟨hd, hz, ρ, fp, ht, hs, hcc⟩ := hm
              obtain ⟨z', rz, dz⟩ := zeroT_spec hz0
              obtain ⟨b, buf', s', r, g1, g2, g3, g4, g5⟩ := hs.ok n _ hgn
              have hch := ev_spec ht hev
              generalize hce : a.eval sc.chan = cv at hch
              cases hch with | chan hch =>
              rw [g1] at hch; cases hch
              have fin : ∀ {s2 : St O} {v : AV} {x : Value} {w' : World}, putv s2 o.dst v (fun s => aops P Γ ops rest s K) → s2.tm = s.tm → s2.sz = s.sz → Den ρ v x → Sat I ρ fp s2.hp w' → Since c.w0 c.F0 c.ρ0 ρ fp w' → wpList P ops Q rest (a.put o.dst x) w' := by
                intro s2 v x w' hk e1 e2 dv hs2 hc2
                obtain ⟨s3, ρ3, hk3, _, _, hm3⟩ := putv_ok (p := fun _ => false) (h0 := s2.hp) hk hd (hz.trans e2.symm) (by rw [e1]; exact ht) hs2 hc2 dv (Ext.refl ρ) (fun n o hn => by simp at hn)
                exact aops_ok hΓ hQ hk3 hm3.mt
              have upd : ∀ (xs2 : List Rw) (buf2 : Array Value) (s2 r2 : Nat), buf2.toList = xs2.map (fun x => vS x 0 .s) → (∀ x ∈ xs2, okS x 0 .s = true) → Sat I ρ fp (s.hp.set n (some (.ch cap .s xs2))) (setO w b (.chan cap buf2 false s2 r2 false)) ∧ Since c.w0 c.F0 c.ρ0 ρ fp (setO w b (.chan cap buf2 false s2 r2 false)) := by
                intro xs2 buf2 s2 r2 k1 k2
                exact ⟨hs.update hbn (by rw [hgn]; simp) (fun k hk => setO_other (fun e => hk (e ▸ (by rw [g2]; simp)))) ⟨b, buf2, s2, r2, g1, g2, setO_self g3, k1, k2⟩, hcc.setO (n := n) (by rw [g2]; simp) _⟩
              have hlen : buf'.size = xs.length := by have := congrArg List.length g4; simpa using this
              split at h
              · rename_i hsend
                have hrun : (execOp a.eval o).run P w = .ok (.comm #[rcase b z'] false .select) w := by
                  simp [execOp, hop, rz, rcase, hce, hsend]
                cases hxs : xs with
                | nil =>
                  have hb0 : buf' = #[] := by apply Array.ext'; rw [g4, hxs]; rfl
                  subst hb0
                  exact nwp_comm hops hg hrun (fun fr cs es hst => step_lone_select_default hst g3) (fin (h.1 hxs) rfl rfl (.tup (.cons (.int _ _ (by decide)) (.cons (.bool _) (.cons (dz ρ) .nil)))) hs hcc)
                | cons x rest2 =>
                  have hsz : 0 < buf'.size := by rw [hlen, hxs]; simp
                  have hx0 : okS x 0 .s = true := g5 x (by rw [hxs]; simp)
                  have hbt : buf'.toList = .string (x.s 0) :: rest2.map (fun x => vS x 0 .s) := by rw [g4, hxs]; rfl
                  obtain ⟨q1, q2⟩ := upd rest2 (buf'.extract 1 buf'.size) s' (r + 1) (by
                    rw [Array.toList_extract, hbt]; simp [List.extract, hlen, hxs]; exact List.take_of_length_le (by simp)) (fun y hy => g5 y (by rw [hxs]; exact List.mem_cons_of_mem _ hy))
                  have hgd : buf'.getD 0 undef = .string (x.s 0) := by
                    have h0 : buf'[0]? = some (.string (x.s 0)) := by rw [← Array.getElem?_toList, hbt]; rfl
                    simp [Array.getD_eq_getD_getElem?, h0]
                  refine nwp_comm hops hg hrun (fun fr cs es hst => (step_lone_select_recv_buf hst g3 hsz)) ?_
                  rw [hgd]
                  exact fin (h.2 x rest2 hxs) rfl rfl (.tup (.cons (.int _ _ (by decide)) (.cons (.bool _) (.cons (.str _ (by simpa [okS] using hx0)) .nil)))) q1 q2
              · rename_i y hsend
                split at h
                · rename_i t hy
                  have hty := ev_spec ht hy
                  generalize hye : a.eval y = yv at hty
                  cases hty
                  rename_i htsz
                  have hrun : (execOp a.eval o).run P w = .ok (.comm #[scase b (.string t) z'] false .select) w := by
                    simp [execOp, hop, rz, scase, hce, hsend, hye]
                  have hb := bsplit_spec h
                  cases hlt : Nat.blt xs.length cap with
                  | true =>
                    rw [hlt] at hb
                    have hroom : buf'.size < cap := by rw [hlen]; exact blt_len hlt
                    obtain ⟨q1, q2⟩ := upd (xs ++ [rwA [.str t]]) (buf'.push (.string t)) (s' + 1) r (by rw [Array.toList_push, g4]; simp; rfl) (fun y hy => by
                      rcases List.mem_append.1 hy with hy | hy
                      · exact g5 y hy
                      · simp at hy; subst hy; simpa [okS, rwA] using htsz)
                    exact nwp_comm hops hg hrun (fun fr cs es hst => step_lone_select_send_room hst g3 hroom) (fin hb rfl rfl (.tup (.cons (.int _ _ (by decide)) (.cons (.bool _) .nil))) q1 q2)
                  | false =>
                    rw [hlt] at hb
                    have hfull : cap ≤ buf'.size := by
                      rw [hlen]
                      have : ¬ xs.length < cap := fun e => by
                        have : Nat.blt xs.length cap = true := Nat.ble_eq_true_of_le e
                        rw [hlt] at this; cases this
                      omega
                    exact nwp_comm hops hg hrun (fun fr cs es hst => step_lone_select_send_full hst g3 hfull) (fin hb rfl rfl (.tup (.cons (.int _ _ (by decide)) (.cons (.bool _) .nil))) hs hcc)
                · exact h.elim
            · exact h.elim
          · exact h.elim
        · exact h.elim
      · cases hsel
    · exact nwp_of (wp_region_list (aops_ok hΓ hQ h hm))
  · exact nwp_of (wp_region_list (aops_ok hΓ hQ h hm))

/-! ### Loops -/
inductive Ex where | normal | exit (n : Nat) | ret
def Ex.of : Ex → Exit | .normal => .normal | .exit n => .exit n | .ret => .ret
/-- 's' is no more than 's' says, at any frame whose names lie below m. -/
def Weak (I : Interp O) (m : Nat) (s s' : St O) : Prop := ∀ c : Ctx, (∀ n, m ≤ n → c.ρ0 n = none) → ∀ a w, Mt I c s a w → Mt I c s' a w
theorem Weak.refl (m : Nat) (s : St O) : Weak I m s s := fun _ _ _ _ h => h
theorem Weak.trans {m : Nat} {s s' s'' : St O} (h : Weak I m s s') (k : Weak I m s' s'') : Weak I m s s'' := fun c hc a w hm => k c hc a w (h c hc a w hm)
abbrev Kt (O : Type) := Ex → St O → Prop
def lpost (I : Interp O) (m : Nat) (X : St O → Prop) (K : Kt O) : Kt O := fun e s => match e with
  | .normal => ∃ s', Weak I m s s' ∧ X s'
  | e => K e s
/-- A loop: the least of what its rounds lead to. -/
def LoopAt (I : Interp O) (m : Nat) (body : St O → Kt O → Prop) (K : Kt O) (s : St O) : Prop :=
  ∀ X : St O → Prop, (∀ s K', body s K' → (∀ e s', K' e s' → lpost I m X K e s') → X s) → X s
def ALoop (I : Interp O) (m : Nat) (b : Code) (body : St O → Kt O → Prop) (K : Kt O) (s : St O) : Prop := ∃ s', Weak I m s s' ∧ LoopAt I m body K s'
theorem ALoop.weak {m : Nat} {b : Code} {body : St O → Kt O → Prop} {K : Kt O} {s s' : St O} (hw : Weak I m s s') (h : ALoop I m b body K s') : ALoop I m b body K s :=
  let ⟨s'', hw', h⟩ := h; ⟨s'', hw.trans hw', h⟩
theorem ALoop.step {m : Nat} {b : Code} {body : St O → Kt O → Prop} {K : Kt O} {s : St O} (h : body s (lpost I m (ALoop I m b body K) K)) : ALoop I m b body K s := ⟨s, Weak.refl m s, fun X hX =>
  hX s _ h fun e s' hk => by
    cases e with
    | normal => obtain ⟨s'', hw, s3, hw', ha⟩ := hk; exact ⟨s3, hw.trans hw', ha X hX⟩
    | _ => exact hk⟩
theorem ALoop.inv {m : Nat} {b : Code} {body : St O → Kt O → Prop} {K : Kt O} {α : Type} (J : α → St O) (G : α → Prop) (μ : α → Nat)
    (round : ∀ x, G x → body (J x) (lpost I m (fun s => ∃ y, G y ∧ μ y < μ x ∧ s = J y) K)) (x : α) (hx : G x) : ALoop I m b body K (J x) := ⟨_, Weak.refl m _, fun X hX => by
  have : ∀ n x, μ x = n → G x → X (J x) := by
    intro n
    induction n using Nat.strongRecOn with
    | _ n ih =>
      intro x hn hx
      refine hX _ _ (round x hx) fun e s' hk => ?_
      cases e with
      | normal =>
        obtain ⟨s'', hw, y, hy, hlt, rfl⟩ := hk
        exact ⟨_, hw, ih (μ y) (hn ▸ hlt) y rfl hy⟩
      | _ => exact hk
  exact this _ x rfl hx⟩

/-! ### Code -/
def athen (b : Code) (K1 : St O → Prop) (K : Kt O) : Kt O := fun e s => match e with | .normal => K1 s | e => K e s
def ablock (i : Nat) (K : Kt O) : Kt O := fun e s => match e with
  | .exit j => match Nat.beq j i with | true => K .normal s | false => K (.exit j) s
  | e => K e s
/-- Where the machine stops between two parts of some code: what is known is told anew there. -/
def cutIds : List (Nat × Nat) := [(23, 6)]
def cutAt : Code → Bool
  | .seq (.region id ops _) _ => cutIds.any fun p => Nat.beq p.1 id && Nat.beq p.2 ops.size
  | _ => false
def ASeq (I : Interp O) (m : Nat) (b : Code) (body : St O → Kt O → Prop) (K : Kt O) (s : St O) : Prop := ∃ s', Weak I m s s' ∧ body s' K
theorem ASeq.weak {m : Nat} {b : Code} {body : St O → Kt O → Prop} {K : Kt O} {s s' : St O} (hw : Weak I m s s') (h : ASeq I m b body K s') : ASeq I m b body K s :=
  let ⟨s'', hw', h⟩ := h; ⟨s'', hw.trans hw', h⟩
theorem ASeq.go {m : Nat} {b : Code} {body : St O → Kt O → Prop} {K : Kt O} {s : St O} (h : body s K) : ASeq I m b body K s := ⟨s, Weak.refl m s, h⟩
def setBO (s : St O) (x : Operand) (b : Bool) : St O := match x with | .tmp t => setB s t b | _ => s
def acode (I : Interp O) (P : Program) (Γ : Gam O) (D : Array Oper → St O → (St O → Prop) → Prop) (m : Nat) : Code → St O → Kt O → Prop
  | .skip, s, K => K .normal s
  | .region _ ops draw, s, K => match draw with
    | false => areg P Γ ops s (K .normal)
    | true => D ops s (K .normal)
  | .seq a b, s, K => acode I P Γ D m a s (athen b (fun s => match cutAt b with | true => ASeq I m b (acode I P Γ D m b) K s | false => acode I P Γ D m b s K) K)
  | .cond c a b, s, K => withV (ev s.tm c) fun
    | .bool x => bsplit x fun | true => acode I P Γ D m a (setBO s c true) K | false => acode I P Γ D m b (setBO s c false) K
    | _ => False
  | .block i a, s, K => acode I P Γ D m a s (ablock i K)
  | .loop b, s, K => ALoop I m b (acode I P Γ D m b) K s
  | .exit i, s, K => K (.exit i) s
  | .label _, s, K => K .normal s
  | .scope b, s, K => acode I P Γ D m b s K
  | .ret, s, K => K .ret s
  | _, _, _ => False
def DOk (I : Interp O) (P : Program) (D : Array Oper → St O → (St O → Prop) → Prop) : Prop :=
  ∀ (c : Ctx) (id : Nat) (ops : Array Oper) (s : St O) (K : St O → Prop) (Q : Exit → Act → World → Prop), (∀ a w, KT I c K a w → Q .normal a w) → ∀ a w, D ops s K → Mt I c s a w → (Code.region id ops true).wp P Q a w
def QK (I : Interp O) (c : Ctx) (K : Kt O) : Exit → Act → World → Prop := fun e a w => ∃ x s, e = x.of ∧ K x s ∧ Mt I c s a w
/-- A part of some code: false: the first, or inner, part; true: the second one. -/
def cdl : Code → Code
  | .seq a _ | .cond _ a _ | .block _ a | .loop a | .scope a => a
  | c => c
def cdr : Code → Code
  | .seq _ b | .cond _ _ b => b
  | c => c
def cd (f : Func) (l : List Bool) : Code := l.foldl (fun c b => match b with | false => cdl c | true => cdr c) (f.body.getD .skip)
theorem acode_ok {Γ : Gam O} (hΓ : GOk I P Γ) {D : Array Oper → St O → (St O → Prop) → Prop} (hD : DOk I P D) {m : Nat} {c : Ctx} (hc : ∀ n, m ≤ n → c.ρ0 n = none) :
    ∀ (code : Code) {s : St O} {K : Kt O} {a : Act} {w : World}, acode I P Γ D m code s K → Mt I c s a w → nwp P code (QK I c K) a w
  | .skip, s, K, a, w, h, hm => nwp_of (wp_skip ⟨.normal, s, rfl, h, hm⟩)
  | .region id ops draw, s, K, a, w, h, hm => by
    cases draw with
    | false => exact areg_ok hΓ (fun a w ⟨s, hk, hm⟩ => ⟨.normal, s, rfl, hk, hm⟩) h hm
    | true => exact nwp_of (hD c id ops s (K .normal) _ (fun a w ⟨s, hk, hm⟩ => ⟨.normal, s, rfl, hk, hm⟩) a w h hm)
  | .seq x y, s, K, a, w, h, hm => by
    refine nwp_seq (nwp_mono (acode_ok hΓ hD hc x h hm) ?_)
    rintro e a w ⟨x, s, rfl, hk, hm⟩
    cases x with
    | normal =>
      simp only [athen] at hk
      split at hk
      · obtain ⟨s', hw, hk⟩ := hk
        exact acode_ok hΓ hD hc y hk (hw c hc _ _ hm)
      · exact acode_ok hΓ hD hc y hk hm
    | exit n => exact ⟨.exit n, s, rfl, hk, hm⟩
    | ret => exact ⟨.ret, s, rfl, hk, hm⟩
  | .cond cc x y, s, K, a, w, h, hm => by
    simp only [acode] at h
    obtain ⟨v, hv, h⟩ := withV_spec h
    split at h
    · rename_i b
      have hb := bsplit_spec h
      obtain ⟨hd, hz, ρ, fp, ht, hs, hcc⟩ := id hm
      have hev := ev_spec ht hv
      generalize he : a.eval cc = cv at hev
      cases hev
      have hm' : Mt I c (setBO s cc b) a w := by
        unfold setBO
        split
        · exact (setB_ok (ρ := ρ) ⟨hd, hz, fp, ht, hs, hcc⟩ hv).mt
        · exact hm
      refine nwp_cond he ?_
      cases b
      · exact acode_ok hΓ hD hc y hb hm'
      · exact acode_ok hΓ hD hc x hb hm'
    · exact h.elim
  | .block i x, s, K, a, w, h, hm => by
    refine nwp_block (nwp_mono (acode_ok hΓ hD hc x h hm) ?_)
    rintro e a w ⟨x, s, rfl, hk, hm⟩
    cases x with
    | normal => exact ⟨.normal, s, rfl, hk, hm⟩
    | exit n =>
      simp only [Ex.of, Exit.inBlock]
      simp only [ablock] at hk
      split at hk
      · rename_i hb
        rw [if_pos (Nat.eq_of_beq_eq_true hb)]
        exact ⟨.normal, s, rfl, hk, hm⟩
      · rename_i hb
        rw [if_neg (Nat.ne_of_beq_eq_false hb)]
        exact ⟨.exit n, s, rfl, hk, hm⟩
    | ret => exact ⟨.ret, s, rfl, hk, hm⟩
  | .loop b, s, K, a, w, h, hm => by
    have key : ∀ a w, Mt I c s a w → ∀ (fr : Frame) (k : List Item) (cs : List Frame), fr.kind ≠ .early → ∃ e a' w', QK I c K e a' w' ∧ Arrives P (lone (fr.at a (.code b :: .inLoop b :: k)) cs w) fr k cs e a' w' := by
      obtain ⟨s₀, hw₀, h⟩ := h
      intro a w hm
      replace hm := hw₀ c hc a w hm
      revert a w
      refine h (fun s => ∀ a w, Mt I c s a w → ∀ (fr : Frame) (k : List Item) (cs : List Frame), fr.kind ≠ .early → ∃ e a' w', QK I c K e a' w' ∧ Arrives P (lone (fr.at a (.code b :: .inLoop b :: k)) cs w) fr k cs e a' w') ?_
      intro s K' hb hK a w hm fr k cs hfr
      obtain ⟨e, a₁, w₁, ⟨x, s₁, rfl, hk, hm₁⟩, harr⟩ := acode_ok hΓ hD hc b hb hm fr (.inLoop b :: k) cs hfr
      have hp := hK x s₁ hk
      cases x with
      | normal =>
        obtain ⟨s₂, hw, hX⟩ := hp
        obtain ⟨e₂, a₂, w₂, hq₂, harr₂⟩ := hX a₁ w₁ (hw c hc _ _ hm₁) fr k cs hfr
        exact ⟨e₂, a₂, w₂, hq₂, .of_steps (Steps.trans harr (.one step_inLoop)) harr₂⟩
      | exit n => exact ⟨_, a₁, w₁, ⟨.exit n, s₁, rfl, hp, hm₁⟩, .pass (x := .inLoop b) rfl (fun _ _ => .inl (by simp [Ex.of])) harr⟩
      | ret => exact ⟨_, a₁, w₁, ⟨.ret, s₁, rfl, hp, hm₁⟩, .pass (x := .inLoop b) rfl (fun _ _ => .inl (by simp [Ex.of])) harr⟩
    intro fr k cs hfr
    obtain ⟨e, a', w', hq, harr⟩ := key a w hm fr k cs hfr
    exact ⟨e, a', w', hq, .of_steps (.one step_loop) harr⟩
  | .exit i, s, K, a, w, h, hm => nwp_of (wp_exit ⟨.exit i, s, rfl, h, hm⟩)
  | .label l, s, K, a, w, h, hm => nwp_of (wp_label ⟨.normal, s, rfl, h, hm⟩)
  | .scope b, s, K, a, w, h, hm => by
    refine nwp_scope (nwp_mono (acode_ok hΓ hD hc b h hm) ?_)
    rintro e a w ⟨x, s, rfl, hk, hm⟩
    cases x <;> exact ⟨_, s, rfl, hk, hm⟩
  | .ret, s, K, a, w, h, hm => nwp_of (wp_ret ⟨.ret, s, rfl, h, hm⟩)
  | .rangeFunc .., _, _, _, _, h, _ => h.elim
  | .goto _, _, _, _, _, h, _ => h.elim
  | .refuse _, _, _, _, _, h, _ => h.elim
end Go.Tb
