/- Channels of plain data, in one goroutine: made, and met by a select of one case with a default; code that is run by a goroutine's own frames. -/
import Derived.Test.YtojppaicjioohaaM65
import Derived.Scope
import Derived.Conc.LoneSelect
set_option linter.all false
namespace Go.Tb
open Go Go.Conc Go.RowKit
variable {O : Type} {P : Program} {I : Interp O}

/-! ### Code in a frame that is not an early one -/
def nwp (P : Program) (c : Code) (Q : Exit → Act → World → Prop) (a : Act) (w : World) : Prop :=
  ∀ (b : Frame) (k : List Item) (cs : List Frame), b.kind ≠ .early → ∃ e a' w', Q e a' w' ∧ Arrives P (lone (b.at a (.code c :: k)) cs w) b k cs e a' w'
section
variable {Q Q' : Exit → Act → World → Prop} {a : Act} {w : World}
theorem nwp_of {c : Code} (h : c.wp P Q a w) : nwp P c Q a w := fun b k cs _ => h b k cs
theorem nwp_mono {c : Code} (h : nwp P c Q a w) (hq : ∀ e a w, Q e a w → Q' e a w) : nwp P c Q' a w :=
  fun b k cs hb => let ⟨e, a', w', q, r⟩ := h b k cs hb; ⟨e, a', w', hq _ _ _ q, r⟩
theorem nwp_seq {x y : Code} (h : nwp P x (fun e a w => match e with | .normal => nwp P y Q a w | e => Q e a w) a w) : nwp P (.seq x y) Q a w := by
  intro b k cs hb
  obtain ⟨e, a₁, w₁, hq, har⟩ := h b (.code y :: k) cs hb
  cases e with
  | normal =>
    obtain ⟨e₂, a₂, w₂, hq₂, har₂⟩ := hq b k cs hb
    exact ⟨e₂, a₂, w₂, hq₂, .of_steps (.head step_seq har) har₂⟩
  | _ => exact ⟨_, a₁, w₁, hq, .of_steps (.one step_seq) (.pass (x := .code y) rfl (fun _ _ => .inl (by simp)) har)⟩
theorem nwp_cond {c : Operand} {x y : Code} {t : Bool} (hc : a.eval c = .bool t) (h : nwp P (if t then x else y) Q a w) : nwp P (.cond c x y) Q a w :=
  fun b k cs hb => let ⟨e, a', w', q, r⟩ := h b k cs hb; ⟨e, a', w', q, .of_steps (.one (step_cond hc)) r⟩
theorem nwp_block {i : Nat} {c : Code} (h : nwp P c (Exit.inBlock i Q) a w) : nwp P (.block i c) Q a w := by
  intro b k cs hb
  have hw : Code.wp P .skip (fun _ _ _ => True) a w := wp_skip trivial
  obtain ⟨e, a₁, w₁, hq, har⟩ := h b (.inBlock i :: k) cs hb
  cases e with
  | normal => exact ⟨.normal, a₁, w₁, hq, .head step_block (Steps.trans har (.one step_inBlock))⟩
  | exit j =>
    by_cases hij : j = i
    · simp only [Exit.inBlock, hij, if_true] at hq
      exact ⟨.normal, a₁, w₁, hq, .head step_block (har k (by simp [exitTo, hij]))⟩
    · simp only [Exit.inBlock, hij, if_false] at hq
      have hn : (i == j) = false := by simp; exact fun h => hij h.symm
      exact ⟨.exit j, a₁, w₁, hq, fun k' hk => .head step_block (har k' (by simp [exitTo, hn, hk]))⟩
  | goto l => exact ⟨_, a₁, w₁, hq, fun k' hk => .head step_block (har k' (by simp [gotoIn, hk]))⟩
  | ret => exact ⟨_, a₁, w₁, hq, .of_steps (.one step_block) har⟩
  | panic ch => exact ⟨_, a₁, w₁, hq, .of_steps (.one step_block) har⟩
  | outgrown => exact ⟨_, a₁, w₁, hq, .of_steps (b := b) (k := k) (cs := cs) (e := .outgrown) (.one step_block) har⟩
theorem nwp_scope {c : Code} (h : nwp P c (Exit.noGoto Q) a w) : nwp P (.scope c) Q a w := by
  intro b k cs hb
  obtain ⟨e, a₁, w₁, hq, har⟩ := h b (.inScope c :: k) cs hb
  cases e with
  | normal => exact ⟨.normal, a₁, w₁, hq, .head step_scope (Steps.trans har (.one step_inScope))⟩
  | exit i => exact ⟨.exit i, a₁, w₁, hq, fun k' hk => .head step_scope (har k' (by simp [exitTo, hk]))⟩
  | goto l => exact hq.elim
  | ret => exact ⟨_, a₁, w₁, hq, .of_steps (.one step_scope) har⟩
  | panic ch => exact ⟨_, a₁, w₁, hq, .of_steps (.one step_scope) har⟩
  | outgrown => exact ⟨_, a₁, w₁, hq, .of_steps (.one step_scope) har⟩
/-- A function's body in such frames is a call. -/
theorem calls_of_nwp {f : FuncId} {fn : Func} {c : Code} {args : Array Value} {w : World} {R : Ending → World → Prop} (hf : P.funcs[f]? = some fn) (hb : fn.body = some c)
    (h : nwp P c (bodyPost P fn R) { tmps := args ++ Array.replicate (fn.ntmps - args.size) undef, defers := [] } w) : Calls P f args w R := by
  intro cs
  let b : Frame := { (default : Frame) with fn := f, kind := .normal }
  have hk : b.kind ≠ .early := by intro e; cases e
  have henter : Frame.enter P f args .normal = b.at { tmps := args ++ Array.replicate (fn.ntmps - args.size) undef, defers := [] } [.code c] := by
    simp [Frame.enter, Frame.at, hf, hb, b]
  obtain ⟨e, a', w', hq, har⟩ := h b [] cs hk
  rw [← henter] at har
  cases e with
  | normal =>
    obtain ⟨hd, v, hr, hR⟩ := hq
    exact ⟨.returned v, w', { b.at a' [] with mode := .returning }, hR, Steps.trans har (.one step_end), rfl, rfl, hd, rfl, fn, hf, hr⟩
  | ret =>
    obtain ⟨hd, v, hr, hR⟩ := hq
    obtain ⟨todo, hs⟩ := har
    exact ⟨.returned v, w', { b.at a' todo with mode := .returning }, hR, hs, rfl, rfl, hd, rfl, fn, hf, hr⟩
  | panic chain =>
    obtain ⟨hd, hR⟩ := hq
    obtain ⟨todo, hs⟩ := har
    exact ⟨.panicked chain, w', { b.at a' todo with mode := .panicking chain }, hR, hs, rfl, rfl, hd, fn, hf⟩
  | exit i => exact hq.elim
  | goto l => exact hq.elim
  | outgrown => exact ⟨.outgrown, w', b, hq, har.resolve_left hk, rfl, trivial⟩

/-- A region whose first operation is a communication that is done in one step. -/
theorem nwp_comm {id : Nat} {o : Oper} {rest : List Oper} {ops : Array Oper} (hops : ops.toList = o :: rest) (hg : o.guard = none) {cases : Array CommCase} (hrun : (execOp a.eval o).run P w = .ok (.comm cases false .select) w)
    {v : Value} {w' : World} (hstep : ∀ (fr : Frame) (cs : List Frame) (es : Array Event), stepG P true (G fr cs) w = .comm (G fr cs) cases false .select w es → step P (solo (G fr cs) w) = .next (solo (G (fr.finish v) cs) w'))
    (h : wpList P ops Q rest (a.put o.dst v) w') : nwp P (.region id ops false) Q a w := by
  intro b k cs hb
  have h0 : ops[0]? = some o := by rw [← Array.getElem?_toList, hops]; rfl
  have hsz : ops.size = rest.length + 1 := by have := congrArg List.length hops; simpa using this
  have hr : List.range ops.size = 0 :: List.range' 1 rest.length := by rw [List.range_eq_range', hsz, List.range'_succ]
  have hw : Region.wanted o (yielded ops a.tmps) = true := by simp [Region.wanted, hg]
  have hs := hstep _ cs _ (stepG_comm (P := P) (b := b) (a := a) (k := k) (cs := cs) (rest := List.range' 1 rest.length) h0 hw hb hrun)
  rw [Frame.finish_at, h0] at hs
  have hl : wpOps P ops Q (List.range' 1 rest.length) (a.put o.dst v) w' := by
    rw [wpOps_eq_wpList rest 1 (fun j => by rw [← Array.getElem?_toList, hops, Nat.add_comm 1 j]; rfl)]; exact h
  obtain ⟨e, a', w'', hq, har⟩ := wp_ops _ _ _ hl b k cs
  refine ⟨e, a', w'', hq, .of_steps (.one step_region) ?_⟩
  rw [hr]
  exact .of_steps (.one hs) har
end

/-! ### Channels made -/
def amakeChan (P : Program) (s : St O) (d : Option Tmp) (t : TypeId) (x : AV) (K : St O → Prop) : Prop := match x with
  | .int .i64 n => match P.underlying t with
    | some (.chan _ e) => match mkTU P e, P.info? e with
      | some .str, some i => (0 ≤ n ∧ n ≤ 9223372036854775807 ∧ (i.bytes : Int) * n ≤ 281474976710544) ∧ anew s (.ch n.toNat .s []) fun m s => putv s d (.chan m) K
      | _, _ => False
    | _ => False
  | _ => False
theorem amakeChan_ok {c : Ctx} {s : St O} {d : Option Tmp} {t : TypeId} {x : AV} {K : St O → Prop} (h : amakeChan P s d t x K) {a : Act} {w : World} (hd : a.defers = []) (hz : a.tmps.size = s.sz) {ρ : Rho} {fp : Nat → List Nat} (ht : TmOk ρ s.tm a.tmps)
    (hs : Sat I ρ fp s.hp w) (hc : Since c.w0 c.F0 c.ρ0 ρ fp w) {x' : Value} (hx : Den ρ x x') (p : Nat → Bool) : ∃ v w', (Instr.makeChan t x').run P w = .ok v w' ∧ KM I c ρ p s.hp K (a.put d v) w' := by
  unfold amakeChan at h
  split at h
  · rename_i n
    split at h
    · rename_i dir e hu
      split at h
      · rename_i i he hi
        obtain ⟨⟨h0, h1, h2⟩, h⟩ := h
        cases hx
        obtain ⟨s', ρ', fp', e1, e2, hk, hsm, hext, hn, ht', hs', hc'⟩ := new_any h ht hs hc (.chan n.toNat #[] false 0 0 false) (fun ρ' _ hn => ⟨w.heap.size, #[], 0, 0, hn, rfl, heap_alloc_new w _, rfl, fun x hx => by simp at hx⟩)
        have hm := run_makeChan (P := P) (w := w) hu hi .i64 n.toNat (by omega) (by rw [Int.toNat_of_nonneg h0]; exact h2)
        rw [Int.toNat_of_nonneg h0] at hm
        exact ⟨_, _, hm, putv_ok hk hd (hz.trans e2.symm) ht' hs' hc' (.chan hn) hext (hsm p)⟩
      · exact h.elim
    · exact h.elim
  · exact h.elim
end Go.Tb
