/- A slice of plain things as an argument: rows that are read. -/
import Derived.Test.YtojppaicjioohaaM16
import Derived.ChangeArms
import Derived.DataReads
import Derived.OpenShut
import Derived.WideShapes
set_option linter.all false
set_option linter.constructorNameAsVariable false
namespace Go.Tb
open Go Go.RowKit Go.WideShapes Go.ChangeShapes
variable {P : Program} {H : Type} {enc : TypeId × Value → H} {w : World} {base : Nat} {sp : Nat → Bool} {held : Bool}
def Fit (s : Sh) (v : Value) : Prop := match s with
  | .b => ∃ b, v = .bool b
  | .i k => ∃ n, v = .int k n ∧ inK k n = true
  | .s => ∃ s, v = .string s ∧ s.size ≤ 9223372036854775807
  | .v => False
def Fits (l : List Sh) (cs : List Value) : Prop := l.length = cs.length ∧ ∀ (i : Nat) (s : Sh) (v : Value), l[i]? = some s → cs[i]? = some v → Fit s v
theorem Fits.append {a b : List Sh} {c d : List Value} (h : Fits a c) (k : Fits b d) : Fits (a ++ b) (c ++ d) := by
  refine ⟨by simp [h.1, k.1], fun i s v hs hv => ?_⟩
  by_cases hi : i < a.length
  · rw [List.getElem?_append_left hi] at hs
    rw [List.getElem?_append_left (by rw [← h.1]; exact hi)] at hv
    exact h.2 i s v hs hv
  · rw [List.getElem?_append_right (by omega)] at hs
    rw [List.getElem?_append_right (by rw [← h.1]; omega), ← h.1] at hv
    exact k.2 _ s v hs hv
theorem shpF_fits {g : TypeId → Option (List Sh)} {f : TypeId → List Value → Prop} (hg : ∀ t l cs, g t = some l → f t cs → Fits l cs) : ∀ (fs : List (TypeId × Nat)) (off : Nat) (l : List Sh) (cs : List Value), shpF P g off fs = some l →
    (∀ x ∈ fs, f x.1 ((cs.drop x.2).take (P.cellsOf x.1))) → cs.length = off + l.length → Fits l (cs.drop off)
  | [], off, l, cs, h, _, hl => by
    simp [shpF] at h; subst h
    refine ⟨by simp at hl ⊢; omega, fun i s v hs _ => by simp at hs⟩
  | (t, o) :: r, off, l, cs, h, hf, hl => by
    simp only [shpF] at h
    split at h
    · rename_i l1 h1
      split at h
      · rename_i hb
        simp only [Bool.and_eq_true, Nat.beq_eq] at hb
        split at h
        · rename_i q hq
          cases h
          have e1 := hg t l1 _ h1 (hf _ (.head _))
          simp only [List.length_append] at hl
          have e2 := shpF_fits hg r (off + l1.length) q cs hq (fun x hx => hf x (.tail _ hx)) (by omega)
          have : cs.drop off = ((cs.drop o).take (P.cellsOf t)) ++ cs.drop (off + l1.length) := by
            rw [hb.1, hb.2, ← List.drop_drop]; exact (List.take_append_drop _ _).symm
          rw [this]
          exact e1.append e2
        · cases h
      · cases h
    · cases h
theorem trod_fits : ∀ (d : Nat) (t : TypeId) (l : List Sh) (cs : List Value), shp P d t = some l → (∃ fuel x, DataW.trod enc P w base sp held fuel t cs = some x) → Fits l cs
  | 0, t, l, cs, h, _ => by simp [shp] at h
  | d + 1, t, l, cs, h, ⟨fuel, x, hx⟩ => by
    have ih := trod_fits d
    unfold shp at h
    cases fuel with
    | zero => simp [DataW.trod] at hx
    | succ fuel =>
    split at h
    · rename_i ht; cases h
      obtain ⟨b, rfl, _⟩ := DataW.trod_bool ht hx
      exact ⟨rfl, fun i s v hs hv => by cases i <;> simp at hs hv; subst hs; subst hv; exact ⟨_, rfl⟩⟩
    · rename_i k ht; cases h
      obtain ⟨n, rfl, _, hw⟩ := DataW.trod_int ht hx
      exact ⟨rfl, fun i s v hs hv => by cases i <;> simp at hs hv; subst hs; subst hv; exact ⟨_, rfl, inK_wf hw⟩⟩
    · rename_i ht; cases h
      have hx2 := hx
      unfold DataW.trod at hx2
      rw [ht] at hx2
      split at hx2 <;> try (cases hx2; done)
      all_goals try (rename_i he; cases he; done)
      all_goals try (rename_i he _; cases he; done)
      all_goals try (rename_i he _ _; cases he; done)
      all_goals try (rename_i he _ _ _; cases he; done)
      split at hx2
      · rename_i s _ hs
        refine ⟨rfl, fun i s' v hs' hv => ?_⟩
        cases i <;> simp at hs' hv
        subst hs'; subst hv
        exact ⟨_, rfl, hs⟩
      · cases hx2
    · rename_i fs ht
      split at h
      · rename_i l' hl'
        split at h
        · rename_i hb
          cases h
          have hb := Nat.eq_of_beq_eq_true hb
          have hx2 := hx
          unfold DataW.trod at hx2
          simp only [ht] at hx2
          split at hx2
          · rename_i hlen
            simp only [Option.map_eq_some_iff] at hx2
            obtain ⟨xs, hxs, _⟩ := hx2
            have := shpF_fits (P := P) (f := fun t cs => ∃ fuel x, DataW.trod enc P w base sp held fuel t cs = some x) (fun t l cs h1 h2 => ih t l cs h1 h2) _ 0 _ cs hl' (fun x hx => by
              simp only [List.mem_map] at hx
              obtain ⟨f, hf, rfl⟩ := hx
              obtain ⟨y, hy⟩ := mapM_each hxs f hf
              exact ⟨_, _, hy⟩) (by omega)
            rwa [List.drop_zero] at this
          · cases hx2
        · cases h
      · cases h
    · rename_i n e ht
      split at h
      · rename_i l' hl'
        split at h
        · rename_i hb
          cases h
          have hb := Nat.eq_of_beq_eq_true hb
          have hx2 := hx
          unfold DataW.trod at hx2
          simp only [ht] at hx2
          split at hx2
          · rename_i hlen
            simp only [Option.map_eq_some_iff] at hx2
            obtain ⟨xs, hxs, _⟩ := hx2
            have := shpF_fits (P := P) (f := fun t cs => ∃ fuel x, DataW.trod enc P w base sp held fuel t cs = some x) (fun t l cs h1 h2 => ih t l cs h1 h2) _ 0 _ cs hl' (fun x hx => by
              simp only [List.mem_map] at hx
              obtain ⟨f, hf, rfl⟩ := hx
              obtain ⟨y, hy⟩ := mapM_each hxs f hf
              exact ⟨_, _, hy⟩) (by omega)
            rwa [List.drop_zero] at this
          · cases hx2
        · cases h
      · cases h
    · cases h
theorem rw_fits {l : List Sh} {cs : List Value} (h : Fits l cs) (ρ : Rho) : Dens ρ (encR (rwOf cs) 0 l) cs := by
  refine Dens.of (by rw [encR_length]; exact h.1) fun i u hu => ?_
  rw [encR_get] at hu
  cases hs : l[i]? with
  | none => rw [hs] at hu; simp at hu
  | some s =>
    rw [hs] at hu; simp at hu
    have hi : i < cs.length := by have := (List.getElem?_eq_some_iff.1 hs).1; rw [h.1] at this; exact this
    have hv : cs[i]? = some cs[i] := List.getElem?_eq_getElem hi
    refine ⟨cs[i], hv, ?_⟩
    have hf := h.2 i s _ hs hv
    rw [← hu]
    cases s with
    | b => obtain ⟨b, e⟩ := hf; simp only [encS, rwOf, hv, e]; exact .bool b
    | i k => obtain ⟨n, e, hn⟩ := hf; simp only [encS, rwOf, hv, e]; exact .int _ _ hn
    | s => obtain ⟨s, e, hn⟩ := hf; simp only [encS, rwOf, hv, e]; exact .str _ hn
    | v => exact hf.elim
/-- A slice of plain things: none, or rows in a block of the world. -/
theorem open_slice {r : Reach} {b0 : Nat} {t e : TypeId} {v : Value} {d : DataW H} {ps : List MemPlace} {l : List Sh} (ht : P.underlying t = some (.slice e)) (hs : shp P 8 e = some l) (hc : Nat.beq (P.cellsOf e) l.length = true)
    (hval : Value.okWide P w r b0 t v) (hd : DataW.Trod enc P w base sp held t v d ps) :
    v = .slice none 0 0 ∨ ∃ b z len cap ob xs, v = .slice (some ⟨b, z, none⟩) len cap ∧ len ≤ cap ∧ cap ≤ 9223372036854775807 ∧ w.heap[b]? = some ob ∧ (∃ arr t k, ob = .cells arr t k ∧ ∀ ρ : Rho, CellsAt ρ z (encL l xs) arr) ∧ xs.length = len := by
  have hc := Nat.eq_of_beq_eq_true hc
  obtain ⟨fuel, hd⟩ := hd
  rcases DataW.trod_slice ht hd with ⟨h0, _⟩ | ⟨a, len, cap, elems, rest, n, _, h0, _, hb, hl, hm, hlen, hel, _, _⟩
  · have hv : v = .slice none 0 0 := by
      cases v with
      | agg c => exfalso; simp [Value.okWide, ht, Cell.okWide, Cell.ok] at hval
      | slice p q r => simp [Value.cells] at h0; obtain ⟨rfl, rfl, rfl⟩ := h0; rfl
      | _ => simp [Value.cells] at h0
    exact .inl hv
  · have hv : v = .slice (some a) len cap := by
      cases v with
      | agg c => exfalso; simp [Value.okWide, ht, Cell.okWide, Cell.ok] at hval
      | slice p q r => simp [Value.cells] at h0; obtain ⟨rfl, rfl, rfl⟩ := h0; rfl
      | _ => simp [Value.cells] at h0
    subst hv
    right
    unfold Value.okWide at hval
    simp only [ht] at hval
    unfold Cell.okWide at hval
    simp only [ht] at hval
    unfold Cell.ok at hval
    simp only [ht] at hval
    obtain ⟨_, hcap, _, hsp, row, cells, hshape, _⟩ := hval
    obtain ⟨b, z, spot⟩ := a
    simp only at hsp
    subst hsp
    unfold World.shape? at hshape
    split at hshape
    · rename_i arr t' k hob
      have cell : ∀ i, w.cell? ⟨b, i, none⟩ = arr[i]? := fun i => by simp [World.cell?, hob]
      have each : ∀ i, i < len → ∃ cs, Fits l cs ∧ ∀ j, j < l.length → arr[z + (i * l.length + j)]? = cs[j]? := fun i hi => by
        have h1 := hel i hi
        have h2 : elems[i]? = some elems[i] := List.getElem?_eq_getElem (by omega)
        rw [h2, Option.bind_eq_some_iff] at h1
        obtain ⟨cs, hcs, hy⟩ := h1
        have hf := trod_fits 8 e l cs hs ⟨_, _, hy⟩
        refine ⟨cs, hf, fun j hj => ?_⟩
        unfold World.cells? at hcs
        split at hcs
        · have := mapM_some_get hcs j j (by rw [List.getElem?_range (by omega)])
          rw [← this, ← cell]
          rw [addr_add, addr_add, hc, Nat.add_assoc]
        · cases hcs
      refine ⟨b, z, len, cap, _, (List.range len).map fun i => rwOf ((List.range l.length).map fun j => (arr[z + (i * l.length + j)]?).getD undef), rfl, hl, hm, hob, ⟨arr, t', k, rfl, fun ρ => ?_⟩, by simp⟩
      intro q v hv
      by_cases h0 : l.length = 0
      · exfalso
        have : (encL l ((List.range len).map fun i => rwOf ((List.range l.length).map fun j => (arr[z + (i * l.length + j)]?).getD undef))).length = 0 := by rw [encL_length, h0, Nat.mul_zero]
        have h1 := (List.getElem?_eq_some_iff.1 hv).1
        omega
      have hq : q < len * l.length := by
        have h1 := (List.getElem?_eq_some_iff.1 hv).1
        rw [encL_length] at h1; simpa using h1
      have hi : q / l.length < len := (Nat.div_lt_iff_lt_mul (by omega)).2 hq
      have hj : q % l.length < l.length := Nat.mod_lt _ (by omega)
      have hqe : q / l.length * l.length + q % l.length = q := by rw [Nat.mul_comm]; exact Nat.div_add_mod q l.length
      obtain ⟨cs, hf, hcs⟩ := each _ hi
      have hcs' : ((List.range l.length).map fun j => (arr[z + (q / l.length * l.length + j)]?).getD undef) = cs := by
        apply List.ext_getElem?
        intro j
        by_cases hjl : j < l.length
        · have hjc : j < cs.length := by rw [← hf.1]; exact hjl
          rw [List.getElem?_map, List.getElem?_range hjl]
          simp only [Option.map_some]
          rw [hcs j hjl, List.getElem?_eq_getElem hjc]; rfl
        · rw [List.getElem?_eq_none (by simp; omega), List.getElem?_eq_none (by rw [← hf.1]; omega)]
      have hg := encL_get (sh := l) (xs := (List.range len).map fun i => rwOf ((List.range l.length).map fun j => (arr[z + (i * l.length + j)]?).getD undef)) (i := q / l.length) (x := rwOf cs) (by rw [List.getElem?_map, List.getElem?_range hi]; simp only [Option.map_some]; rw [hcs']) hj
      rw [hqe, hv] at hg
      obtain ⟨x, hx, dx⟩ := (rw_fits hf ρ).get hg.symm
      exact ⟨x, by have := hcs _ hj; rw [hqe] at this; rw [this]; exact hx, dx⟩
    · cases hshape
/-- A function over a small heap, by its body. -/
theorem ocall {O : Type} {I : Interp O} (hmix : P.follows .mixedOrders = true) {Γ : Gam O} (hΓ : GOk I P Γ) {f : FuncId} {fn : Func} (hf : P.funcs[f]? = some fn) (hname : (fn.name == "runtime.NumGoroutine") = false) (hb : fn.body.isSome = true)
    (os : List (AO O)) (args : List AV) {K : AV → Tr (AO O) → Prop} (hn : Nat.blt args.length 16777215 = true) (hlen : Nat.blt os.length 16777215 = true)
    (h : rgs args = true → RgOs os → abody I P Γ (adraw P Γ) os.length fn args (Tr.ofList 0 os .leaf) os.length (fun v lh _ => K v lh)) : ACall I P f args (Tr.ofList 0 os .leaf) K := by
  refine ACall.of_rg (callable hf hname hb) fun hr => ⟨callable hf hname hb, fun ρ fp w args' hs hd => ?_⟩
  have hro : RgOs os := RgOs_of fun i o ho => okO_rg (hs.ok i o (ofList_mem (blt_iff.1 hlen) ho))
  have hm : ∀ n, os.length ≤ n → (Tr.ofList 0 os .leaf).get n = none := fun n hn => by
    cases hg : (Tr.ofList 0 os .leaf).get n with
    | none => rfl
    | some o => have := ofList_get0 (blt_iff.1 hlen) hg; have := (List.getElem?_eq_some_iff.1 this).1; omega
  refine ((body_call hΓ (adraw_ok hmix hΓ) hf (callable hf hname hb) hm hn (h hr hro)).2 ρ fp w args' hs hd).mono fun e w' hh => ?_
  obtain ⟨v, hp', ρ', fp', x, ⟨nx', hk⟩, r⟩ := hh
  exact ⟨v, hp', ρ', fp', x, hk, r⟩
/-- Rows that lie in a world: block, base, the block's object, shape, rows. -/
structure Seg where
  b : Nat
  z : Nat
  ob : Obj
  l : List Sh
  xs : List Rw
def Seg.ok (W : World) (s : Seg) : Prop := (s.xs = [] ∨ W.heap[s.b]? = some s.ob) ∧ ∃ arr t k, s.ob = .cells arr t k ∧ ∀ ρ : Rho, CellsAt ρ s.z (encL s.l s.xs) arr
/-- A function that is handed plain values, and rows to read, and tells true. -/
theorem walk_outs {O : Type} {I : Interp O} {f : FuncId} {args : List AV} {args' : List Value} {W : World} (ss : List Seg) (hss : ∀ s ∈ ss, s.ok W) (hlen : Nat.blt ss.length 16777215 = true)
    (h : ACall (I.frz W) P f args (Tr.ofList 0 (ss.map fun s => (.out s.ob s.l s.xs : AO O)) .leaf) (fun v _ => v = .bool true)) (hd : Dens (fun n => (ss[n]?).map fun s => (s.b, s.z)) args args') :
    Calls P f args'.toArray W fun e W' => e = .returned (.bool true) ∧ Below W.heap.size W W' := by
  have hl : (ss.map fun s => (.out s.ob s.l s.xs : AO O)).length < 16777215 := by rw [List.length_map]; exact blt_iff.1 hlen
  have hs : Sat (I.frz W) (fun n => (ss[n]?).map fun s => (s.b, s.z)) (fun _ => []) (Tr.ofList 0 (ss.map fun s => (.out s.ob s.l s.xs : AO O)) .leaf) W := by
    refine ⟨fun n o hn => ?_, fun n hn => ?_, fun n m c hn hm => by simp at hn, fun b ob hb => ⟨hb, fun n => by simp⟩⟩
    · have ho := ofList_get0 hl hn
      rw [List.getElem?_map] at ho
      cases hg : ss[n]? with
      | none => rw [hg] at ho; cases ho
      | some s =>
        rw [hg] at ho; simp at ho; subst ho
        obtain ⟨h1, arr, t, k, h2, h3⟩ := hss s (List.mem_of_getElem? hg)
        exact ⟨s.b, s.z, arr, t, k, by simp only [hg]; rfl, rfl, h1.imp id (fun h1 => ⟨h1, h1⟩), h2, h3 _⟩
    · refine ⟨?_, rfl⟩
      cases hg : ss[n]? with
      | none => rfl
      | some s =>
        have ho : (ss.map fun s => (.out s.ob s.l s.xs : AO O))[n]? = some (.out s.ob s.l s.xs) := by rw [List.getElem?_map, hg]; rfl
        have := ofList_mem hl ho
        rw [hn] at this; cases this
  refine (h.2 _ _ W args' hs hd).mono fun e W' ⟨v, hp', ρ', fp', x, hv, he, dx, hs', hsc⟩ => ?_
  subst hv
  cases dx
  exact ⟨he, hsc.os, hsc.tape, hsc.output, hsc.size, fun q hq => hsc.keep q hq (fun ⟨n, hn⟩ => by simp at hn)⟩
/-- A slice of plain things as an argument: none, or rows in a block of the world: told alike. -/
theorem open_slq {W : World} {l : List Sh} {v : Value} (h : v = .slice none 0 0 ∨ ∃ b z len cap ob xs, v = .slice (some ⟨b, z, none⟩) len cap ∧ len ≤ cap ∧ cap ≤ 9223372036854775807 ∧ W.heap[b]? = some ob ∧ (∃ arr t k, ob = .cells arr t k ∧ ∀ ρ : Rho, CellsAt ρ z (encL l xs) arr) ∧ xs.length = len) :
    ∃ (s : Seg) (len cap : Nat) (q : Bool), s.l = l ∧ s.xs.length = len ∧ s.ok W ∧ ∀ (n : Nat) (ρ : Rho), ρ n = some (s.b, s.z) → Den ρ (.slq n len cap q) v := by
  rcases h with rfl | ⟨b, z, len, cap, ob, xs, rfl, h1, h2, h3, h4, h5⟩
  · exact ⟨⟨0, 0, .cells #[] 0 (0, 0), l, []⟩, 0, 0, true, rfl, rfl, ⟨.inl rfl, _, _, _, rfl, fun ρ i v hv => by simp [encL] at hv⟩, fun n ρ _ => .slq0 n⟩
  · exact ⟨⟨b, z, ob, l, xs⟩, len, cap, false, rfl, h5, ⟨.inr h3, h4⟩, fun n ρ hn => .slq1 len cap hn h1 h2⟩
end Go.Tb
