/- The abstract machine's operations on maps of plain data. -/
import Derived.Test.YtojppaicjioohaaM61
set_option linter.all false
namespace Go.Tb
open Go
variable {O : Type} {P : Program} {I : Interp O}

/-! ### Objects that are no cells: read, and set -/
def setO (w : World) (r : Nat) (o : Obj) : World := { w with heap := w.heap.setIfInBounds r o }
theorem run_getO {w : World} {r : Nat} {o : Obj} (h : w.heap[r]? = some o) (hn : ∀ c t f, o ≠ .cells c t f) : (getObj r).run P w = .ok o w := by
  cases o with
  | cells c t f => exact absurd rfl (hn c t f)
  | _ => simp [getObj, Sem.run, h]
theorem run_setO {w : World} {r : Nat} {o : Obj} (o' : Obj) (h : w.heap[r]? = some o) (hn : ∀ c t f, o ≠ .cells c t f) : (setObj r o').run P w = .ok () (setO w r o') := by
  cases o with
  | cells c t f => exact absurd rfl (hn c t f)
  | _ => simp [setObj, Sem.run, h, setO]
theorem setO_self {w : World} {r : Nat} {o o' : Obj} (h : w.heap[r]? = some o) : (setO w r o').heap[r]? = some o' := by
  have := (Array.getElem?_eq_some_iff.1 h).1
  simp [setO, this]
theorem setO_other {w : World} {r k : Nat} {o : Obj} (h : k ≠ r) : (setO w r o).heap[k]? = w.heap[k]? := by
  simp [setO, Array.getElem?_setIfInBounds_ne (Ne.symm h)]
theorem setO_size (w : World) (r : Nat) (o : Obj) : (setO w r o).heap.size = w.heap.size := by simp [setO]
theorem Since.setO {c : Ctx} {ρ : Rho} {fp : Nat → List Nat} {w : World} (hc : Since c.w0 c.F0 c.ρ0 ρ fp w) {n b : Nat} (hb : b ∈ fp n) (o : Obj) : Since c.w0 c.F0 c.ρ0 ρ fp (setO w b o) where
  os := hc.os
  tape := hc.tape
  output := hc.output
  size := by rw [setO_size]; exact hc.size
  keep := fun k hk hF => by
    refine (setO_other (fun e => ?_)).trans (hc.keep k hk hF)
    subst e
    rcases hc.own n k hb with h' | h'
    · exact hF h'
    · omega
  own := hc.own
  ext := hc.ext
theorem Since.drew {c : Ctx} {ρ : Rho} {fp : Nat → List Nat} {w : World} (hc : Since c.w0 c.F0 c.ρ0 ρ fp w) : Since c.w0 c.F0 c.ρ0 ρ fp w.drew := ⟨hc.os, hc.tape, hc.output, hc.size, hc.keep, hc.own, hc.ext⟩
theorem Sat.drew {ρ : Rho} {fp : Nat → List Nat} {h : Tr (AO O)} {w : World} (hs : Sat I ρ fp h w) : Sat I ρ fp h w.drew := ⟨fun n o hn => (hs.ok n o hn).mono (Ext.refl _) (fun _ _ _ h => h) (fun _ _ => rfl), hs.dom, hs.dis, hs.fz⟩

/-! ### Keys -/
def isK (x : Rw) : AV → Bool
  | .int _ n => x.i 0 == n
  | .str s => x.s 0 == s
  | .bool b => x.b 0 == b
  | _ => false
theorem ba_beq (a b : ByteArray) : (a == b) = true ↔ a = b := by
  cases a with | mk a => cases b with | mk b =>
  show (a == b) = true ↔ _
  rw [beq_iff_eq]
  exact ⟨fun h => by rw [h], fun h => by cases h; rfl⟩
def sameK (x y : Rw) : Sh → Bool
  | .i _ => x.i 0 == y.i 0
  | .b => x.b 0 == y.b 0
  | .s => x.s 0 == y.s 0
  | .v => false
def kfit (s : Sh) : AV → Bool
  | .int k _ => match s with | .i k' => decide (k = k') | _ => false
  | .str _ => match s with | .s => true | _ => false
  | .bool _ => match s with | .b => true | _ => false
  | _ => false
def ktOk (P : Program) (t : TypeId) (s : Sh) : Bool := match mkTU P t, s with
  | some (.int k), .i k' => decide (k = k')
  | some .str, .s => true
  | some .bool, .b => true
  | _, _ => false
theorem kfit_val {s : Sh} {k : AV} (h : kfit s k = true) {ρ : Rho} {v : Value} (hd : Den ρ k v) : ∃ y : Rw, okS y 0 s = true ∧ v = vS y 0 s ∧ k = encS y 0 s ∧ ∀ x : Rw, isK x k = sameK x y s := by
  cases k <;> simp only [kfit] at h <;> try (cases h; done)
  · cases s <;> simp at h
    cases hd
    exact ⟨⟨fun _ => 0, fun _ => _, fun _ => default, fun _ _ => 0⟩, rfl, rfl, rfl, fun x => rfl⟩
  · cases s <;> simp at h
    subst h
    cases hd
    exact ⟨⟨fun _ => _, fun _ => false, fun _ => default, fun _ _ => 0⟩, by simpa [okS], rfl, rfl, fun x => rfl⟩
  · cases s <;> simp at h
    cases hd
    exact ⟨⟨fun _ => 0, fun _ => false, fun _ => _, fun _ _ => 0⟩, by simpa [okS], rfl, rfl, fun x => rfl⟩
def mfind (k : AV) : List (Rw × Nat) → Option (Rw × Nat)
  | [] => none
  | e :: l => match isK e.1 k with | true => some e | false => mfind k l
/-- The row of nothing. -/
def zrw : Rw := ⟨fun _ => 0, fun _ => false, fun _ => ByteArray.empty, fun _ _ => 0⟩
def mrow (k : AV) (es : List (Rw × Nat)) : Rw := match mfind k es with | some e => e.1 | none => zrw
def mhas (k : AV) (es : List (Rw × Nat)) : Bool := match mfind k es with | some _ => true | none => false
def mput (row : Rw) (k : AV) (clk : Nat) : List (Rw × Nat) → List (Rw × Nat)
  | [] => [(row, clk)]
  | e :: l => match isK e.1 k with | true => (row, e.2) :: l | false => e :: mput row k clk l
def mclk (k : AV) (es : List (Rw × Nat)) (clk : Nat) : Nat := match mfind k es with | some _ => clk | none => clk + 1
def mdel (k : AV) : List (Rw × Nat) → List (Rw × Nat)
  | [] => []
  | e :: l => match isK e.1 k with | true => l | false => e :: mdel k l
/-- What the search for a key finds: the place, and the value. -/
def mplace (k : AV) : List (Rw × Nat) → Nat → Option (Nat × (Rw × Nat))
  | [], _ => none
  | e :: l, i => match isK e.1 k with | true => some (i, e) | false => mplace k l (i + 1)
theorem mplace_find (k : AV) : ∀ (es : List (Rw × Nat)) (i : Nat), (mplace k es i).map (·.2) = mfind k es
  | [], _ => rfl
  | e :: l, i => by
    simp only [mplace, mfind]
    cases isK e.1 k with
    | true => rfl
    | false => exact mplace_find k l (i + 1)
theorem mplace_get (k : AV) : ∀ (es : List (Rw × Nat)) (i j : Nat) (e : Rw × Nat), mplace k es i = some (j, e) → i ≤ j ∧ es[j - i]? = some e ∧ isK e.1 k = true
  | [], _, _, _, h => by simp [mplace] at h
  | e :: l, i, j, e', h => by
    simp only [mplace] at h
    cases hk : isK e.1 k with
    | true => rw [hk] at h; simp at h; obtain ⟨rfl, rfl⟩ := h; simp [hk]
    | false =>
      rw [hk] at h
      obtain ⟨h1, h2, h3⟩ := mplace_get k l (i + 1) j e' h
      refine ⟨by omega, ?_, h3⟩
      rw [show j - i = (j - (i + 1)) + 1 by omega]; simpa using h2
theorem run_ktOk {t : TypeId} {s : Sh} (h : ktOk P t s = true) : ∃ d, P.underlying t = some d ∧ ((∃ k, s = .i k ∧ d = .int k) ∨ (s = .s ∧ d = .string) ∨ (s = .b ∧ d = .bool)) := by
  unfold ktOk at h
  split at h
  · rename_i k k' hk
    have h := of_decide_eq_true h
    subst h
    exact ⟨_, mkTU_int hk, .inl ⟨_, rfl, rfl⟩⟩
  · rename_i hk; exact ⟨_, mkTU_str hk, .inr (.inl ⟨rfl, rfl⟩)⟩
  · rename_i hk; exact ⟨_, mkTU_bool hk, .inr (.inr ⟨rfl, rfl⟩)⟩
  · cases h
theorem findNow_place {ms : MSh} {d : TypeDesc} (hd : (∃ k, ms.kt = .i k ∧ d = .int k) ∨ (ms.kt = .s ∧ d = .string) ∨ (ms.kt = .b ∧ d = .bool)) {k : AV} (hk : kfit ms.kt k = true) {ρ : Rho} {v : Value} (hv : Den ρ k v) :
    ∀ (es : List (Rw × Nat)) (i : Nat), Instr.findNow d v (es.map (mkE ms)) i = some ((mplace k es i).map fun p => (p.1, vval ms p.2.1)) := by
  obtain ⟨y, y1, y2, y3, y4⟩ := kfit_val hk hv
  intro es
  induction es with
  | nil => intro i; rfl
  | cons e l ih =>
    intro i
    have hs : Instr.sameNow d v (mkE ms e).key = some (isK e.1 k) := by
      rw [y4 e.1, y2]
      rcases hd with ⟨kk, h1, rfl⟩ | ⟨h1, rfl⟩ | ⟨h1, rfl⟩ <;> simp only [mkE, vkey, h1, vS, Instr.sameNow, if_true]
      · congr 1; simp only [sameK]; rw [Bool.eq_iff_iff, beq_iff_eq, beq_iff_eq]; exact ⟨Eq.symm, Eq.symm⟩
      · congr 1; simp only [sameK]; rw [Bool.eq_iff_iff, ba_beq, ba_beq]; exact ⟨Eq.symm, Eq.symm⟩
      · congr 1; simp only [sameK]; rw [Bool.eq_iff_iff, beq_iff_eq, beq_iff_eq]; exact ⟨Eq.symm, Eq.symm⟩
    simp only [List.map_cons, Instr.findNow, hs, mplace]
    cases isK e.1 k with
    | true => rfl
    | false => exact ih (i + 1)
theorem run_findKey {ms : MSh} {t : TypeId} (ht : ktOk P t ms.kt = true) {k : AV} (hk : kfit ms.kt k = true) {ρ : Rho} {v : Value} (hv : Den ρ k v) (es : List (Rw × Nat)) (w : World) :
    (Instr.findKey t v (es.map (mkE ms))).run P w = .ok ((mplace k es 0).map fun p => (p.1, vval ms p.2.1)) w := by
  obtain ⟨d, h1, h2⟩ := run_ktOk ht
  simp only [Instr.findKey, Sem.run_bind, run_underlying h1, Result.andThen_ok, findNow_place h2 hk hv, Sem.run_pure]
theorem run_checkKey {s : Sh} {t : TypeId} (ht : ktOk P t s = true) {k : AV} (hk : kfit s k = true) {ρ : Rho} {v : Value} (hv : Den ρ k v) (b : Bool) (w : World) : (Instr.checkKey b 10000 t v).run P w = .ok () w := by
  obtain ⟨d, h1, h2⟩ := run_ktOk ht
  obtain ⟨y, y1, y2, y3, y4⟩ := kfit_val hk hv
  subst y2
  have gen : ∀ n, (Instr.checkKey b (n + 1) t (vS y 0 s)).run P w = .ok () w := fun n => by
    rcases h2 with ⟨kk, h1', rfl⟩ | ⟨h1', rfl⟩ | ⟨h1', rfl⟩ <;> simp [Instr.checkKey, run_underlying h1, h1', vS]
  exact gen 9999

/-! ### Zero values -/
def zfitS : Sh → AV → Bool
  | .i k, .int k' n => decide (k = k') && n == 0
  | .b, .bool b => !b
  | .s, .str s => Nat.beq s.size 0
  | _, _ => false
def zfits : List Sh → List AV → Bool
  | [], [] => true
  | s :: l, v :: r => zfitS s v && zfits l r
  | _, _ => false
def zfit (ms : MSh) (v : AV) : Bool := match ms.agg with
  | true => match v with | .agg l => zfits ms.vs l | _ => false
  | false => match ms.vs with
    | [.v] => match v with | .nils => true | _ => false
    | [s] => zfitS s v
    | _ => false
theorem zfitS_eq {s : Sh} {v : AV} (h : zfitS s v = true) (j : Nat) : v = encS zrw j s := by
  unfold zfitS at h
  split at h
  · simp at h; obtain ⟨rfl, rfl⟩ := h; rfl
  · simp at h; subst h; rfl
  · rename_i b
    have h := Nat.eq_of_beq_eq_true h
    have : b = ByteArray.empty := by cases b with | mk d => simp [ByteArray.size] at h; subst h; rfl
    rw [this]; rfl
  · cases h
theorem zfits_eq : ∀ {l : List Sh} {r : List AV} (j : Nat), zfits l r = true → r = encR zrw j l
  | [], [], _, _ => rfl
  | [], _ :: _, _, h => by simp [zfits] at h
  | _ :: _, [], _, h => by simp [zfits] at h
  | s :: l, v :: r, j, h => by
    simp only [zfits, Bool.and_eq_true] at h
    simp only [encR]
    rw [← zfitS_eq h.1 j, ← zfits_eq (j + 1) h.2]
theorem zfit_den {ms : MSh} {v : AV} (h : zfit ms v = true) {ρ : Rho} {x : Value} (hd : Den ρ v x) : Den ρ (mval ms zrw) x := by
  unfold zfit at h
  cases hg : ms.agg with
  | true =>
    rw [hg] at h
    cases v with
    | agg l => unfold mval; rw [hg]; simp only; rw [← zfits_eq 1 h]; exact hd
    | _ => cases h
  | false =>
    rw [hg] at h
    simp only at h
    unfold mval; rw [hg]; simp only
    split at h
    · rename_i hs
      rw [hs]
      split at h
      · cases hd; exact .pv0
      · cases h
    · rename_i s _ hs
      have e := zfitS_eq h 1
      rw [hs]
      show Den ρ (encS zrw 1 s) x
      rw [← e]; exact hd
    · cases h

/-! ### Look-ups -/
def alookup (P : Program) (hp : Tr (AO O)) (t : TypeId) (x k : AV) (ok : Bool) (K : AV → Prop) : Prop := match mkTU P t with
  | some (.map kt et) => match zeroT P et with
    | some z => match x with
      | .map n => match hp.get n with
        | some (.mp ms es _) => must (ktOk P kt ms.kt && (kfit ms.kt k && zfit ms z)) (match ok with
          | true => K (.tup [mval ms (mrow k es), .bool (mhas k es)])
          | false => K (mval ms (mrow k es)))
        | _ => False
      | .nilm => match k with
        | .int kk _ => must (ktOk P kt (.i kk)) (match ok with | true => K (.tup [z, .bool false]) | false => K z)
        | .str _ => must (ktOk P kt .s) (match ok with | true => K (.tup [z, .bool false]) | false => K z)
        | _ => False
      | _ => False
    | none => False
  | _ => False
theorem mapRel_find {ms : MSh} {k : AV} {es : List (Rw × Nat)} (hok : ∀ e ∈ es, okE ms e.1 = true) : okE ms (mrow k es) = true ∨ mrow k es = zrw := by
  unfold mrow
  cases h : mfind k es with
  | none => exact .inr rfl
  | some e =>
    left
    rw [← mplace_find k es 0] at h
    cases hp : mplace k es 0 with
    | none => rw [hp] at h; cases h
    | some p =>
      rw [hp] at h; simp at h; subst h
      obtain ⟨j, e⟩ := p
      exact hok e (List.mem_of_getElem? (mplace_get k es 0 j e hp).2.1)
theorem okS_zrw (s : Sh) (j : Nat) : okS zrw j s = true := by
  cases s with
  | i k => show inK k 0 = true; rw [inK_iff]; cases k <;> simp [loK, hiK]
  | b => rfl
  | s => rfl
  | v => rfl
theorem okR_zrw : ∀ (l : List Sh) (j : Nat), okR zrw j l = true
  | [], _ => rfl
  | s :: l, j => by simp [okR, okS_zrw, okR_zrw l]
theorem okE_zrw (ms : MSh) : okE ms zrw = true := by simp [okE, okS_zrw, okR_zrw]
theorem okE_mrow {ms : MSh} {k : AV} {es : List (Rw × Nat)} (hok : ∀ e ∈ es, okE ms e.1 = true) : okE ms (mrow k es) = true := by
  rcases mapRel_find (k := k) hok with h | h
  · exact h
  · rw [h]; exact okE_zrw ms
theorem alookup_ok {hp : Tr (AO O)} {t : TypeId} {x k : AV} {ok : Bool} {K : AV → Prop} (h : alookup P hp t x k ok K) :
    ∃ v, K v ∧ ∀ ρ fp w x' k', Sat I ρ fp hp w → Den ρ x x' → Den ρ k k' → ∃ z, Den ρ v z ∧ (Instr.lookup t x' k' ok).run P w = .ok z w := by
  unfold alookup at h
  split at h
  · rename_i kt et ht
    have hu := mkTU_map ht
    split at h
    · rename_i z hz
      obtain ⟨z', rz, dz⟩ := zeroT_spec hz
      split at h
      · rename_i n
        split at h
        · rename_i ms es clk hn
          obtain ⟨hc, h⟩ := must_spec h
          simp only [Bool.and_eq_true] at hc
          obtain ⟨c1, c2, c3⟩ := hc
          have hv : ∃ v, K v ∧ v = (if ok then .tup [mval ms (mrow k es), .bool (mhas k es)] else mval ms (mrow k es)) := by
            cases ok <;> exact ⟨_, h, rfl⟩
          obtain ⟨v, hk, rfl⟩ := hv
          refine ⟨_, hk, fun ρ fp w x' k' hs hx hkd => ?_⟩
          obtain ⟨b, es', h1, h2, h3, h4, h5⟩ := hs.ok n _ hn
          cases hx with | map hx =>
          rw [h1] at hx; cases hx
          have hrow := okE_mrow (ms := ms) (k := k) h5
          have hval := mval_den hrow ρ
          have hzero : z' = vval ms zrw := (zfit_den c3 (dz ρ)).det (mval_den (okE_zrw ms) ρ)
          have hfind := run_findKey (P := P) c1 c2 hkd es w
          rw [← h4] at hfind
          have hz' := rz w
          have hget := run_getO (P := P) h3 (by simp)
          refine ⟨if ok then .tuple #[vval ms (mrow k es), .bool (mhas k es)] else vval ms (mrow k es), ?_, ?_⟩
          · cases ok
            · exact hval
            · exact .tup (.cons hval (.cons (.bool _) .nil))
          · simp only [Instr.lookup, Sem.run_bind, run_underlying hu, hget, Result.andThen_ok, Sem.run_pure, run_checkKey c1 c2 hkd, hfind]
            cases hp : mplace k es 0 with
            | none =>
              have : mfind k es = none := by rw [← mplace_find k es 0, hp]; rfl
              simp only [Option.map_none, Sem.run_bind, hz', Result.andThen_ok, Sem.run_pure, hzero, mrow, mhas, this]
            | some p =>
              have : mfind k es = some p.2 := by rw [← mplace_find k es 0, hp]; rfl
              simp only [Option.map_some, Sem.run_pure, Result.andThen_ok, mrow, mhas, this]
              cases ok <;> rfl
        · exact h.elim
      · have key : ∀ s, ktOk P kt s = true → kfit s k = true → K (if ok then .tup [z, .bool false] else z) → ∃ v, K v ∧ ∀ ρ fp w x' k', Sat I ρ fp hp w → Den ρ .nilm x' → Den ρ k k' → ∃ z, Den ρ v z ∧ (Instr.lookup t x' k' ok).run P w = .ok z w := by
          intro s hks hkf h
          refine ⟨_, h, fun ρ fp w x' k' hs hx hkd => ?_⟩
          cases hx
          have hf := run_findKey (P := P) (ms := ⟨s, [], false⟩) hks hkf hkd [] w
          refine ⟨if ok then .tuple #[z', .bool false] else z', ?_, ?_⟩
          · cases ok
            · exact dz ρ
            · exact .tup (.cons (dz ρ) (.cons (.bool _) .nil))
          · simp only [List.map_nil, mplace, Option.map_none] at hf
            simp only [Instr.lookup, Sem.run_bind, run_underlying hu, Result.andThen_ok, Sem.run_pure, run_checkKey hks hkf hkd, hf, rz]
        split at h
        · obtain ⟨c1, h⟩ := must_spec h
          exact key _ c1 (by simp [kfit]) (by cases ok <;> exact h)
        · obtain ⟨c1, h⟩ := must_spec h
          exact key _ c1 (by simp [kfit]) (by cases ok <;> exact h)
        · exact h.elim
      · exact h.elim
    · exact h.elim
  · exact h.elim

/-! ### Changes -/
/-- A map's object changed in place. -/
theorem map_upd {c : Ctx} {s : St O} {n : Nat} {ms : MSh} {es : List (Rw × Nat)} {clk : Nat} (hn : s.hp.get n = some (.mp ms es clk)) (hb : Nat.blt n 16777215 = true) {w : World} {ρ : Rho} {fp : Nat → List Nat} (hs : Sat I ρ fp s.hp w) (hc : Since c.w0 c.F0 c.ρ0 ρ fp w)
    (es2 : List (Rw × Nat)) (clk2 : Nat) {b z : Nat} (hρ : ρ n = some (b, z)) : ∃ es', w.heap[b]? = some (.map es' clk) ∧ es'.toList = es.map (mkE ms) ∧ (∀ e ∈ es, okE ms e.1 = true) ∧
      ∀ es2', es2'.toList = es2.map (mkE ms) → (∀ e ∈ es2, okE ms e.1 = true) → Sat I ρ fp (s.hp.set n (some (.mp ms es2 clk2))) (setO w b (.map es2' clk2)) ∧ Since c.w0 c.F0 c.ρ0 ρ fp (setO w b (.map es2' clk2)) := by
  obtain ⟨b', es', h1, h2, h3, h4, h5⟩ := hs.ok n _ hn
  rw [h1] at hρ; cases hρ
  refine ⟨es', h3, h4, h5, fun es2' k1 k2 => ⟨hs.update hb (by rw [hn]; simp) (fun k hk => setO_other (fun e => hk (e ▸ (by rw [h2]; simp)))) ⟨b, es2', h1, h2, setO_self h3, k1, k2⟩, hc.setO (n := n) (by rw [h2]; simp) _⟩⟩
def vfit (ms : MSh) (v : AV) : Bool := match ms.agg with
  | true => match v with | .agg l => fitsA ms.vs l | _ => false
  | false => match ms.vs with | [_] => fitsA ms.vs [v] && one v | _ => false
theorem vfit_row {ms : MSh} {k v : AV} (hk : kfit ms.kt k = true) (h : vfit ms v = true) : mkey ms (rwA (k :: acells v)) = k ∧ mval ms (rwA (k :: acells v)) = v := by
  have hf : fitsA ms.vs (acells v) = true ∧ (ms.agg = true → v = .agg (acells v)) ∧ (ms.agg = false → acells v = [v] ∧ ∃ s, ms.vs = [s]) := by
    unfold vfit at h
    split at h
    · rename_i hg
      split at h
      · exact ⟨h, fun _ => rfl, fun e => by rw [hg] at e; cases e⟩
      · cases h
    · rename_i hg
      split at h
      · rename_i s hs
        simp only [Bool.and_eq_true] at h
        have e : acells v = [v] := by cases v <;> first | rfl | (have h2 := h.2; simp [one] at h2)
        refine ⟨?_, (fun e => by rw [hg] at e; cases e), fun _ => ⟨e, s, hs⟩⟩
        rw [e, hs]; rw [hs] at h; exact h.1
      · cases h
  obtain ⟨f1, f2, f3⟩ := hf
  have hkf : fitsA (ms.kt :: ms.vs) (k :: acells v) = true := by
    cases k <;> simp only [kfit] at hk <;> try (cases hk; done)
    all_goals (cases hs : ms.kt <;> rw [hs] at hk <;> simp at hk <;> simp [fitsA, f1, hk])
  have he := encR_rwA hkf
  simp only [encR] at he
  have h1 : encS (rwA (k :: acells v)) 0 ms.kt = k := (List.cons.inj he).1
  have h2 : encR (rwA (k :: acells v)) 1 ms.vs = acells v := (List.cons.inj he).2
  refine ⟨h1, ?_⟩
  unfold mval
  cases hg : ms.agg with
  | true => simp only; rw [h2]; exact (f2 hg).symm
  | false =>
    obtain ⟨e, s, hs⟩ := f3 hg
    rw [hs] at h2 ⊢
    simp only [encR] at h2 ⊢
    rw [e] at h2 ⊢
    exact (List.cons.inj h2).1
theorem row_ok {ms : MSh} {k v : AV} (hk : kfit ms.kt k = true) (h : vfit ms v = true) {ρ : Rho} {k' v' : Value} (dk : Den ρ k k') (dv : Den ρ v v') : okE ms (rwA (k :: acells v)) = true ∧ vkey ms (rwA (k :: acells v)) = k' ∧ vval ms (rwA (k :: acells v)) = v' := by
  obtain ⟨e1, e2⟩ := vfit_row hk h
  have d1 : Den ρ (mkey ms (rwA (k :: acells v))) k' := by rw [e1]; exact dk
  have d2 : Den ρ (mval ms (rwA (k :: acells v))) v' := by rw [e2]; exact dv
  obtain ⟨o1, v1⟩ := den_vS d1
  have hkey : vkey ms (rwA (k :: acells v)) = k' := v1.symm
  suffices ho : okE ms (rwA (k :: acells v)) = true from ⟨ho, hkey, (mval_den ho ρ).det d2⟩
  simp only [okE, Bool.and_eq_true]
  refine ⟨o1, ?_⟩
  unfold mval at d2
  cases hg : ms.agg with
  | true => rw [hg] at d2; cases d2 with | agg d2 => exact (dens_vR d2).1
  | false =>
    rw [hg] at d2
    simp only at d2
    have : ∃ s, ms.vs = [s] := by
      unfold vfit at h
      rw [hg] at h
      simp only at h
      split at h
      · exact ⟨_, by assumption⟩
      · cases h
    obtain ⟨s, hs⟩ := this
    rw [hs] at d2 ⊢
    simp only at d2
    simp [okR, (den_vS d2).1]
theorem mput_place (row : Rw) (k : AV) (clk : Nat) : ∀ (es : List (Rw × Nat)) (i : Nat), mput row k clk es = match mplace k es i with | some (j, e) => es.set (j - i) (row, e.2) | none => es ++ [(row, clk)]
  | [], _ => rfl
  | e :: l, i => by
    simp only [mput, mplace]
    cases hk : isK e.1 k with
    | true => simp
    | false =>
      simp only
      rw [mput_place row k clk l (i + 1)]
      cases hp : mplace k l (i + 1) with
      | none => rfl
      | some p =>
        have := (mplace_get k l (i + 1) p.1 p.2 hp).1
        simp only
        rw [show p.1 - i = (p.1 - (i + 1)) + 1 by omega]; rfl
theorem mdel_place (k : AV) : ∀ (es : List (Rw × Nat)) (i : Nat), mdel k es = match mplace k es i with | some (j, _) => es.eraseIdx (j - i) | none => es
  | [], _ => rfl
  | e :: l, i => by
    simp only [mdel, mplace]
    cases hk : isK e.1 k with
    | true => simp
    | false =>
      simp only
      rw [mdel_place k l (i + 1)]
      cases hp : mplace k l (i + 1) with
      | none => rfl
      | some p =>
        have := (mplace_get k l (i + 1) p.1 p.2 hp).1
        simp only
        rw [show p.1 - i = (p.1 - (i + 1)) + 1 by omega]; rfl
theorem mclk_place (k : AV) (es : List (Rw × Nat)) (clk : Nat) : mclk k es clk = match mplace k es 0 with | some _ => clk | none => clk + 1 := by
  unfold mclk; rw [← mplace_find k es 0]; cases mplace k es 0 <;> rfl
theorem isK_key {ms : MSh} {x : Rw} {k : AV} (hk : kfit ms.kt k = true) (h : isK x k = true) {ρ : Rho} {k' : Value} (dk : Den ρ k k') : vkey ms x = k' := by
  obtain ⟨y, y1, y2, y3, y4⟩ := kfit_val hk dk
  rw [y4 x] at h
  rw [y2]
  unfold vkey
  cases hs : ms.kt <;> rw [hs] at h <;> simp only [sameK] at h
  · simp at h; simp [vS, h]
  · simp at h; simp [vS, h]
  · rw [ba_beq] at h; simp [vS, h]
  · cases h
theorem sameBits_self {s : Sh} (hs : s ≠ .v) (x : Rw) (j n : Nat) : Instr.sameBits n (vS x j s) (vS x j s) = true := by
  cases s <;> first | exact absurd rfl hs | (cases n <;> simp [vS, Instr.sameBits, ba_beq])
theorem kfit_ne {s : Sh} {k : AV} (h : kfit s k = true) : s ≠ .v := by
  intro e; subst e; cases k <;> simp [kfit] at h
theorem run_keyStays {ms : MSh} {k : AV} (hk : kfit ms.kt k = true) {k' : Value} {y : Rw} (h : k' = vS y 0 ms.kt) (w : World) : (Instr.keyThatStays k' k').run P w = .ok k' w := by
  subst h
  unfold Instr.keyThatStays
  rw [if_pos (sameBits_self (kfit_ne hk) y 0 10000)]
  rfl
def amapUpdate (P : Program) (s : St O) (t : TypeId) (m k v : AV) (K : St O → Prop) : Prop := match mkTU P t, m with
  | some (.map kt _), .map n => match s.hp.get n with
    | some (.mp ms es clk) => must (ktOk P kt ms.kt && (kfit ms.kt k && (vfit ms v && Nat.blt n 16777215)))
        (K { s with hp := s.hp.set n (some (.mp ms (mput (rwA (k :: acells v)) k clk es) (mclk k es clk))) })
    | _ => False
  | _, _ => False
theorem mem_place_ok {ms : MSh} {es : List (Rw × Nat)} (h : ∀ e ∈ es, okE ms e.1 = true) {row : Rw} (hr : okE ms row = true) {k : AV} {clk : Nat} : ∀ e ∈ mput row k clk es, okE ms e.1 = true := by
  induction es with
  | nil => intro e he; simp [mput] at he; subst he; exact hr
  | cons a l ih =>
    intro e he
    simp only [mput] at he
    cases hk : isK a.1 k with
    | true =>
      rw [hk] at he
      rcases List.mem_cons.1 he with rfl | he
      · exact hr
      · exact h e (List.mem_cons_of_mem _ he)
    | false =>
      rw [hk] at he
      rcases List.mem_cons.1 he with rfl | he
      · exact h _ (List.mem_cons_self ..)
      · exact ih (fun e he => h e (List.mem_cons_of_mem _ he)) e he
theorem modify_eq {es' : Array MapEntry} {es : List (Rw × Nat)} {ms : MSh} (h : es'.toList = es.map (mkE ms)) {j : Nat} {e : Rw × Nat} (he : es[j]? = some e) {f : MapEntry → MapEntry} {row : Rw} (hf : f (mkE ms e) = mkE ms (row, e.2)) :
    (es'.modify j f).toList = (es.set j (row, e.2)).map (mkE ms) := by
  have hj : j < es.length := (List.getElem?_eq_some_iff.1 he).1
  apply List.ext_getElem?
  intro i
  rw [Array.getElem?_toList, Array.getElem?_modify, ← Array.getElem?_toList, h, List.getElem?_map, List.getElem?_map]
  by_cases hij : j = i
  · subst hij
    rw [if_pos rfl, he, List.getElem?_set_self hj]
    simp [hf]
  · rw [if_neg hij, List.getElem?_set_ne hij]
theorem amapUpdate_ok {c : Ctx} {s : St O} {t : TypeId} {m k v : AV} {K : St O → Prop} (h : amapUpdate P s t m k v K) {a : Act} {w : World} {ρ : Rho} {fp : Nat → List Nat} (ht : TmOk ρ s.tm a.tmps)
    (hs : Sat I ρ fp s.hp w) (hc : Since c.w0 c.F0 c.ρ0 ρ fp w) {m' k' v' : Value} (hm : Den ρ m m') (hk : Den ρ k k') (hv : Den ρ v v') :
    ∃ w' s', (Instr.mapUpdate t m' k' v').run P w = .ok () w' ∧ K s' ∧ s'.tm = s.tm ∧ s'.sz = s.sz ∧ TmOk ρ s'.tm a.tmps ∧ Sat I ρ fp s'.hp w' ∧ Since c.w0 c.F0 c.ρ0 ρ fp w' := by
  unfold amapUpdate at h
  split at h
  · rename_i kt et n hty
    have hu := mkTU_map hty
    split at h
    · rename_i ms es clk hn
      obtain ⟨hcond, h⟩ := must_spec h
      simp only [Bool.and_eq_true] at hcond
      obtain ⟨c1, c2, c3, c4⟩ := hcond
      cases hm with | map hm =>
      rename_i b z
      obtain ⟨es', g1, g2, g3, g4⟩ := map_upd hn c4 hs hc (mput (rwA (k :: acells v)) k clk es) (mclk k es clk) hm
      obtain ⟨r1, r2, r3⟩ := row_ok c2 c3 hk hv
      obtain ⟨y, y1, y2, y3, y4⟩ := kfit_val c2 hk
      have hfind := run_findKey (P := P) c1 c2 hk es w
      rw [← g2] at hfind
      have hget := run_getO (P := P) g1 (by simp)
      have hmem := mem_place_ok g3 r1 (k := k) (clk := clk)
      cases hp : mplace k es 0 with
      | none =>
        have e2 : (es'.push { key := k', val := v', born := clk }).toList = (mput (rwA (k :: acells v)) k clk es).map (mkE ms) := by
          rw [mput_place _ k clk es 0, hp]; simp [g2, mkE, r2, r3]
        obtain ⟨q1, q2⟩ := g4 _ e2 hmem
        rw [show mclk k es clk = clk + 1 by rw [mclk_place, hp]] at q1 q2
        refine ⟨_, _, ?_, h, rfl, rfl, ht, ?_, q2⟩
        · rw [hp] at hfind
          simp only [Instr.mapUpdate, Sem.run_bind, run_underlying hu, Result.andThen_ok, hget, run_checkKey c1 c2 hk, hfind, Option.map_none]
          exact run_setO _ g1 (by simp)
        · rw [show mclk k es clk = clk + 1 by rw [mclk_place, hp]]; exact q1
      | some p =>
        obtain ⟨j, e⟩ := p
        obtain ⟨p1, p2, p3⟩ := mplace_get k es 0 j e hp
        simp only [Nat.sub_zero] at p2
        have hek : (mkE ms e).key = k' := isK_key c2 p3 hk
        have hej : es'[j]? = some (mkE ms e) := by rw [← Array.getElem?_toList, g2, List.getElem?_map, p2]; rfl
        have e2 : (es'.modify j fun e => { e with key := k', val := v' }).toList = (mput (rwA (k :: acells v)) k clk es).map (mkE ms) := by
          rw [mput_place _ k clk es 0, hp]
          exact modify_eq g2 p2 (by simp [mkE, r2, r3])
        obtain ⟨q1, q2⟩ := g4 _ e2 hmem
        have hcl : mclk k es clk = clk := by rw [mclk_place, hp]
        rw [hcl] at q1 q2
        refine ⟨_, _, ?_, h, rfl, rfl, ht, ?_, q2⟩
        · rw [hp] at hfind
          simp only [Instr.mapUpdate, Sem.run_bind, run_underlying hu, Result.andThen_ok, hget, run_checkKey c1 c2 hk, hfind, Option.map_some, hej, Option.getD_some, hek, run_keyStays c2 y2]
          exact run_setO _ g1 (by simp)
        · rw [hcl]; exact q1
    · exact h.elim
  · exact h.elim
def amapDelete (P : Program) (s : St O) (ts : List TypeId) (m k : AV) (K : St O → Prop) : Prop := match ts with
  | t :: _ => match mkTU P t, m with
    | some (.map kt _), .map n => match s.hp.get n with
      | some (.mp ms es clk) => must (ktOk P kt ms.kt && (kfit ms.kt k && Nat.blt n 16777215)) (K { s with hp := s.hp.set n (some (.mp ms (mdel k es) clk)) })
      | _ => False
    | _, _ => False
  | _ => False
theorem map_erase {α β : Type} (f : α → β) : ∀ (l : List α) (j : Nat), (l.map f).eraseIdx j = (l.eraseIdx j).map f
  | [], _ => rfl
  | a :: l, 0 => rfl
  | a :: l, j + 1 => by simp [map_erase f l j]
theorem mdel_mem {k : AV} : ∀ {es : List (Rw × Nat)} {e : Rw × Nat}, e ∈ mdel k es → e ∈ es
  | [], _, h => h
  | a :: l, e, h => by
    simp only [mdel] at h
    cases hk : isK a.1 k with
    | true => rw [hk] at h; exact List.mem_cons_of_mem _ h
    | false =>
      rw [hk] at h
      rcases List.mem_cons.1 h with rfl | h
      · exact List.mem_cons_self ..
      · exact List.mem_cons_of_mem _ (mdel_mem h)
theorem amapDelete_ok {c : Ctx} {s : St O} {ts : List TypeId} {m k : AV} {K : St O → Prop} (h : amapDelete P s ts m k K) {a : Act} {w : World} {ρ : Rho} {fp : Nat → List Nat} (ht : TmOk ρ s.tm a.tmps)
    (hs : Sat I ρ fp s.hp w) (hc : Since c.w0 c.F0 c.ρ0 ρ fp w) {m' k' : Value} (hm : Den ρ m m') (hk : Den ρ k k') :
    ∃ w' s', (∀ ty, (Builtin.delete_ ts.toArray ty #[m', k']).run P w = .ok (.tuple #[]) w') ∧ K s' ∧ s'.tm = s.tm ∧ s'.sz = s.sz ∧ TmOk ρ s'.tm a.tmps ∧ Sat I ρ fp s'.hp w' ∧ Since c.w0 c.F0 c.ρ0 ρ fp w' := by
  unfold amapDelete at h
  split at h
  · rename_i t ts'
    split at h
    · rename_i kt et n hty
      have hu := mkTU_map hty
      split at h
      · rename_i ms es clk hn
        obtain ⟨hcond, h⟩ := must_spec h
        simp only [Bool.and_eq_true] at hcond
        obtain ⟨c1, c2, c4⟩ := hcond
        cases hm with | map hm =>
        rename_i b z
        obtain ⟨es', g1, g2, g3, g4⟩ := map_upd hn c4 hs hc (mdel k es) clk hm
        have hfind := run_findKey (P := P) c1 c2 hk es w
        rw [← g2] at hfind
        have hget := run_getO (P := P) g1 (by simp)
        cases hp : mplace k es 0 with
        | none =>
          have e2 : es'.toList = (mdel k es).map (mkE ms) := by rw [mdel_place k es 0, hp]; exact g2
          obtain ⟨q1, q2⟩ := g4 _ e2 (fun e he => g3 e (mdel_mem he))
          refine ⟨_, _, fun ty => ?_, h, rfl, rfl, ht, q1, q2⟩
          rw [hp] at hfind
          have hset := run_setO (P := P) (.map es' clk) g1 (by simp)
          simp [Builtin.delete_, run_underlying hu, hget, run_checkKey c1 c2 hk, hfind, hset]
        | some p =>
          obtain ⟨j, e⟩ := p
          obtain ⟨p1, p2, p3⟩ := mplace_get k es 0 j e hp
          simp only [Nat.sub_zero] at p2
          have hj : j < es'.size := by
            have := (List.getElem?_eq_some_iff.1 p2).1
            have h2 := congrArg List.length g2
            simp at h2; omega
          have e2 : (es'.eraseIdxIfInBounds j).toList = (mdel k es).map (mkE ms) := by
            rw [mdel_place k es 0, hp]
            simp only [Nat.sub_zero]
            rw [Array.eraseIdxIfInBounds, dif_pos hj, Array.toList_eraseIdx, g2, map_erase]
          obtain ⟨q1, q2⟩ := g4 _ e2 (fun e he => g3 e (mdel_mem he))
          refine ⟨_, _, fun ty => ?_, h, rfl, rfl, ht, q1, q2⟩
          rw [hp] at hfind
          have hset := run_setO (P := P) (.map (es'.eraseIdxIfInBounds j) clk) g1 (by simp)
          simp [Builtin.delete_, run_underlying hu, hget, run_checkKey c1 c2 hk, hfind, hset]
      · exact h.elim
    · exact h.elim
  · exact h.elim
end Go.Tb
