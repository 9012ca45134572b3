/- The abstract machine's operations on a map of slots (a channel of texts and the set of these), one of which is looked at. -/
import Derived.Test.YtojppaicjioohaaM64
set_option linter.all false
namespace Go.Tb
open Go
variable {O : Type} {P : Program} {I : Interp O}

theorem perm_erase {α : Type} : ∀ (l : List α) (j : Nat) (h : j < l.length), (l[j] :: l.eraseIdx j).Perm l
  | a :: l, 0, _ => List.Perm.refl _
  | a :: l, j + 1, h => by
    simp only [List.eraseIdx_cons_succ, List.getElem_cons_succ]
    exact (List.Perm.swap _ _ _).trans ((perm_erase l j (by simpa using h)).cons a)
/-! ### The search for a key -/
def eplace (k : Int) : List MapEntry → Nat → Option (Nat × Value)
  | [], _ => none
  | e :: l, i => match decide (ekey e = k) with | true => some (i, e.val) | false => eplace k l (i + 1)
def intKeyed (l : List MapEntry) : Prop := ∀ e ∈ l, e.key = .int .i64 (ekey e)
theorem findNow_e (k : Int) : ∀ {l : List MapEntry}, intKeyed l → ∀ i, Instr.findNow (.int .i64) (.int .i64 k) l i = some (eplace k l i)
  | [], _, _ => rfl
  | e :: l, h, i => by
    have he := h e (List.mem_cons_self ..)
    have hs : Instr.sameNow (.int .i64) (.int .i64 k) e.key = some (decide (ekey e = k)) := by
      rw [he]
      simp only [Instr.sameNow, if_true]
      congr 1
      rw [Bool.eq_iff_iff, beq_iff_eq, decide_eq_true_iff]; exact ⟨Eq.symm, Eq.symm⟩
    simp only [Instr.findNow, hs, eplace]
    cases decide (ekey e = k) with
    | true => rfl
    | false => exact findNow_e k (fun e he => h e (List.mem_cons_of_mem _ he)) (i + 1)
theorem eplace_none {k : Int} : ∀ {l : List MapEntry}, (∀ e ∈ l, ekey e ≠ k) → ∀ i, eplace k l i = none
  | [], _, _ => rfl
  | e :: l, h, i => by
    simp only [eplace, decide_eq_false (h e (List.mem_cons_self ..))]
    exact eplace_none (fun e he => h e (List.mem_cons_of_mem _ he)) (i + 1)
theorem eplace_some {k : Int} {e : MapEntry} : ∀ {l : List MapEntry}, (l.map ekey).Nodup → e ∈ l → ekey e = k → ∀ i, ∃ j, eplace k l i = some (i + j, e.val) ∧ l[j]? = some e
  | [], _, h, _, _ => by cases h
  | a :: l, hn, he, hk, i => by
    simp only [List.map_cons, List.nodup_cons] at hn
    simp only [eplace]
    rcases List.mem_cons.1 he with rfl | he
    · rw [decide_eq_true hk]; exact ⟨0, rfl, rfl⟩
    · have : ekey a ≠ k := fun e' => hn.1 (List.mem_map.2 ⟨e, he, by rw [hk, e']⟩)
      rw [decide_eq_false this]
      obtain ⟨j, h1, h2⟩ := eplace_some hn.2 he hk (i + 1)
      exact ⟨j + 1, by rw [h1, show i + 1 + j = i + (j + 1) by omega], by simpa using h2⟩
theorem SlotsAt.keyed {w : World} : ∀ {es : List MapEntry} {ss : List Slot} {fp : List Nat}, SlotsAt w es ss fp → intKeyed es ∧ es.map ekey = ss.map (·.k)
  | [], [], _, _ => ⟨(fun e he => by cases he), rfl⟩
  | e :: es, s :: ss, fp, h => by
    obtain ⟨f, g, ⟨c, m, s', r, h1, h2, _⟩, h3, rfl⟩ := h
    obtain ⟨k1, k2⟩ := h3.keyed
    have he : ekey e = s.k := by unfold ekey; rw [h1]
    refine ⟨fun x hx => ?_, by simp [he, k2]⟩
    rcases List.mem_cons.1 hx with rfl | hx
    · rw [he]; exact h1
    · exact k1 x hx
  | [], _ :: _, _, h => h.elim
  | _ :: _, [], _, h => h.elim
theorem FocAt.keyed {ρ : Rho} {foc : Option (Int × AV)} {l : List MapEntry} (h : FocAt ρ foc l) : intKeyed l := by
  cases foc with
  | none => rw [show l = [] from h]; exact fun e he => by cases he
  | some p => obtain ⟨x, bn, rfl, _⟩ := h; intro e he; simp at he; subst he; rfl
def slotsNo : List Slot → Int → Bool
  | [], _ => true
  | s :: l, q => !decide (s.k = q) && slotsNo l q
theorem slotsNo_iff : ∀ {l : List Slot} {q : Int}, slotsNo l q = true ↔ ∀ s ∈ l, s.k ≠ q
  | [], q => by simp [slotsNo]
  | s :: l, q => by simp [slotsNo, slotsNo_iff (l := l) (q := q)]
/-- What is known of such a map's object. -/
structure PmAt (I : Interp O) (ρ : Rho) (fp : Nat → List Nat) (w : World) (n : Nat) (hid : List Slot) (foc : Option (Int × AV)) (b : Nat) (es : Array MapEntry) (clk : Nat) (esF esH : List MapEntry) (fpH : List Nat) : Prop where
  ρn : ρ n = some (b, 0)
  fpn : fp n = b :: fpH
  nd : (b :: fpH).Nodup
  hb : w.heap[b]? = some (.map es clk)
  pm : es.toList.Perm (esF ++ esH)
  foc : FocAt ρ foc esF
  hid : SlotsAt w esH hid fpH
  kd : (es.toList.map ekey).Nodup
  bd : es.toList.Pairwise (fun x y => x.born ≠ y.born)
  old : ∀ e ∈ es.toList, e.born < clk
theorem pm_at {ρ : Rho} {fp : Nat → List Nat} {hp : Tr (AO O)} {w : World} {n : Nat} {hid : List Slot} {foc : Option (Int × AV)} (hs : Sat I ρ fp hp w) (hg : hp.get n = some (.pm hid foc)) : ∃ b es clk esF esH fpH, PmAt I ρ fp w n hid foc b es clk esF esH fpH := by
  obtain ⟨b, es, clk, esF, esH, fpH, h1, h2, h3, h4, h5, h6, h7, h8, h9, h10⟩ := hs.ok n _ hg
  exact ⟨b, es, clk, esF, esH, fpH, h1, h2, by rw [h2] at h3; exact h3, h4, h5, h6, h7, h8, h9, h10⟩
section
variable {ρ : Rho} {fp : Nat → List Nat} {w : World} {n : Nat} {hid : List Slot} {foc : Option (Int × AV)} {b clk : Nat} {es : Array MapEntry} {esF esH : List MapEntry} {fpH : List Nat}
theorem PmAt.keyed (h : PmAt I ρ fp w n hid foc b es clk esF esH fpH) : intKeyed es.toList := fun e he => by
  rcases List.mem_append.1 (h.pm.mem_iff.1 he) with he | he
  · exact h.foc.keyed e he
  · exact h.hid.keyed.1 e he
theorem PmAt.find (h : PmAt I ρ fp w n hid foc b es clk esF esH fpH) {kt : TypeId} (ht : ktOk P kt (.i .i64) = true) (k : Int) : (Instr.findKey kt (.int .i64 k) es.toList).run P w = .ok (eplace k es.toList 0) w := by
  obtain ⟨d, h1, h2⟩ := run_ktOk ht
  have hd : d = .int .i64 := by
    rcases h2 with ⟨k, e1, e2⟩ | ⟨e1, _⟩ | ⟨e1, _⟩
    · cases e1; exact e2
    · cases e1
    · cases e1
  subst hd
  simp only [Instr.findKey, Sem.run_bind, run_underlying h1, Result.andThen_ok, findNow_e k h.keyed, Sem.run_pure]
theorem PmAt.no (h : PmAt I ρ fp w n hid none b es clk esF esH fpH) {q : Int} (hq : slotsNo hid q = true) : ∀ e ∈ es.toList, ekey e ≠ q := fun e he hk => by
  have hF : esF = [] := h.foc
  subst hF
  have he := h.pm.mem_iff.1 he
  simp only [List.nil_append] at he
  have hm : ekey e ∈ hid.map (·.k) := by rw [← h.hid.keyed.2]; exact List.mem_map.2 ⟨e, he, rfl⟩
  obtain ⟨s, hs, hsk⟩ := List.mem_map.1 hm
  exact slotsNo_iff.1 hq s hs (hsk.trans hk)
theorem PmAt.len (h : PmAt I ρ fp w n hid foc b es clk esF esH fpH) : es.size = esF.length + hid.length := by
  have h1 := h.pm.length_eq
  have h2 := congrArg List.length h.hid.keyed.2
  simp at h1 h2
  omega
/-- The object set anew. -/
theorem PmAt.upd (h : PmAt I ρ fp w n hid foc b es clk esF esH fpH) {hp : Tr (AO O)} (hg : hp.get n = some (.pm hid foc)) (hbn : Nat.blt n 16777215 = true) (hs : Sat I ρ fp hp w) {c : Ctx} (hc : Since c.w0 c.F0 c.ρ0 ρ fp w)
    {es2 : Array MapEntry} {clk2 : Nat} {foc2 : Option (Int × AV)} {esF2 : List MapEntry} (h1 : es2.toList.Perm (esF2 ++ esH)) (h2 : FocAt ρ foc2 esF2) (h3 : (es2.toList.map ekey).Nodup) (h4 : es2.toList.Pairwise (fun x y => x.born ≠ y.born)) (h5 : ∀ e ∈ es2.toList, e.born < clk2) :
    Sat I ρ fp (hp.set n (some (.pm hid foc2))) (setO w b (.map es2 clk2)) ∧ Since c.w0 c.F0 c.ρ0 ρ fp (setO w b (.map es2 clk2)) := by
  have hnb : ∀ x, x ∈ fpH → x ≠ b := fun x hx e => (List.nodup_cons.1 h.nd).1 (e ▸ hx)
  refine ⟨hs.update hbn (by rw [hg]; simp) (fun k hk => setO_other (fun e => hk (e ▸ (by rw [h.fpn]; simp)))) ⟨b, es2, clk2, esF2, esH, fpH, h.ρn, h.fpn, by rw [h.fpn]; exact h.nd, setO_self h.hb, h1, h2, h.hid.mono (fun x hx => setO_other (hnb x hx)), h3, h4, h5⟩, hc.setO (n := n) (by rw [h.fpn]; simp) _⟩
end

/-! ### Look-ups -/
def isPm (hp : Tr (AO O)) : AV → Bool
  | .map n => match hp.get n with | some (.pm _ _) => true | _ => false
  | _ => false
def plookup (P : Program) (hp : Tr (AO O)) (t : TypeId) (x k : AV) (ok : Bool) (K : AV → Prop) : Prop := match mkTU P t with
  | some (.map kt et) => match x, k with
    | .map n, .int .i64 q => match hp.get n with
      | some (.pm hid (some (i, v))) => must (ktOk P kt (.i .i64) && decide (q = i)) (match ok with | true => K (.tup [v, .bool true]) | false => K v)
      | some (.pm hid none) => match zeroT P et with
        | some z => must (ktOk P kt (.i .i64) && slotsNo hid q) (match ok with | true => K (.tup [z, .bool false]) | false => K z)
        | none => False
      | _ => False
    | _, _ => False
  | _ => False
theorem plookup_ok {hp : Tr (AO O)} {t : TypeId} {x k : AV} {ok : Bool} {K : AV → Prop} (h : plookup P hp t x k ok K) :
    ∃ v, K v ∧ ∀ ρ fp w x' k', Sat I ρ fp hp w → Den ρ x x' → Den ρ k k' → ∃ z, Den ρ v z ∧ (Instr.lookup t x' k' ok).run P w = .ok z w := by
  unfold plookup at h
  split at h
  · rename_i kt et ht
    have hu := mkTU_map ht
    split at h
    · rename_i n q
      split at h
      · rename_i hid i v hg
        obtain ⟨hc, h9⟩ := must_spec h
        clear h
        simp only [Bool.and_eq_true] at hc
        obtain ⟨c1, c2⟩ := hc
        have c2 := of_decide_eq_true c2
        subst c2
        have hv : ∃ r, K r ∧ r = (if ok then .tup [v, .bool true] else v) := by cases ok <;> exact ⟨_, h9, rfl⟩
        obtain ⟨r, hk, rfl⟩ := hv
        refine ⟨_, hk, fun ρ fp w x' k' hs hx hkd => ?_⟩
        obtain ⟨b, es, clk, esF, esH, fpH, A⟩ := pm_at hs hg
        cases hx with | map hx =>
        rw [A.ρn] at hx; cases hx
        have hkd' := hkd
        cases hkd
        obtain ⟨y, bn, rfl, hin, dv⟩ := A.foc
        have hmem : (⟨.int .i64 q, y, bn⟩ : MapEntry) ∈ es.toList := A.pm.mem_iff.2 (by simp)
        obtain ⟨j, p1, p2⟩ := eplace_some A.kd hmem (k := q) rfl 0
        have hfind := A.find (P := P) c1 q
        rw [p1] at hfind
        have hget := run_getO (P := P) A.hb (by simp)
        refine ⟨if ok then .tuple #[y, .bool true] else y, ?_, ?_⟩
        · cases ok
          · exact dv
          · exact .tup (.cons dv (.cons (.bool _) .nil))
        · simp only [Instr.lookup, Sem.run_bind, run_underlying hu, hget, Result.andThen_ok, Sem.run_pure, run_checkKey c1 (s := .i .i64) (k := .int .i64 q) rfl hkd', hfind]
      · rename_i hid hg
        split at h
        · rename_i z hz
          obtain ⟨z', rz, dz⟩ := zeroT_spec hz
          obtain ⟨hc, h⟩ := must_spec h
          simp only [Bool.and_eq_true] at hc
          obtain ⟨c1, c2⟩ := hc
          have hv : ∃ r, K r ∧ r = (if ok then .tup [z, .bool false] else z) := by cases ok <;> exact ⟨_, h, rfl⟩
          obtain ⟨r, hk, rfl⟩ := hv
          refine ⟨_, hk, fun ρ fp w x' k' hs hx hkd => ?_⟩
          obtain ⟨b, es, clk, esF, esH, fpH, A⟩ := pm_at hs hg
          cases hx with | map hx =>
          rw [A.ρn] at hx; cases hx
          have hkd' := hkd
          cases hkd
          have hfind := A.find (P := P) c1 q
          rw [eplace_none (A.no c2)] at hfind
          have hget := run_getO (P := P) A.hb (by simp)
          refine ⟨if ok then .tuple #[z', .bool false] else z', ?_, ?_⟩
          · cases ok
            · exact dz ρ
            · exact .tup (.cons (dz ρ) (.cons (.bool _) .nil))
          · simp only [Instr.lookup, Sem.run_bind, run_underlying hu, hget, Result.andThen_ok, Sem.run_pure, run_checkKey c1 (s := .i .i64) (k := .int .i64 q) rfl hkd', hfind, rz]
        · exact h.elim
      · exact h.elim
    · exact h.elim
  · exact h.elim
def alookupX (P : Program) (hp : Tr (AO O)) (t : TypeId) (x k : AV) (ok : Bool) (K : AV → Prop) : Prop := match isPm hp x with
  | true => plookup P hp t x k ok K
  | false => alookup P hp t x k ok K
theorem alookupX_ok {hp : Tr (AO O)} {t : TypeId} {x k : AV} {ok : Bool} {K : AV → Prop} (h : alookupX P hp t x k ok K) :
    ∃ v, K v ∧ ∀ ρ fp w x' k', Sat I ρ fp hp w → Den ρ x x' → Den ρ k k' → ∃ z, Den ρ v z ∧ (Instr.lookup t x' k' ok).run P w = .ok z w := by
  unfold alookupX at h
  split at h
  · exact plookup_ok h
  · exact alookup_ok h

/-! ### Changes -/
def pmUpdate (P : Program) (s : St O) (t : TypeId) (m k v : AV) (K : St O → Prop) : Prop := match mkTU P t, m, k with
  | some (.map kt _), .map n, .int .i64 q => match s.hp.get n with
    | some (.pm hid none) => must (ktOk P kt (.i .i64) && (slotsNo hid q && Nat.blt n 16777215)) (K { s with hp := s.hp.set n (some (.pm hid (some (q, v)))) })
    | _ => False
  | _, _, _ => False
theorem pmUpdate_ok {c : Ctx} {s : St O} {t : TypeId} {m k v : AV} {K : St O → Prop} (h : pmUpdate P s t m k v K) {a : Act} {w : World} {ρ : Rho} {fp : Nat → List Nat} (ht : TmOk ρ s.tm a.tmps)
    (hs : Sat I ρ fp s.hp w) (hc : Since c.w0 c.F0 c.ρ0 ρ fp w) {m' k' v' : Value} (hm : Den ρ m m') (hk : Den ρ k k') (hv : Den ρ v v') :
    ∃ w' s', (Instr.mapUpdate t m' k' v').run P w = .ok () w' ∧ K s' ∧ s'.tm = s.tm ∧ s'.sz = s.sz ∧ TmOk ρ s'.tm a.tmps ∧ Sat I ρ fp s'.hp w' ∧ Since c.w0 c.F0 c.ρ0 ρ fp w' := by
  unfold pmUpdate at h
  split at h
  · rename_i kt et n q hty
    have hu := mkTU_map hty
    split at h
    · rename_i hid hg
      obtain ⟨hcond, h⟩ := must_spec h
      simp only [Bool.and_eq_true] at hcond
      obtain ⟨c1, c2, c3⟩ := hcond
      cases hm with | map hm =>
      obtain ⟨b, es, clk, esF, esH, fpH, A⟩ := pm_at hs hg
      rw [A.ρn] at hm; cases hm
      have hk0 := hk
      cases hk
      rename_i hq
      have hno := A.no c2
      have hfind := A.find (P := P) c1 q
      rw [eplace_none hno] at hfind
      have hget := run_getO (P := P) A.hb (by simp)
      have hF : esF = [] := A.foc
      subst hF
      obtain ⟨q1, q2⟩ := A.upd hg c3 hs hc (es2 := es.push { key := .int .i64 q, val := v', born := clk }) (clk2 := clk + 1) (foc2 := some (q, v)) (esF2 := [⟨.int .i64 q, v', clk⟩])
        (by
          rw [Array.toList_push]
          refine (List.perm_append_comm).trans ?_
          exact (A.pm.cons _)) ⟨v', clk, rfl, hq, hv⟩
        (by
          rw [Array.toList_push, List.map_append]
          refine List.nodup_append.2 ⟨A.kd, by simp, fun x hx y hy e => ?_⟩
          simp at hy
          obtain ⟨z, hz, rfl⟩ := List.mem_map.1 hx
          exact hno z hz (by rw [e, hy]; rfl))
        (by
          rw [Array.toList_push]
          refine List.pairwise_append.2 ⟨A.bd, by simp, fun x hx y hy => ?_⟩
          simp at hy; subst hy
          have := A.old x hx
          simp only; omega)
        (by
          intro e he
          rw [Array.toList_push] at he
          rcases List.mem_append.1 he with he | he
          · have := A.old e he; omega
          · simp at he; subst he; simp only; omega)
      refine ⟨_, _, ?_, h, rfl, rfl, ht, q1, q2⟩
      simp only [Instr.mapUpdate, Sem.run_bind, run_underlying hu, Result.andThen_ok, hget, run_checkKey c1 (s := .i .i64) (k := .int .i64 q) rfl hk0, hfind]
      exact run_setO _ A.hb (by simp)
    · exact h.elim
  · exact h.elim
def amapUpdateX (P : Program) (s : St O) (t : TypeId) (m k v : AV) (K : St O → Prop) : Prop := match isPm s.hp m with
  | true => pmUpdate P s t m k v K
  | false => amapUpdate P s t m k v K
theorem amapUpdateX_ok {c : Ctx} {s : St O} {t : TypeId} {m k v : AV} {K : St O → Prop} (h : amapUpdateX P s t m k v K) {a : Act} {w : World} {ρ : Rho} {fp : Nat → List Nat} (ht : TmOk ρ s.tm a.tmps)
    (hs : Sat I ρ fp s.hp w) (hc : Since c.w0 c.F0 c.ρ0 ρ fp w) {m' k' v' : Value} (hm : Den ρ m m') (hk : Den ρ k k') (hv : Den ρ v v') :
    ∃ w' s', (Instr.mapUpdate t m' k' v').run P w = .ok () w' ∧ K s' ∧ s'.tm = s.tm ∧ s'.sz = s.sz ∧ TmOk ρ s'.tm a.tmps ∧ Sat I ρ fp s'.hp w' ∧ Since c.w0 c.F0 c.ρ0 ρ fp w' := by
  unfold amapUpdateX at h
  split at h
  · exact pmUpdate_ok h ht hs hc hm hk hv
  · exact amapUpdate_ok h ht hs hc hm hk hv
def pmDelete (P : Program) (s : St O) (ts : List TypeId) (m k : AV) (K : St O → Prop) : Prop := match ts with
  | t :: _ => match mkTU P t, m, k with
    | some (.map kt _), .map n, .int .i64 q => match s.hp.get n with
      | some (.pm hid (some (i, _))) => must (ktOk P kt (.i .i64) && (decide (q = i) && Nat.blt n 16777215)) (K { s with hp := s.hp.set n (some (.pm hid none)) })
      | _ => False
    | _, _, _ => False
  | _ => False
theorem pmDelete_ok {c : Ctx} {s : St O} {ts : List TypeId} {m k : AV} {K : St O → Prop} (h : pmDelete P s ts m k K) {a : Act} {w : World} {ρ : Rho} {fp : Nat → List Nat} (ht : TmOk ρ s.tm a.tmps)
    (hs : Sat I ρ fp s.hp w) (hc : Since c.w0 c.F0 c.ρ0 ρ fp w) {m' k' : Value} (hm : Den ρ m m') (hk : Den ρ k k') :
    ∃ w' s', (∀ ty, (Builtin.delete_ ts.toArray ty #[m', k']).run P w = .ok (.tuple #[]) w') ∧ K s' ∧ s'.tm = s.tm ∧ s'.sz = s.sz ∧ TmOk ρ s'.tm a.tmps ∧ Sat I ρ fp s'.hp w' ∧ Since c.w0 c.F0 c.ρ0 ρ fp w' := by
  unfold pmDelete at h
  split at h
  · rename_i t ts'
    split at h
    · rename_i kt et n q hty
      have hu := mkTU_map hty
      split at h
      · rename_i hid i v hg
        obtain ⟨hcond, h9⟩ := must_spec h
        clear h
        simp only [Bool.and_eq_true] at hcond
        obtain ⟨c1, c2, c3⟩ := hcond
        have c2 := of_decide_eq_true c2
        subst c2
        cases hm with | map hm =>
        obtain ⟨b, es, clk, esF, esH, fpH, A⟩ := pm_at hs hg
        rw [A.ρn] at hm; cases hm
        have hk0 := hk
        cases hk
        obtain ⟨y, bn, rfl, hin, dv⟩ := A.foc
        have hmem : (⟨.int .i64 q, y, bn⟩ : MapEntry) ∈ es.toList := A.pm.mem_iff.2 (by simp)
        obtain ⟨j, p1, p2⟩ := eplace_some A.kd hmem (k := q) rfl 0
        rw [Nat.zero_add] at p1
        have hfind := A.find (P := P) c1 q
        rw [p1] at hfind
        have hget := run_getO (P := P) A.hb (by simp)
        have hj : j < es.size := by have := (List.getElem?_eq_some_iff.1 p2).1; simpa using this
        have el : (es.eraseIdxIfInBounds j).toList = es.toList.eraseIdx j := by
          rw [Array.eraseIdxIfInBounds, dif_pos hj, Array.toList_eraseIdx]
        have hsub : (es.toList.eraseIdx j).Sublist es.toList := List.eraseIdx_sublist ..
        have hperm : (es.toList.eraseIdx j).Perm ([] ++ esH) := by
          have h1 : (es.toList[j]'(by simpa using hj) :: es.toList.eraseIdx j).Perm es.toList := perm_erase _ j (by simpa using hj)
          have h2 : es.toList[j]'(by simpa using hj) = ⟨.int .i64 q, y, bn⟩ := (List.getElem?_eq_some_iff.1 p2).2
          rw [h2] at h1
          exact (List.perm_cons _).1 (h1.trans A.pm)
        obtain ⟨q1, q2⟩ := A.upd hg c3 hs hc (es2 := es.eraseIdxIfInBounds j) (clk2 := clk) (foc2 := none) (esF2 := []) (by rw [el]; exact hperm) rfl
          (by rw [el]; exact A.kd.sublist (hsub.map _)) (by rw [el]; exact A.bd.sublist hsub) (fun e he => A.old e (by rw [el] at he; exact hsub.subset he))
        refine ⟨_, _, fun ty => ?_, h9, rfl, rfl, ht, q1, q2⟩
        have hset := run_setO (P := P) (.map (es.eraseIdxIfInBounds j) clk) A.hb (by simp)
        simp [Builtin.delete_, run_underlying hu, hget, run_checkKey c1 (s := .i .i64) (k := .int .i64 q) rfl hk0, hfind, hset]
      · exact h.elim
    · exact h.elim
  · exact h.elim
def amapDeleteX (P : Program) (s : St O) (ts : List TypeId) (m k : AV) (K : St O → Prop) : Prop := match isPm s.hp m with
  | true => pmDelete P s ts m k K
  | false => amapDelete P s ts m k K
theorem amapDeleteX_ok {c : Ctx} {s : St O} {ts : List TypeId} {m k : AV} {K : St O → Prop} (h : amapDeleteX P s ts m k K) {a : Act} {w : World} {ρ : Rho} {fp : Nat → List Nat} (ht : TmOk ρ s.tm a.tmps)
    (hs : Sat I ρ fp s.hp w) (hc : Since c.w0 c.F0 c.ρ0 ρ fp w) {m' k' : Value} (hm : Den ρ m m') (hk : Den ρ k k') :
    ∃ w' s', (∀ ty, (Builtin.delete_ ts.toArray ty #[m', k']).run P w = .ok (.tuple #[]) w') ∧ K s' ∧ s'.tm = s.tm ∧ s'.sz = s.sz ∧ TmOk ρ s'.tm a.tmps ∧ Sat I ρ fp s'.hp w' ∧ Since c.w0 c.F0 c.ρ0 ρ fp w' := by
  unfold amapDeleteX at h
  split at h
  · exact pmDelete_ok h ht hs hc hm hk
  · exact amapDelete_ok h ht hs hc hm hk

/-! ### How many -/
def pmLen (P : Program) (hp : Tr (AO O)) (ts : List TypeId) (n : Nat) (K : AV → Prop) : Prop := match ts with
  | [t] => match mkTU P t, hp.get n with
    | some (.map _ _), some (.pm hid foc) => hid.length + 1 ≤ 9223372036854775807 ∧ (match foc with | some _ => K (.int .i64 ((hid.length + 1 : Nat) : Int)) | none => K (.int .i64 (hid.length : Int)))
    | _, _ => False
  | _ => False
theorem pmLen_ok {hp : Tr (AO O)} {ts : List TypeId} {n : Nat} {K : AV → Prop} (h : pmLen P hp ts n K) :
    ∃ v, K v ∧ ∀ ρ fp w x', Sat I ρ fp hp w → Den ρ (.map n) x' → ∃ z, Den ρ v z ∧ ∀ ty, (Builtin.len_ ts.toArray ty #[x']).run P w = .ok z w := by
  unfold pmLen at h
  split at h
  · rename_i t
    split at h
    · rename_i kt et hid foc hty hg
      obtain ⟨h0, h⟩ := h
      have key : ∀ m : Nat, (∀ (w : World) ρ fp b es clk esF esH fpH, PmAt I ρ fp w n hid foc b es clk esF esH fpH → es.size = m) → m ≤ 9223372036854775807 → K (.int .i64 (m : Int)) →
          ∃ v, K v ∧ ∀ ρ fp w x', Sat I ρ fp hp w → Den ρ (.map n) x' → ∃ z, Den ρ v z ∧ ∀ ty, (Builtin.len_ #[t] ty #[x']).run P w = .ok z w := by
        intro m hm hle hk
        refine ⟨_, hk, fun ρ fp w x' hs hx => ?_⟩
        obtain ⟨b, es, clk, esF, esH, fpH, A⟩ := pm_at hs hg
        cases hx with | map hx =>
        rw [A.ρn] at hx; cases hx
        have hl := hm _ _ _ _ _ _ _ _ _ A
        refine ⟨_, .int .i64 (m : Int) (by rw [inK_iff]; simp only [loK, hiK]; omega), fun ty => ?_⟩
        have hget := run_getO (P := P) A.hb (by simp)
        simp [Builtin.len_, run_underlying (mkTU_map hty), hget, goInt, hl]
      split at h
      · refine key _ (fun w ρ fp b es clk esF esH fpH A => ?_) h0 h
        obtain ⟨y, bn, hF, _⟩ := A.foc
        rw [A.len, hF]; simp; omega
      · refine key _ (fun w ρ fp b es clk esF esH fpH A => ?_) (by omega) h
        have hF : esF = [] := A.foc
        rw [A.len, hF]; simp
    · exact h.elim
  · exact h.elim
def amapLenX (P : Program) (hp : Tr (AO O)) (ts : List TypeId) (n : Nat) (K : AV → Prop) : Prop := match isPm hp (.map n) with
  | true => pmLen P hp ts n K
  | false => amapLen P hp ts n K
theorem amapLenX_ok {hp : Tr (AO O)} {ts : List TypeId} {n : Nat} {K : AV → Prop} (h : amapLenX P hp ts n K) :
    ∃ v, K v ∧ ∀ ρ fp w x', Sat I ρ fp hp w → Den ρ (.map n) x' → ∃ z, Den ρ v z ∧ ∀ ty, (Builtin.len_ ts.toArray ty #[x']).run P w = .ok z w := by
  unfold amapLenX at h
  split at h
  · exact pmLen_ok h
  · exact amapLen_ok h

/-! ### New ones -/
def pmTypes : List Nat := [58]
def amakeMapX (P : Program) (s : St O) (d : Option Tmp) (t : TypeId) (r : Option AV) (K : St O → Prop) : Prop := match pmTypes.any (fun x => Nat.beq x t) with
  | true => match r with
    | none => anew s (.pm [] none) fun n s => putv s d (.map n) K
    | some _ => False
  | false => amakeMap P s d t r K
theorem amakeMapX_ok {c : Ctx} {s : St O} {d : Option Tmp} {t : TypeId} {r : Option AV} {K : St O → Prop} (h : amakeMapX P s d t r K) {a : Act} {w : World} (hd : a.defers = []) (hz : a.tmps.size = s.sz) {ρ : Rho} {fp : Nat → List Nat} (ht : TmOk ρ s.tm a.tmps)
    (hs : Sat I ρ fp s.hp w) (hc : Since c.w0 c.F0 c.ρ0 ρ fp w) {r' : Option Value} (hr : OptDen ρ r r') (p : Nat → Bool) : ∃ v w', (Instr.makeMap t r').run P w = .ok v w' ∧ KM I c ρ p s.hp K (a.put d v) w' := by
  unfold amakeMapX at h
  split at h
  · split at h
    · cases r' with
      | some _ => exact hr.elim
      | none =>
        obtain ⟨s', ρ', fp', e1, e2, hk, hsm, he, hn, ht', hs', hc'⟩ := new_any h ht hs hc (.map #[] 0) (fun ρ' _ hn => ⟨w.heap.size, #[], 0, [], [], [], hn, rfl, by simp, heap_alloc_new w _, by simp, rfl, rfl, by simp, by simp, by simp⟩)
        exact ⟨_, _, by simp [Instr.makeMap], putv_ok hk hd (hz.trans e2.symm) ht' hs' hc' (.map hn) he (hsm p)⟩
    · exact h.elim
  · exact amakeMap_ok h hd hz ht hs hc hr p
end Go.Tb
