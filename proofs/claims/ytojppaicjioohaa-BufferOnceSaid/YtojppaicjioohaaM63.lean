/- The abstract machine's operations on maps (made, counted, gone through), on slices that are cleared, and on interfaces. -/
import Derived.Test.YtojppaicjioohaaM62
set_option linter.all false
namespace Go.Tb
open Go
variable {O : Type} {P : Program} {I : Interp O}

/-- A new object that is no cells. -/
theorem new_any {c : Ctx} {s : St O} {o : AO O} {K : Nat → St O → Prop} (h : anew s o K) {a : Act} {w : World} {ρ : Rho} {fp : Nat → List Nat} (ht : TmOk ρ s.tm a.tmps) (hs : Sat I ρ fp s.hp w) (hc : Since c.w0 c.F0 c.ρ0 ρ fp w) (ob : Obj)
    (hok : ∀ ρ' : Rho, Ext ρ ρ' → ρ' s.nx = some (w.heap.size, 0) → okO I ρ' s.nx [w.heap.size] (w.alloc ob) o) :
    ∃ s' ρ' fp', s'.tm = s.tm ∧ s'.sz = s.sz ∧ K s.nx s' ∧ (∀ p, Same p s.hp s'.hp) ∧ Ext ρ ρ' ∧ ρ' s.nx = some (w.heap.size, 0) ∧ TmOk ρ' s'.tm a.tmps ∧ Sat I ρ' fp' s'.hp (w.alloc ob) ∧ Since c.w0 c.F0 c.ρ0 ρ' fp' (w.alloc ob) := by
  obtain ⟨hg, hb, hk⟩ := anew_spec h
  have hw : ∀ x, x < w.heap.size → (w.alloc ob).heap[x]? = w.heap[x]? := fun x hx => heap_alloc_old w _ hx
  have hbs : ∀ x, x ∈ [w.heap.size] → w.heap.size ≤ x := by simp
  have e0 : Ext ρ (fun m => if m = s.nx then some (w.heap.size, 0) else ρ m) := fun m p hp => by
    by_cases hm : m = s.nx
    · subst hm; rw [(hs.dom _ hg).1] at hp; cases hp
    · simp [hm, hp]
  have key := hs.new (w' := w.alloc ob) (n := s.nx) (b := w.heap.size) (z := 0) (bs := [w.heap.size]) hb (o := o) hg hw hbs (hok _ e0 (by simp))
  exact ⟨{ s with hp := s.hp.set s.nx (some o), nx := s.nx + 1 }, _, _, rfl, rfl, hk, (fun p => Same.new hg _), key.2, by simp, ht.mono key.2, key.1, hc.new key.2 rfl rfl rfl (by simp) hw hbs⟩

/-! ### New maps -/
def shKey : TU → Option Sh
  | .int k => some (.i k)
  | .bool => some .b
  | .str => some .s
  | _ => none
/-- The cells of a thing in a map: plain ones, or a slice of texts. -/
def shpV (P : Program) (t : TypeId) : Option (List Sh) := match mkTU P t with
  | some (.slice e) => match mkTU P e with | some .str => some [.v] | _ => none
  | _ => shp P 8 t
def msOf (P : Program) (kt et : TypeId) : Option MSh := match mkTU P kt with
  | some u => match shKey u, shpV P et, aggT P et with
    | some s, some vs, some g => some ⟨s, vs, g⟩
    | _, _, _ => none
  | none => none
def amakeMap (P : Program) (s : St O) (d : Option Tmp) (t : TypeId) (r : Option AV) (K : St O → Prop) : Prop := match mkTU P t with
  | some (.map kt et) => match msOf P kt et, r with
    | some ms, none => anew s (.mp ms [] 0) fun n s => putv s d (.map n) K
    | some ms, some (.int _ _) => anew s (.mp ms [] 0) fun n s => putv s d (.map n) K
    | _, _ => False
  | _ => False
theorem amakeMap_ok {c : Ctx} {s : St O} {d : Option Tmp} {t : TypeId} {r : Option AV} {K : St O → Prop} (h : amakeMap P s d t r K) {a : Act} {w : World} (hd : a.defers = []) (hz : a.tmps.size = s.sz) {ρ : Rho} {fp : Nat → List Nat} (ht : TmOk ρ s.tm a.tmps)
    (hs : Sat I ρ fp s.hp w) (hc : Since c.w0 c.F0 c.ρ0 ρ fp w) {r' : Option Value} (hr : OptDen ρ r r') (p : Nat → Bool) : ∃ v w', (Instr.makeMap t r').run P w = .ok v w' ∧ KM I c ρ p s.hp K (a.put d v) w' := by
  unfold amakeMap at h
  split at h
  · rename_i kt et hty
    have hu := mkTU_map hty
    have fin : ∀ ms, anew s (.mp ms [] 0) (fun n s => putv s d (.map n) K) → KM I c ρ p s.hp K (a.put d (.map (some w.heap.size))) (w.alloc (.map #[] 0)) := by
      intro ms h
      obtain ⟨s', ρ', fp', e1, e2, hk, hsm, he, hn, ht', hs', hc'⟩ := new_any h ht hs hc (.map #[] 0) (fun ρ' _ hn => ⟨w.heap.size, #[], hn, rfl, heap_alloc_new w _, rfl, fun e he => by simp at he⟩)
      exact putv_ok hk hd (hz.trans e2.symm) ht' hs' hc' (.map hn) he (hsm p)
    split at h
    · rename_i ms _ _
      cases r' with
      | some _ => exact hr.elim
      | none => exact ⟨_, _, by simp [Instr.makeMap], fin _ h⟩
    · rename_i ms _ _ _ _
      cases r' with
      | none => exact hr.elim
      | some v =>
        have hr : Den ρ (.int _ _) v := hr
        cases hr
        exact ⟨_, _, by simp [Instr.makeMap, run_underlying hu, asInt, asIntOf], fin _ h⟩
    · exact h.elim
  · exact h.elim

/-! ### How many -/
def amapLen (P : Program) (hp : Tr (AO O)) (ts : List TypeId) (n : Nat) (K : AV → Prop) : Prop := match ts with
  | [t] => match mkTU P t, hp.get n with
    | some (.map _ _), some (.mp _ es _) => es.length ≤ 9223372036854775807 ∧ K (.int .i64 es.length)
    | _, _ => False
  | _ => False
theorem amapLen_ok {hp : Tr (AO O)} {ts : List TypeId} {n : Nat} {K : AV → Prop} (h : amapLen P hp ts n K) :
    ∃ v, K v ∧ ∀ ρ fp w x', Sat I ρ fp hp w → Den ρ (.map n) x' → ∃ z, Den ρ v z ∧ ∀ ty, (Builtin.len_ ts.toArray ty #[x']).run P w = .ok z w := by
  unfold amapLen at h
  split at h
  · rename_i t
    split at h
    · rename_i kt et ms es clk hty hn
      refine ⟨_, h.2, fun ρ fp w x' hs hx => ?_⟩
      obtain ⟨b, es', h1, h2, h3, h4, h5⟩ := hs.ok n _ hn
      cases hx with | map hx =>
      rw [h1] at hx; cases hx
      have hl : es'.size = es.length := by have := congrArg List.length h4; simpa using this
      refine ⟨_, .int .i64 (es.length : Nat) (by rw [inK_iff]; simp only [loK, hiK]; have := h.1; omega), fun ty => ?_⟩
      have hget := run_getO (P := P) h3 (by simp)
      simp [Builtin.len_, run_underlying (mkTU_map hty), hget, goInt, hl]
    · exact h.elim
  · exact h.elim

/-! ### Gone through -/
def arange (P : Program) (s : St O) (d : Option Tmp) (t : TypeId) (x : AV) (K : St O → Prop) : Prop := match mkTU P t, x with
  | some (.map _ _), .map n => match s.hp.get n with
    | some (.mp _ _ clk) => anew s (.it n clk [] clk none) fun m s => putv s d (.ptr m 0) K
    | _ => False
  | some (.map _ _), .nilm => anew s .itn fun m s => putv s d (.ptr m 0) K
  | _, _ => False
theorem arange_ok {c : Ctx} {s : St O} {d : Option Tmp} {t : TypeId} {x : AV} {K : St O → Prop} (h : arange P s d t x K) {a : Act} {w : World} (hd : a.defers = []) (hz : a.tmps.size = s.sz) {ρ : Rho} {fp : Nat → List Nat} (ht : TmOk ρ s.tm a.tmps)
    (hs : Sat I ρ fp s.hp w) (hc : Since c.w0 c.F0 c.ρ0 ρ fp w) {x' : Value} (hx : Den ρ x x') (p : Nat → Bool) : ∃ v w', (Instr.range t x').run P w = .ok v w' ∧ KM I c ρ p s.hp K (a.put d v) w' := by
  unfold arange at h
  split at h
  · rename_i kt et n hty
    have hu := mkTU_map hty
    split at h
    · rename_i ms es clk hn
      obtain ⟨b, es', h1, h2, h3, h4, h5⟩ := hs.ok n _ hn
      cases hx with | map hx =>
      rw [h1] at hx; cases hx
      have hget := run_getO (P := P) h3 (by simp)
      obtain ⟨s', ρ', fp', e1, e2, hk, hsm, he, hnn, ht', hs', hc'⟩ := new_any h ht hs hc (.mapIter (some b) clk #[] clk) (fun ρ' hext hnn => ⟨w.heap.size, b, 0, hnn, hext _ _ h1, rfl, heap_alloc_new w _, fun e he => by cases he⟩)
      refine ⟨.pointer (some ⟨w.heap.size, 0, none⟩), w.alloc (.mapIter (some b) clk #[] clk), ?_, putv_ok hk hd (hz.trans e2.symm) ht' hs' hc' (by simpa using Den.ptr (ρ := ρ') 0 hnn) he (hsm p)⟩
      simp only [Instr.range, Sem.run_bind, run_underlying hu, Result.andThen_ok, hget, Sem.run_pure, run_newObj]
      rfl
    · exact h.elim
  · rename_i kt et hty
    have hu := mkTU_map hty
    cases hx
    obtain ⟨s', ρ', fp', e1, e2, hk, hsm, he, hnn, ht', hs', hc'⟩ := new_any h ht hs hc (.mapIter none 0 #[] 0) (fun ρ' hext hnn => ⟨w.heap.size, hnn, rfl, heap_alloc_new w _⟩)
    refine ⟨.pointer (some ⟨w.heap.size, 0, none⟩), w.alloc (.mapIter none 0 #[] 0), ?_, putv_ok hk hd (hz.trans e2.symm) ht' hs' hc' (by simpa using Den.ptr (ρ := ρ') 0 hnn) he (hsm p)⟩
    simp only [Instr.range, Sem.run_bind, run_underlying hu, Result.andThen_ok, Sem.run_pure, run_newObj]
    rfl
  · exact h.elim
/-- The entries that have not come yet. -/
def mleft (es : List (Rw × Nat)) (seen : List Nat) : List (Rw × Nat) := es.filter fun e => !seen.contains e.2
/-- None of them was there from the first. -/
def mover (es : List (Rw × Nat)) (since : Nat) (seen : List Nat) : Bool := (mleft es seen).all fun e => decide (since ≤ e.2)
def mgoes (es : List (Rw × Nat)) (seen : List Nat) (last : Nat) : Bool := seen.isEmpty || (es.isEmpty || es.any fun e => decide (e.2 < last))
def anext (s : St O) (d : Option Tmp) (x : AV) (K : St O → Prop) : Prop := match x with
  | .ptr n 0 => match s.hp.get n with
    | some (.it m since seen last _) => match s.hp.get m with
      | some (.mp ms es clk) => must (Nat.blt n 16777215 && mgoes es seen last) (
          (mover es since seen = true → putv s d (.tup [.bool false]) K) ∧
          (∀ (x : Rw) (b : Nat), (x, b) ∈ mleft es seen → putv { s with hp := s.hp.set n (some (.it m since (seen ++ [b]) clk (some (x, b)))) } d (.tup [.bool true, mkey ms x, mval ms x]) K))
      | _ => False
    | some .itn => putv s d (.tup [.bool false]) K
    | _ => False
  | _ => False
theorem filter_toList {α : Type} (p : α → Bool) (a : Array α) : (a.filter p).toList = a.toList.filter p := by simp
theorem anext_ok {c : Ctx} {s : St O} {d : Option Tmp} {x : AV} {K : St O → Prop} (h : anext s d x K) {a : Act} {w : World} (hd : a.defers = []) (hz : a.tmps.size = s.sz) {ρ : Rho} {fp : Nat → List Nat} (ht : TmOk ρ s.tm a.tmps)
    (hs : Sat I ρ fp s.hp w) (hc : Since c.w0 c.F0 c.ρ0 ρ fp w) {x' : Value} (hx : Den ρ x x') : ∃ v w', (∀ ty, (Instr.next x' false ty).run P w = .ok v w') ∧ KM I c ρ (fun _ => false) s.hp K (a.put d v) w' := by
  unfold anext at h
  split at h
  · rename_i n
    split at h
    · rename_i m since seen last cur hn
      split at h
      · rename_i ms es clk hm
        obtain ⟨hcond, h⟩ := must_spec h
        simp only [Bool.and_eq_true] at hcond
        obtain ⟨c1, c2⟩ := hcond
        obtain ⟨b, bm, zm, h1, h2, h3, h4, h5⟩ := hs.ok n _ hn
        obtain ⟨b', es', k1, k2, k3, k4, k5⟩ := hs.ok m _ hm
        rw [h2] at k1; cases k1
        cases hx with | ptr _ hx =>
        rw [h1] at hx; cases hx
        have hget1 := run_getO (P := P) h4 (by simp)
        have hget2 := run_getO (P := P) k3 (by simp)
        have hstop : (!seen.toArray.isEmpty && !es'.isEmpty && es'.all (fun e => decide (e.born ≥ last))) = false := by
          have e1 : seen.toArray.isEmpty = seen.isEmpty := by simp
          have e2 : es'.isEmpty = es.isEmpty := by
            rw [Bool.eq_iff_iff, Array.isEmpty_iff, List.isEmpty_iff]
            constructor
            · intro e; subst e; simp at k4; exact k4
            · intro e; subst e; simp at k4; exact k4
          have e3 : es'.all (fun e => decide (e.born ≥ last)) = !(es.any fun e => decide (e.2 < last)) := by
            rw [← Array.all_toList, k4, List.all_map, Bool.eq_iff_iff]
            simp [mkE]
            exact ⟨fun h a b hab => of_decide_eq_true (h a b hab), fun h a b hab => decide_eq_true (h a b hab)⟩
          rw [e1, e2, e3]
          unfold mgoes at c2
          revert c2
          cases seen.isEmpty <;> cases es.isEmpty <;> cases (es.any fun e => decide (e.2 < last)) <;> simp
        let left' := es'.filter fun e => !seen.toArray.contains e.born
        have hleft : left'.toList = (mleft es seen).map (mkE ms) := by
          simp only [left', filter_toList, k4, mleft, List.filter_map]
          congr 1
          apply List.filter_congr
          intro e _; simp [mkE]; exact decide_eq_decide.2 Iff.rfl
        have hrun : ∀ ty, (Instr.next (.pointer (some ⟨b, 0 + 0, none⟩)) false ty).run P w = (do
            match ((if (left'.filter fun e : MapEntry => decide (e.born < since)).isEmpty then #[none] else #[]) ++ ((left'.filter fun e : MapEntry => decide (e.born < since)) ++ (left'.filter fun e : MapEntry => decide (e.born ≥ since))).map some)[← choose (.mapNext ((if (left'.filter fun e : MapEntry => decide (e.born < since)).isEmpty then #[none] else #[]) ++ ((left'.filter fun e : MapEntry => decide (e.born < since)) ++ (left'.filter fun e : MapEntry => decide (e.born ≥ since))).map some).size)]? with
            | some (some e) =>
              setObj b (.mapIter (some bm) since (seen.toArray.push e.born) clk)
              pure (.tuple #[.bool true, e.key, e.val])
            | some none => pure (.tuple #[.bool false])
            | none => stuck "Next: no such candidate" : Sem Value).run P w := fun ty => by
          simp only [Instr.next, Sem.run_bind, hget1, Result.andThen_ok, hget2]
          rw [hstop, if_neg (by simp), Sem.run_bind]
          rfl
        generalize hcand : ((if (left'.filter fun e : MapEntry => decide (e.born < since)).isEmpty then #[none] else #[]) ++ ((left'.filter fun e : MapEntry => decide (e.born < since)) ++ (left'.filter fun e : MapEntry => decide (e.born ≥ since))).map some : Array (Option MapEntry)) = cand at hrun
        have hmem : ∀ o ∈ cand, (o = none ∧ mover es since seen = true) ∨ ∃ x bb, (x, bb) ∈ mleft es seen ∧ o = some (mkE ms (x, bb)) := by
          intro o ho
          rw [← hcand] at ho
          simp only [Array.mem_append, Array.mem_map] at ho
          rcases ho with ho | ⟨e, he, rfl⟩
          · left
            split at ho
            · rename_i hem
              simp at ho
              refine ⟨ho, ?_⟩
              unfold mover
              rw [List.all_eq_true]
              intro e he
              rw [Array.isEmpty_iff] at hem
              have h0 : (left'.filter fun e : MapEntry => decide (e.born < since)).toList = [] := by rw [hem]
              rw [filter_toList, hleft, List.filter_map] at h0
              have h0 := List.map_eq_nil_iff.1 h0
              rw [List.filter_eq_nil_iff] at h0
              have hh : ¬ (e.2 < since) := fun hlt => h0 e he (decide_eq_true hlt)
              exact decide_eq_true (by omega)
            · simp at ho
          · right
            have : e ∈ left'.toList := by
              rcases he with he | he
              · have := (Array.mem_filter.1 he).1; simpa using this
              · have := (Array.mem_filter.1 he).1; simpa using this
            rw [hleft, List.mem_map] at this
            obtain ⟨⟨x, bb⟩, hxb, rfl⟩ := this
            exact ⟨x, bb, hxb, rfl⟩
        have hne : 0 < cand.size := by
          rw [← hcand]
          by_cases he : (left'.filter fun e : MapEntry => decide (e.born < since)).isEmpty = true
          · rw [if_pos he]; simp; omega
          · rw [if_neg he]
            have : (left'.filter fun e : MapEntry => decide (e.born < since)).size ≠ 0 := by
              intro h0; exact he (by rw [Array.isEmpty_iff]; exact Array.eq_empty_of_size_eq_zero h0)
            simp only [Array.size_append, Array.size_map]
            omega
        have hch : ∃ i w1, (choose (.mapNext cand.size)).run P w = .ok i w1 ∧ i < cand.size ∧ (w1 = w ∨ w1 = w.drew) := by
          rw [run_choose]
          split
          · exact ⟨0, w, rfl, hne, .inl rfl⟩
          · exact ⟨_, w.drew, rfl, by simp only [Question.cut]; exact Nat.mod_lt _ hne, .inr rfl⟩
        obtain ⟨i, w1, hch, hi, hw1⟩ := hch
        have hs1 : Sat I ρ fp s.hp w1 := by rcases hw1 with rfl | rfl; exact hs; exact hs.drew
        have hc1 : Since c.w0 c.F0 c.ρ0 ρ fp w1 := by rcases hw1 with rfl | rfl; exact hc; exact hc.drew
        have h41 : w1.heap[b]? = some (.mapIter (some bm) since seen.toArray last) := by rcases hw1 with rfl | rfl <;> exact h4
        have hci : cand[i]? = some cand[i] := Array.getElem?_eq_getElem hi
        rcases hmem _ (Array.getElem_mem hi) with ⟨ho, hov⟩ | ⟨x, bb, hxb, ho⟩
        · refine ⟨.tuple #[.bool false], w1, fun ty => ?_, putv_ok (h.1 hov) hd hz ht hs1 hc1 (.tup (.cons (.bool _) .nil)) (Ext.refl ρ) (fun _ _ h => by cases h)⟩
          rw [hrun ty, Sem.run_bind, hch]
          simp only [Result.andThen_ok, hci, ho]
          rfl
        · have hx := h.2 x bb hxb
          have hok : okE ms x = true := k5 _ (List.mem_filter.1 hxb).1
          have hupd : Sat I ρ fp (s.hp.set n (some (.it m since (seen ++ [bb]) clk (some (x, bb))))) (setO w1 b (.mapIter (some bm) since (seen ++ [bb]).toArray clk)) :=
            hs1.update c1 (by rw [hn]; simp) (fun k hk => setO_other (fun e => hk (e ▸ (by rw [h3]; simp)))) ⟨b, bm, 0, h1, h2, h3, setO_self h41, fun e he => by cases he; simp⟩
          have hsc := hc1.setO (n := n) (b := b) (by rw [h3]; simp) (.mapIter (some bm) since (seen ++ [bb]).toArray clk)
          refine ⟨.tuple #[.bool true, vkey ms x, vval ms x], _, fun ty => ?_, putv_ok hx hd hz ht hupd hsc (.tup (.cons (.bool _) (.cons (mkey_den hok ρ) (.cons (mval_den hok ρ) .nil)))) (Ext.refl ρ) (fun _ _ h => by cases h)⟩
          rw [hrun ty, Sem.run_bind, hch]
          simp only [Result.andThen_ok, hci, ho, mkE, Sem.run_bind]
          rw [show seen.toArray.push bb = (seen ++ [bb]).toArray by simp]
          rw [run_setO _ h41 (by simp)]
          rfl
      · exact h.elim
    · rename_i hn
      obtain ⟨b, h1, h2, h3⟩ := hs.ok n _ hn
      cases hx with | ptr _ hx =>
      rw [h1] at hx; cases hx
      have hget1 := run_getO (P := P) h3 (by simp)
      refine ⟨.tuple #[.bool false], w, fun ty => ?_, putv_ok h hd hz ht hs hc (.tup (.cons (.bool _) .nil)) (Ext.refl ρ) (fun _ _ h => by cases h)⟩
      simp only [Instr.next, Sem.run_bind, hget1, Result.andThen_ok]
      rfl
    · exact h.elim
  · exact h.elim
/-- The entry of this birth. -/
def matB (b : Nat) : List (Rw × Nat) → Option (Rw × Nat)
  | [] => none
  | e :: l => match Nat.beq e.2 b with | true => some e | false => matB b l
def aentry (hp : Tr (AO O)) (x : AV) (K : AV → Prop) : Prop := match x with
  | .ptr n 0 => match hp.get n with
    | some (.it m _ _ last (some e)) => match hp.get m with
      | some (.mp ms es clk) => must (Nat.beq clk last) (matB e.2 es = some e ∧ K (.tup [mkey ms e.1, mval ms e.1]))
      | _ => False
    | _ => False
  | _ => False
theorem matB_find {ms : MSh} {b : Nat} : ∀ {es : List (Rw × Nat)} {e : Rw × Nat}, matB b es = some e → (es.map (mkE ms)).find? (fun e => e.born == b) = some (mkE ms e) ∧ e ∈ es
  | [], _, h => by cases h
  | a :: l, e, h => by
    simp only [matB] at h
    cases hb : Nat.beq a.2 b with
    | true =>
      rw [hb] at h; cases h
      have := Nat.eq_of_beq_eq_true hb
      simp [mkE, this]
    | false =>
      rw [hb] at h
      obtain ⟨h1, h2⟩ := matB_find (ms := ms) h
      have hne := Nat.ne_of_beq_eq_false hb
      refine ⟨?_, List.mem_cons_of_mem _ h2⟩
      rw [List.map_cons, List.find?_cons_of_neg (by simp [mkE, hne])]
      exact h1
theorem aentry_ok {hp : Tr (AO O)} {x : AV} {K : AV → Prop} (h : aentry hp x K) :
    ∃ v, K v ∧ ∀ ρ fp w x', Sat I ρ fp hp w → Den ρ x x' → ∃ z, Den ρ v z ∧ (Instr.entry x').run P w = .ok z w := by
  unfold aentry at h
  split at h
  · rename_i n
    split at h
    · rename_i m since seen last e hn
      split at h
      · rename_i ms es clk hm
        obtain ⟨c1, hK⟩ := must_spec h
        have c1 := Nat.eq_of_beq_eq_true c1
        subst c1
        refine ⟨_, hK.2, fun ρ fp w x' hs hx => ?_⟩
        obtain ⟨b, bm, zm, h1, h2, h3, h4, h5⟩ := hs.ok n _ hn
        obtain ⟨b', es', k1, k2, k3, k4, k5⟩ := hs.ok m _ hm
        rw [h2] at k1; cases k1
        cases hx with | ptr _ hx =>
        rw [h1] at hx; cases hx
        have hget1 := run_getO (P := P) h4 (by simp)
        have hget2 := run_getO (P := P) k3 (by simp)
        obtain ⟨f1, f2⟩ := matB_find (ms := ms) hK.1
        have hok := k5 _ f2
        have hb : seen.toArray.back? = some e.2 := by
          have := h5 e rfl
          simpa using this
        have hf : es'.find? (fun x => x.born == e.2) = some (mkE ms e) := by rw [← Array.find?_toList, k4]; exact f1
        refine ⟨.tuple #[vkey ms e.1, vval ms e.1], .tup (.cons (mkey_den hok ρ) (.cons (mval_den hok ρ) .nil)), ?_⟩
        simp only [Instr.entry, Sem.run_bind, hget1, Result.andThen_ok, hb, hget2]
        simp [hf, mkE]
      · exact h.elim
    · exact h.elim
  · exact h.elim
end Go.Tb
