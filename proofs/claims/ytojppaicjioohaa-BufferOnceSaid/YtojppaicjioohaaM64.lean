/- The abstract machine's operations: slices that are cleared; what an interface holds; methods behind an interface. -/
import Derived.Test.YtojppaicjioohaaM63
import Derived.Laws.BytesString
set_option linter.all false
namespace Go.Tb
open Go
variable {O : Type} {P : Program} {I : Interp O}

/-! ### A slice cleared -/
theorem rep_cells {ρ : Rho} {sh : List Sh} {zv : AV} {zz : Value} (dz : Den ρ zv zz) (hr : fitsA sh (acells zv) = true) (hz0 : 0 < sh.length) (n : Nat) :
    Dens ρ (encL sh (List.replicate n (rwA (acells zv)))) (Builtin.zeroCells zz.cells n).toList ∧ zz.cells.size = sh.length := by
  have he : encR (rwA (acells zv)) 0 sh = acells zv := encR_rwA hr
  have hzd := acells_den dz
  have hzc : (acells zv).length = sh.length := (fitsA_get hr).1.symm
  have hzn : zz.cells.size = sh.length := by have := hzd.length; rw [Array.length_toList (xs := zz.cells)] at this; omega
  refine ⟨?_, hzn⟩
  refine Dens.of (by rw [encL_length]; simp [Builtin.zeroCells, hzn]) fun q v hv => ?_
  have hq : q < n * sh.length := by have := (List.getElem?_eq_some_iff.1 hv).1; rw [encL_length] at this; simpa using this
  have hqd : q / sh.length < n := (Nat.div_lt_iff_lt_mul hz0).2 hq
  have hqm : q % sh.length < sh.length := Nat.mod_lt _ hz0
  have hqe : q / sh.length * sh.length + q % sh.length = q := by rw [Nat.mul_comm]; exact Nat.div_add_mod q sh.length
  have h1 := encL_get (sh := sh) (xs := List.replicate n (rwA (acells zv))) (i := q / sh.length) (x := rwA (acells zv)) (by rw [List.getElem?_replicate]; simp [hqd]) (j := q % sh.length) hqm
  rw [hqe, hv, he] at h1
  obtain ⟨u, hu', du⟩ := hzd.get h1.symm
  refine ⟨u, ?_, du⟩
  have hqz : q % zz.cells.size < zz.cells.size := by rw [hzn]; exact hqm
  have e2 : zz.cells[q % zz.cells.size]! = u := by
    rw [getElem!_pos zz.cells _ hqz]
    have h3 : zz.cells.toList[q % sh.length]? = some (zz.cells[q % zz.cells.size]) := by simp [hzn, hqm]
    rw [hu'] at h3; exact (Option.some.inj h3).symm
  simp [Builtin.zeroCells, hzn, hq]
  rw [hzn] at e2; exact e2
def clearR (xs : List Rw) (lo l : Nat) (r : Rw) : List Rw := xs.take lo ++ List.replicate l r ++ xs.drop (lo + l)
def aclear (P : Program) (s : St O) (ts : List TypeId) (x : AV) (K : St O → Prop) : Prop := match ts with
  | [t] => match mkTU P t with
    | some (.slice e) => match x with
      | .nils => K s
      | .sl n 0 l c => match s.hp.get n, zeroT P e with
        | some (.rows e' sh xs room), some zv => must (fitsA sh (acells zv) && (Nat.blt 0 sh.length && (Nat.ble l xs.length && Nat.blt n 16777215)))
            (K { s with hp := s.hp.set n (some (.rows e' sh (clearR xs 0 l (rwA (acells zv))) room)) })
        | _, _ => False
      | .sd n z lo l c _ => match s.hp.get n, zeroT P e with
        | some (.rows e' sh xs room), some zv => must (fitsA sh (acells zv) && (Nat.blt 0 sh.length && (Nat.ble (lo + l) xs.length && (Nat.beq z sh.length && Nat.blt n 16777215))))
            (K { s with hp := s.hp.set n (some (.rows e' sh (clearR xs lo l (rwA (acells zv))) room)) })
        | _, _ => False
      | _ => False
    | _ => False
  | _ => False
theorem clearR_length {xs : List Rw} {lo l : Nat} {r : Rw} (h : lo + l ≤ xs.length) : (clearR xs lo l r).length = xs.length := by simp [clearR]; omega
theorem clear_cells {c : Ctx} {s : St O} {n : Nat} {e' e : TypeId} {sh : List Sh} {xs : List Rw} {room lo l : Nat} {zv : AV} (hn : s.hp.get n = some (.rows e' sh xs room)) (hb : Nat.blt n 16777215 = true) (hzv : zeroT P e = some zv) (hr : fitsA sh (acells zv) = true) (hz0 : 0 < sh.length) (hl : lo + l ≤ xs.length) {w : World} {ρ : Rho} {fp : Nat → List Nat}
    (hs : Sat I ρ fp s.hp w) (hc : Since c.w0 c.F0 c.ρ0 ρ fp w) {b z0 : Nat} (hρ : ρ n = some (b, z0)) : ∃ zz w', (∀ w, (zeroValue e).run P w = .ok zz w) ∧ (storeCells ⟨b, z0 + lo * sh.length, none⟩ (Builtin.zeroCells zz.cells l).toList).run P w = .ok () w' ∧
      Sat I ρ fp (s.hp.set n (some (.rows e' sh (clearR xs lo l (rwA (acells zv))) room))) w' ∧ Since c.w0 c.F0 c.ρ0 ρ fp w' := by
  obtain ⟨zz, rz, dz⟩ := zeroT_spec hzv
  obtain ⟨hd, hsz⟩ := rep_cells (dz ρ) hr hz0 l
  obtain ⟨b', z', arr, h1, h2, h3, h4, h5, h6⟩ := hs.ok n _ hn
  rw [h1] at hρ; cases hρ
  have hlen : (Builtin.zeroCells zz.cells l).toList.length = l * sh.length := by simp [Builtin.zeroCells, hsz]
  have hone : ∀ v ∈ (Builtin.zeroCells zz.cells l).toList, v.oneCell' = true := allOne_den hd (allOne_encL sh _)
  have hmul : (lo + l) * sh.length ≤ xs.length * sh.length := Nat.mul_le_mul_right _ hl
  rw [Nat.add_mul] at hmul
  have hfit : z0 + lo * sh.length + (Builtin.zeroCells zz.cells l).toList.length ≤ arr.size := by rw [hlen]; omega
  have hrun := run_storeCells_at (P := P) b (z0 + lo * sh.length) e' (Builtin.zeroCells zz.cells l).toList 0 arr w h3 (by simpa using hfit) hone
  simp only [Nat.add_zero] at hrun
  have hbfp : b ∈ fp n := by rw [h2]; simp
  refine ⟨zz, _, rz, hrun, ?_, hc.upd hbfp _⟩
  have hT : (arr.toList.take (z0 + lo * sh.length)).length = z0 + lo * sh.length := by rw [List.length_take, Array.length_toList (xs := arr)]; omega
  refine hs.update hb (by rw [hn]; simp) (fun k hk => setRow_other w b k _ (fun e => hk (e ▸ hbfp))) ⟨b, z0, _, h1, h2, setRow_heap w b arr _ e' _ h3, ?_, ?_, fun i v hv => ?_⟩
  · show z0 + room ≤ (arr.toList.take (z0 + lo * sh.length) ++ (Builtin.zeroCells zz.cells l).toList ++ arr.toList.drop (z0 + lo * sh.length + (Builtin.zeroCells zz.cells l).toList.length)).length
    rw [List.length_append, List.length_append, hT, List.length_drop, Array.length_toList (xs := arr)]; omega
  · rw [clearR_length hl]; exact h5
  · show ∃ x, (arr.toList.take (z0 + lo * sh.length) ++ (Builtin.zeroCells zz.cells l).toList ++ arr.toList.drop (z0 + lo * sh.length + (Builtin.zeroCells zz.cells l).toList.length)).toArray[z0 + i]? = some x ∧ Den ρ v x
    rw [List.getElem?_toArray]
    unfold clearR at hv
    rw [encL_append, encL_append, encL_take, encL_drop] at hv
    have hlo : ((encL sh xs).take (lo * sh.length)).length = lo * sh.length := by rw [List.length_take, encL_length]; omega
    have hrep : (encL sh (List.replicate l (rwA (acells zv)))).length = l * sh.length := by rw [encL_length]; simp
    by_cases c1 : i < lo * sh.length
    · rw [List.append_assoc, List.getElem?_append_left (by rw [hlo]; exact c1), List.getElem?_take_of_lt c1] at hv
      obtain ⟨x, hx, dx⟩ := h6 i v hv
      refine ⟨x, ?_, dx⟩
      rw [List.append_assoc, List.getElem?_append_left (by rw [hT]; omega), List.getElem?_take_of_lt (by omega)]
      simpa using hx
    · by_cases c2 : i < lo * sh.length + l * sh.length
      · rw [List.append_assoc, List.getElem?_append_right (by rw [hlo]; omega), hlo, List.getElem?_append_left (by rw [hrep]; omega)] at hv
        obtain ⟨x, hx, dx⟩ := hd.get hv
        refine ⟨x, ?_, dx⟩
        rw [List.append_assoc, List.getElem?_append_right (by rw [hT]; omega), hT, List.getElem?_append_left (by rw [hlen]; omega)]
        rw [show z0 + i - (z0 + lo * sh.length) = i - lo * sh.length by omega]; exact hx
      · rw [List.getElem?_append_right (by rw [List.length_append, hlo, hrep]; omega), List.length_append, hlo, hrep, List.getElem?_drop, Nat.add_mul] at hv
        rw [show lo * sh.length + l * sh.length + (i - (lo * sh.length + l * sh.length)) = i by omega] at hv
        obtain ⟨x, hx, dx⟩ := h6 i v hv
        refine ⟨x, ?_, dx⟩
        rw [List.getElem?_append_right (by rw [List.length_append, hT, hlen]; omega), List.length_append, hT, hlen, List.getElem?_drop]
        rw [show z0 + lo * sh.length + l * sh.length + (z0 + i - (z0 + lo * sh.length + l * sh.length)) = z0 + i by omega]
        simpa using hx
theorem clearR_zero (xs : List Rw) (lo : Nat) (r : Rw) : clearR xs lo 0 r = xs := by simp [clearR]
theorem sat_same {hp : Tr (AO O)} {ρ : Rho} {fp : Nat → List Nat} {w : World} (hs : Sat I ρ fp hp w) {n : Nat} (hb : Nat.blt n 16777215 = true) {o : AO O} (hn : hp.get n = some o) : Sat I ρ fp (hp.set n (some o)) w :=
  hs.update hb (by rw [hn]; simp) (fun _ _ => rfl) (hs.ok n o hn)
theorem aclear_ok {c : Ctx} {s : St O} {ts : List TypeId} {x : AV} {K : St O → Prop} (h : aclear P s ts x K) {a : Act} {w : World} {ρ : Rho} {fp : Nat → List Nat} (ht : TmOk ρ s.tm a.tmps)
    (hs : Sat I ρ fp s.hp w) (hc : Since c.w0 c.F0 c.ρ0 ρ fp w) {x' : Value} (hx : Den ρ x x') :
    ∃ w' s', (∀ ty, (Builtin.clear_ ts.toArray ty #[x']).run P w = .ok (.tuple #[]) w') ∧ K s' ∧ s'.tm = s.tm ∧ s'.sz = s.sz ∧ TmOk ρ s'.tm a.tmps ∧ Sat I ρ fp s'.hp w' ∧ Since c.w0 c.F0 c.ρ0 ρ fp w' := by
  unfold aclear at h
  split at h
  · rename_i t
    split at h
    · rename_i e hty
      have hu := mkTU_slice hty
      split at h
      · cases hx
        exact ⟨w, s, fun ty => by simp [Builtin.clear_, run_underlying hu], h, rfl, rfl, ht, hs, hc⟩
      · rename_i n l cc
        split at h
        · rename_i e' sh xs room zv hn hzv
          obtain ⟨hcond, h⟩ := must_spec h
          simp only [Bool.and_eq_true, Nat.ble_eq] at hcond
          obtain ⟨c1, c2, c3, c4⟩ := hcond
          have c2 := blt_iff.1 c2
          cases hx with | sl _ _ _ hx hlc hcm =>
          rename_i b z0
          obtain ⟨zz, w', rz, hst, q1, q2⟩ := clear_cells (lo := 0) (l := l) hn c4 hzv c1 c2 (by omega) hs hc hx
          by_cases hl0 : l = 0
          · subst hl0
            refine ⟨w, _, fun ty => by simp [Builtin.clear_, run_underlying hu], h, rfl, rfl, ht, ?_, hc⟩
            rw [clearR_zero]; exact sat_same hs c4 hn
          · refine ⟨w', _, fun ty => ?_, h, rfl, rfl, ht, q1, q2⟩
            obtain ⟨l', rfl⟩ := Nat.exists_eq_succ_of_ne_zero hl0
            simp only [Nat.zero_mul, Nat.add_zero] at hst
            simp [Builtin.clear_, run_underlying hu, rz, hst]
        · exact h.elim
      · rename_i n z lo l cc k
        split at h
        · rename_i e' sh xs room zv hn hzv
          obtain ⟨hcond, h⟩ := must_spec h
          simp only [Bool.and_eq_true, Nat.ble_eq, Nat.beq_eq] at hcond
          obtain ⟨c1, c2, c3, c5, c4⟩ := hcond
          have c2 := blt_iff.1 c2
          cases hx with | sd _ _ _ _ _ hx hlc hcm hk =>
          rename_i b z0
          obtain ⟨zz, w', rz, hst, q1, q2⟩ := clear_cells (lo := lo) (l := l) hn c4 hzv c1 c2 c3 hs hc hx
          by_cases hl0 : l = 0
          · subst hl0
            refine ⟨w, _, fun ty => by simp [Builtin.clear_, run_underlying hu], h, rfl, rfl, ht, ?_, hc⟩
            rw [clearR_zero]; exact sat_same hs c4 hn
          · have hk : k = lo * sh.length := by rcases hk with hk | hk; omega; rw [hk, c5]
            refine ⟨w', _, fun ty => ?_, h, rfl, rfl, ht, q1, q2⟩
            obtain ⟨l', rfl⟩ := Nat.exists_eq_succ_of_ne_zero hl0
            subst hk
            simp [Builtin.clear_, run_underlying hu, rz, hst]
        · exact h.elim
      · exact h.elim
    · exact h.elim
  · exact h.elim

/-! ### What an interface holds -/
def atypeAssert (P : Program) (t : TypeId) (x : AV) (ok : Bool) (K : AV → Prop) : Prop := match mkTU P t with
  | some .iface => False
  | some _ => match x with
    | .iface u v => match Nat.beq u t with
      | true => match ok with | true => K (.tup [v, .bool true]) | false => K v
      | false => match ok, zeroT P t with | true, some z => K (.tup [z, .bool false]) | _, _ => False
    | .nili => match ok, zeroT P t with | true, some z => K (.tup [z, .bool false]) | _, _ => False
    | _ => False
  | none => False
theorem atypeAssert_ok {t : TypeId} {x : AV} {ok : Bool} {K : AV → Prop} (h : atypeAssert P t x ok K) :
    ∃ v, K v ∧ ∀ ρ x', Den ρ x x' → ∃ z, Den ρ v z ∧ ∀ xt w, (Instr.typeAssert x' xt t ok).run P w = .ok z w := by
  unfold atypeAssert at h
  split at h
  · exact h.elim
  · rename_i u hu hne
    obtain ⟨d, hd, hni⟩ := mkTU_not_iface hne (fun e => hu e)
    have hr : ∀ w, (underlying t).run P w = .ok d w := fun w => run_underlying hd w
    split at h
    · rename_i u v
      split at h
      · rename_i he
        have he := Nat.eq_of_beq_eq_true he
        subst he
        split at h
        · refine ⟨_, h, fun ρ x' hx => ?_⟩
          cases hx with | iface _ hx =>
          refine ⟨_, .tup (.cons hx (.cons (.bool true) .nil)), fun xt w => ?_⟩
          simp only [Instr.typeAssert, Sem.run_bind, hr, Result.andThen_ok]
          cases d <;> first | simp | exact absurd rfl (hni _)
        · refine ⟨_, h, fun ρ x' hx => ?_⟩
          cases hx with | iface _ hx =>
          refine ⟨_, hx, fun xt w => ?_⟩
          simp only [Instr.typeAssert, Sem.run_bind, hr, Result.andThen_ok]
          cases d <;> first | simp | exact absurd rfl (hni _)
      · rename_i he
        have hne' : ¬ u = t := Nat.ne_of_beq_eq_false he
        split at h
        · rename_i z hz
          obtain ⟨zz, rz, dz⟩ := zeroT_spec hz
          refine ⟨_, h, fun ρ x' hx => ?_⟩
          cases hx with | iface _ hx =>
          refine ⟨_, .tup (.cons (dz ρ) (.cons (.bool false) .nil)), fun xt w => ?_⟩
          simp only [Instr.typeAssert, Sem.run_bind, hr, Result.andThen_ok]
          cases d <;> first | simp [hne', rz] | exact absurd rfl (hni _)
        · exact h.elim
    · split at h
      · rename_i z hz
        obtain ⟨zz, rz, dz⟩ := zeroT_spec hz
        refine ⟨_, h, fun ρ x' hx => ?_⟩
        cases hx
        refine ⟨_, .tup (.cons (dz ρ) (.cons (.bool false) .nil)), fun xt w => ?_⟩
        simp only [Instr.typeAssert, Sem.run_bind, hr, Result.andThen_ok]
        cases d <;> first | simp [rz] | exact absurd rfl (hni _)
      · exact h.elim
    · exact h.elim
  · exact h.elim

/-! ### Methods behind an interface -/
def findM (P : Program) (t : TypeId) (name : String) : Option (FuncId × Bool) := match P.info? t with
  | some i => match i.methods.find? (·.name == name) with
    | some m => match m.path.isEmpty with | true => m.func | false => none
    | none => none
  | none => none
def amethod (P : Program) (hp : Tr (AO O)) (t : TypeId) (v : AV) (name : String) (K : FuncId → AV → Prop) : Prop := match findM P t name with
  | some (f, pr) => match mkTU P t, pr with
    | some (.ptr e), true => K f v
    | some (.ptr e), false => aload P hp e v fun r => K f r
    | some .iface, _ => False
    | some _, false => K f v
    | _, _ => False
  | none => False
theorem findM_spec {t : TypeId} {name : String} {f : FuncId} {pr : Bool} (h : findM P t name = some (f, pr)) : ∃ i m, P.info? t = some i ∧ i.methods.find? (·.name == name) = some m ∧ m.path = #[] ∧ m.func = some (f, pr) := by
  unfold findM at h
  split at h
  · rename_i i hi
    split at h
    · rename_i m hm
      split at h
      · rename_i he
        exact ⟨i, m, hi, hm, by simpa [Array.isEmpty_iff] using he, h⟩
      · cases h
    · cases h
  · cases h
theorem run_wrapNil (xt : TypeId) (ad : Addr) (name : String) (w : World) : (Builtin.ssaWrapNilChk_ #[xt] xt #[.pointer (some ad), strVal "", strVal name]).run P w = .ok (.pointer (some ad)) w := rfl
theorem amethod_ok {hp : Tr (AO O)} {t : TypeId} {v : AV} {name : String} {K : FuncId → AV → Prop} (h : amethod P hp t v name K) :
    ∃ f r, K f r ∧ ∀ ρ fp w x', Sat I ρ fp hp w → Den ρ v x' → ∃ z, Den ρ r z ∧ ∀ n, (method (n + 1) t x' name).run P w = .ok (f, z) w := by
  unfold amethod at h
  split at h
  · rename_i f pr hf
    obtain ⟨i, m, hi, hm, hp0, hfn⟩ := findM_spec hf
    have hti : ∀ w, (typeInfo t).run P w = .ok i w := fun w => by simp [typeInfo, run_program, hi]
    split at h
    · rename_i e ht
      refine ⟨f, v, h, fun ρ fp w x' hs hx => ⟨x', hx, fun n => ?_⟩⟩
      have hu := run_underlying (mkTU_ptr ht)
      simp [method, hti, hm, hp0, follow, hfn, receiverAt, hu, Place.get]
    · rename_i e ht
      obtain ⟨r, hk, hl⟩ := aload_ok (I := I) h
      refine ⟨f, r, hk, fun ρ fp w x' hs hx => ?_⟩
      obtain ⟨z, dz, rz⟩ := hl ρ fp w x' hs hx
      refine ⟨z, dz, fun n => ?_⟩
      have hu := run_underlying (mkTU_ptr ht)
      have hpx : ∃ ad, x' = .pointer (some ad) := by
        cases x' with
        | pointer p => cases p with
          | some ad => exact ⟨ad, rfl⟩
          | none => simp [Instr.loadAt, Instr.sureAddr, stuck, Sem.run] at rz
        | _ => simp [Instr.loadAt, Instr.sureAddr, stuck, Sem.run] at rz
      obtain ⟨ad, rfl⟩ := hpx
      simp only [Instr.loadAt, Instr.sureAddr, Sem.run_bind, Sem.run_pure, Result.andThen_ok] at rz
      simp [method, hti, hm, hp0, follow, hfn, receiverAt, hu, Place.get, run_wrapNil, asAddr, rz]
    · exact h.elim
    · rename_i u hnp hni ht
      obtain ⟨d, hd, hne⟩ := mkTU_not_iface ht (fun e => hni e)
      refine ⟨f, v, h, fun ρ fp w x' hs hx => ⟨x', hx, fun n => ?_⟩⟩
      have hu := run_underlying hd
      have hnotptr : ∀ e, d ≠ .pointer e := fun e he => by
        subst he
        simp [mkTU, hd] at ht
        exact hnp e ht.symm
      simp only [method, Sem.run_bind, hti, Result.andThen_ok, hm, hp0, follow, Array.toList_empty, Sem.run_pure, hfn, receiverAt, hu]
      cases d <;> first | rfl | exact absurd rfl (hnotptr _)
    · exact h.elim
  · exact h.elim
/-! ### Bytes told as a string -/
def bytesL : Nat → List AV → Option (List Int)
  | 0, _ => some []
  | l + 1, .int .u8 v :: r => match bytesL l r with
    | some ns => some (v :: ns)
    | none => none
  | _, _ => none
def bytesS (ns : List Int) : ByteArray := ns.foldl (fun r n => r.push (UInt8.ofNat n.toNat)) ByteArray.empty
theorem bytesL_spec : ∀ {l : Nat} {cs : List AV} {ns : List Int}, bytesL l cs = some ns → ns.length = l ∧ ∀ (j : Nat) (v : Int), ns[j]? = some v → cs[j]? = some (.int .u8 v)
  | 0, cs, ns, h => by simp [bytesL] at h; subst h; exact ⟨rfl, fun j v hj => by simp at hj⟩
  | l + 1, cs, ns, h => by
    unfold bytesL at h
    split at h
    · rename_i h0; cases h0
    · rename_i l' v r h0
      cases h0
      split at h
      · rename_i ns' hr
        cases h
        obtain ⟨h1, h2⟩ := bytesL_spec hr
        refine ⟨by simp [h1], fun j u hj => ?_⟩
        cases j with
        | zero => simp at hj; subst hj; rfl
        | succ j => simpa using h2 j u (by simpa using hj)
      · cases h
    · cases h
theorem bytesS_size (ns : List Int) : (bytesS ns).size = ns.length := by
  have : ∀ (ns : List Int) (s : ByteArray), (ns.foldl (fun r n => r.push (UInt8.ofNat n.toNat)) s).size = s.size + ns.length := by
    intro ns
    induction ns with
    | nil => intro s; rfl
    | cons n ns ih => intro s; rw [List.foldl_cons, ih, ByteArray.size_push, List.length_cons]; omega
  unfold bytesS
  rw [this]; simp
def aconvS (P : Program) (hp : Tr (AO O)) (t t' : TypeId) (x : AV) (K : AV → Prop) : Prop := match x with
  | .sl n o l c => match hp.get n, mkTU P t, mkTU P t' with
    | some (.cells _ cs _), some (.slice e), some .str => match mkTU P e, bytesL l (cs.drop o) with
      | some (.int .u8), some ns => K (.str (bytesS ns))
      | _, _ => False
    | _, _, _ => False
  | _ => False
theorem aconvS_ok {hp : Tr (AO O)} {t t' : TypeId} {x : AV} {K : AV → Prop} (h : aconvS P hp t t' x K) :
    ∃ v, K v ∧ ∀ ρ fp w x', Sat I ρ fp hp w → Den ρ x x' → ∃ z, Den ρ v z ∧ (convert t t' x').run P w = .ok z w := by
  unfold aconvS at h
  split at h
  · rename_i n o l c
    split at h
    · rename_i t0 cs room e hn ht ht'
      split at h
      · rename_i ns he hns
        obtain ⟨h1, h2⟩ := bytesL_spec hns
        refine ⟨_, h, fun ρ fp w x' hs hx => ?_⟩
        obtain ⟨b, z, arr, k1, k2, k3, k4, k5, k6⟩ := hs.ok n _ hn
        cases hx with | sl _ _ _ hb hlc hc =>
        rw [k1] at hb; cases hb
        refine ⟨_, .str _ (by rw [bytesS_size, h1]; omega), ?_⟩
        rw [run_convert_bytes_string w t t' e _ l c (mkTU_slice ht) (mkTU_int he) (mkTU_str ht')]
        refine run_bytesToString w _ l c ns ?_
        have hload := run_loadCells_list (P := P) w ⟨b, z + o, none⟩ (ns.map (Value.int .u8)) (fun j v hv => by
          rw [List.getElem?_map] at hv
          cases hj : ns[j]? with
          | none => rw [hj] at hv; cases hv
          | some u =>
            rw [hj] at hv; cases hv
            have := h2 j u hj
            rw [List.getElem?_drop] at this
            obtain ⟨y, hy, dy⟩ := k6 (o + j) _ this
            cases dy
            rw [addr_add]
            show w.cell? ⟨b, z + o + j, none⟩ = _
            simp only [World.cell?, k3, Nat.add_assoc]
            exact hy)
        rw [List.length_map, h1] at hload
        exact hload
      · exact h.elim
    · exact h.elim
  · exact h.elim
end Go.Tb
