/- The abstract machine's pure operations are the machine's own: builtins, aggregates, and all together. -/
import Derived.Test.YtojppaicjioohaaM4
set_option linter.all false
namespace Go.Tb
open Go
variable {O : Type} {P : Program}

theorem amin_run {k : IntKind} : ∀ {vs : List AV} {a m : Int}, aminF k a vs = some m → inK k a = true → ∀ {ρ : Rho} {l : List Value}, Dens ρ vs l → inK k m = true ∧ ∀ w, (l.foldlM Builtin.min2 (.int k a)).run P w = .ok (.int k m) w
  | [], a, m, h, ha, ρ, l, hl => by cases hl; simp [aminF] at h; subst h; exact ⟨ha, fun w => by simp⟩
  | v :: vs, a, m, h, ha, ρ, l, hl => by
    cases hl with | cons hv hl =>
    cases v <;> simp only [aminF] at h <;> try (cases h; done)
    split at h
    · rename_i hk
      have hk := of_decide_eq_true hk
      subst hk
      cases hv with | int _ _ hb =>
      obtain ⟨h1, h2⟩ := amin_run h (by split; exact hb; exact ha) hl
      refine ⟨h1, fun w => ?_⟩
      simp only [List.foldlM_cons, Builtin.min2, Sem.run_bind, Sem.run_pure, Result.andThen_ok]
      exact h2 w
    · cases h
theorem amax_run {k : IntKind} : ∀ {vs : List AV} {a m : Int}, amaxF k a vs = some m → inK k a = true → ∀ {ρ : Rho} {l : List Value}, Dens ρ vs l → inK k m = true ∧ ∀ w, (l.foldlM Builtin.max2 (.int k a)).run P w = .ok (.int k m) w
  | [], a, m, h, ha, ρ, l, hl => by cases hl; simp [amaxF] at h; subst h; exact ⟨ha, fun w => by simp⟩
  | v :: vs, a, m, h, ha, ρ, l, hl => by
    cases hl with | cons hv hl =>
    cases v <;> simp only [amaxF] at h <;> try (cases h; done)
    split at h
    · rename_i hk
      have hk := of_decide_eq_true hk
      subst hk
      cases hv with | int _ _ hb =>
      obtain ⟨h1, h2⟩ := amax_run h (by split; exact hb; exact ha) hl
      refine ⟨h1, fun w => ?_⟩
      simp only [List.foldlM_cons, Builtin.max2, Sem.run_bind, Sem.run_pure, Result.andThen_ok]
      exact h2 w
    · cases h

theorem abuiltin_ok {b : Builtin} {ts : List TypeId} {vs : List AV} {K : AV → Prop} (h : abuiltin P b ts vs K) :
    ∃ v, K v ∧ ∀ ρ l, Dens ρ vs l → ∃ z, Den ρ v z ∧ ∀ ty cs w, (builtin b ts.toArray ty cs l.toArray).run P w = .ok (.value z) w := by
  unfold abuiltin at h
  split at h
  · rename_i t x
    split at h
    · rename_i ht
      refine ⟨_, h, fun ρ l hl => ?_⟩
      cases hl with | cons hx hl =>
      cases hl; cases hx with | sl _ _ _ _ hlc hcm =>
      exact ⟨_, .int _ _ (by rw [inK_iff]; simp only [loK, hiK]; omega), fun ty cs w => by simp [builtin, Builtin.len_, run_underlying (mkTU_slice ht), goInt]⟩
    · rename_i ht
      refine ⟨_, h, fun ρ l hl => ?_⟩
      cases hl with | cons hx hl =>
      cases hl; cases hx
      exact ⟨_, .int _ _ rfl, fun ty cs w => by simp [builtin, Builtin.len_, run_underlying (mkTU_slice ht), goInt]⟩
    · rename_i ht
      refine ⟨_, h, fun ρ l hl => ?_⟩
      cases hl with | cons hx hl =>
      cases hl; cases hx with | sd _ _ _ _ _ _ hlc hcm _ =>
      exact ⟨_, .int _ _ (by rw [inK_iff]; simp only [loK, hiK]; omega), fun ty cs w => by simp [builtin, Builtin.len_, run_underlying (mkTU_slice ht), goInt]⟩
    · rename_i ht
      refine ⟨_, h, fun ρ l hl => ?_⟩
      cases hl with | cons hx hl =>
      cases hl; cases hx with
      | slq0 => exact ⟨_, .int _ _ rfl, fun ty cs w => by simp [builtin, Builtin.len_, run_underlying (mkTU_slice ht), goInt]⟩
      | slq1 _ _ _ hlc hcm =>
      exact ⟨_, .int _ _ (by rw [inK_iff]; simp only [loK, hiK]; omega), fun ty cs w => by simp [builtin, Builtin.len_, run_underlying (mkTU_slice ht), goInt]⟩
    · rename_i ht
      refine ⟨_, h, fun ρ l hl => ?_⟩
      cases hl with | cons hx hl =>
      cases hl; cases hx with
      | pv0 => exact ⟨_, .int _ _ rfl, fun ty cs w => by simp [builtin, Builtin.len_, run_underlying (mkTU_slice ht), goInt]⟩
      | pv1 _ _ _ _ hlc hcm =>
      exact ⟨_, .int _ _ (by rw [inK_iff]; simp only [loK, hiK]; omega), fun ty cs w => by simp [builtin, Builtin.len_, run_underlying (mkTU_slice ht), goInt]⟩
    · rename_i ht
      refine ⟨_, h, fun ρ l hl => ?_⟩
      cases hl with | cons hx hl =>
      cases hl; cases hx with | str _ hx =>
      exact ⟨_, .int _ _ (by rw [inK_iff]; simp only [loK, hiK]; omega), fun ty cs w => by simp [builtin, Builtin.len_, run_underlying (mkTU_str ht), goInt]⟩
    · rename_i ht
      obtain ⟨hmx, h⟩ := must_spec h
      have hmx := Nat.le_of_ble_eq_true hmx
      refine ⟨_, h, fun ρ l hl => ?_⟩
      cases hl with | cons hx hl =>
      cases hl
      exact ⟨_, .int _ _ (by rw [inK_iff]; simp only [loK, hiK]; omega), fun ty cs w => by simp [builtin, Builtin.len_, run_underlying (mkTU_arr ht), goInt]⟩
    · exact h.elim
  · rename_i t x
    split at h
    · rename_i ht
      refine ⟨_, h, fun ρ l hl => ?_⟩
      cases hl with | cons hx hl =>
      cases hl; cases hx with | sl _ _ _ _ hlc hcm =>
      exact ⟨_, .int _ _ (by rw [inK_iff]; simp only [loK, hiK]; omega), fun ty cs w => by simp [builtin, Builtin.cap_, run_underlying (mkTU_slice ht), goInt]⟩
    · rename_i ht
      refine ⟨_, h, fun ρ l hl => ?_⟩
      cases hl with | cons hx hl =>
      cases hl; cases hx with | sd _ _ _ _ _ _ hlc hcm _ =>
      exact ⟨_, .int _ _ (by rw [inK_iff]; simp only [loK, hiK]; omega), fun ty cs w => by simp [builtin, Builtin.cap_, run_underlying (mkTU_slice ht), goInt]⟩
    · rename_i ht
      refine ⟨_, h, fun ρ l hl => ?_⟩
      cases hl with | cons hx hl =>
      cases hl; cases hx with
      | slq0 => exact ⟨_, .int _ _ rfl, fun ty cs w => by simp [builtin, Builtin.cap_, run_underlying (mkTU_slice ht), goInt]⟩
      | slq1 _ _ _ hlc hcm =>
      exact ⟨_, .int _ _ (by rw [inK_iff]; simp only [loK, hiK]; omega), fun ty cs w => by simp [builtin, Builtin.cap_, run_underlying (mkTU_slice ht), goInt]⟩
    · rename_i ht
      refine ⟨_, h, fun ρ l hl => ?_⟩
      cases hl with | cons hx hl =>
      cases hl; cases hx
      exact ⟨_, .int _ _ rfl, fun ty cs w => by simp [builtin, Builtin.cap_, run_underlying (mkTU_slice ht), goInt]⟩
    · exact h.elim
  · split at h
    · rename_i hm
      refine ⟨_, h, fun ρ l hl => ?_⟩
      cases hl with | cons hx hl =>
      cases hx with | int _ _ ha =>
      obtain ⟨h1, h2⟩ := amin_run (P := P) hm ha hl
      exact ⟨_, .int _ _ h1, fun ty cs w => by simp [builtin, Builtin.min_, h2]⟩
    · exact h.elim
  · split at h
    · rename_i hm
      refine ⟨_, h, fun ρ l hl => ?_⟩
      cases hl with | cons hx hl =>
      cases hx with | int _ _ ha =>
      obtain ⟨h1, h2⟩ := amax_run (P := P) hm ha hl
      exact ⟨_, .int _ _ h1, fun ty cs w => by simp [builtin, Builtin.max_, h2]⟩
    · exact h.elim
  · exact h.elim

/-! ### Aggregates -/
def setAtV (z : List Value) (off : Nat) : List Value → List Value
  | [] => z
  | x :: r => setAtV (z.set off x) (off + 1) r
theorem setAt_den {ρ : Rho} : ∀ {vs : List AV} {xs : List Value} {z : List AV} {z' : List Value} {off : Nat}, Dens ρ vs xs → Dens ρ z z' → Dens ρ (setAt z off vs) (setAtV z' off xs)
  | [], _, _, _, _, h, hz => by cases h; exact hz
  | _ :: _, _, _, _, _, h, hz => by
    cases h with | cons hv h =>
    simp only [setAt, setAtV]
    exact setAt_den h (hz.set _ hv)
theorem setAt_length : ∀ (vs : List AV) (z : List AV) (off : Nat), (setAt z off vs).length = z.length
  | [], _, _ => rfl
  | v :: vs, z, off => by simp [setAt, setAt_length vs]
theorem setAtV_length : ∀ (vs : List Value) (z : List Value) (off : Nat), (setAtV z off vs).length = z.length
  | [], _, _ => rfl
  | v :: vs, z, off => by simp [setAtV, setAtV_length vs]
theorem foldl_setAt (off : Nat) : ∀ (vs : List Value) (k : Nat) (z : Array Value), (vs.zipIdx k).foldl (fun cs (p : Value × Nat) => cs.setIfInBounds (off + p.2) p.1) z = (setAtV z.toList (off + k) vs).toArray
  | [], k, z => by simp [setAtV]
  | v :: vs, k, z => by
    simp only [List.zipIdx_cons, List.foldl_cons, setAtV]
    rw [foldl_setAt off vs (k + 1)]
    simp [Nat.add_assoc]
theorem acells_den {ρ : Rho} {v : AV} {x : Value} (h : Den ρ v x) : Dens ρ (acells v) x.cells.toList := by
  cases h
  case agg h => simpa [acells, Value.cells] using h
  all_goals (simp only [acells, Value.cells]; exact .cons (by constructor <;> assumption) .nil)
theorem afill_run {ρ : Rho} {pl : Nat → Option (Nat × Nat)} : ∀ {ps : List (Nat × AV)} {ps' : List (Nat × Value)} {z r : List AV} {z' : List Value}, afill pl z ps = some r →
    ps.map (·.1) = ps'.map (·.1) → Dens ρ (ps.map (·.2)) (ps'.map (·.2)) → Dens ρ z z' → ∃ r', Dens ρ r r' ∧ Instr.fill pl z'.toArray ps' = some r'.toArray
  | [], ps', z, r, z', h, h1, h2, hz => by
    simp at h1; subst h1
    simp [afill] at h; subst h
    exact ⟨z', hz, rfl⟩
  | (i, v) :: ps, [], z, r, z', h, h1, h2, hz => by simp at h1
  | (i, v) :: ps, (j, x) :: ps', z, r, z', h, h1, h2, hz => by
    simp at h1
    obtain ⟨rfl, h1⟩ := h1
    cases h2 with | cons hv h2 =>
    simp only [afill] at h
    split at h
    · rename_i off size hp
      split at h
      · rename_i hc
        simp at hc
        obtain ⟨c1, c2⟩ := hc
        have hcell := acells_den hv
        have l1 := hcell.length
        have l2 := hz.length
        obtain ⟨r', hr, hf⟩ := afill_run h h1 h2 (setAt_den hcell hz (off := off))
        refine ⟨r', hr, ?_⟩
        simp only [Instr.fill, hp]
        have hs : x.cells.size = size := by rw [← Array.length_toList, ← l1, c1]
        have hcond : ¬ (x.cells.size ≠ size || decide (off + x.cells.size > z'.toArray.size)) = true := by
          simp [hs]; omega
        rw [if_neg hcond]
        rw [← hf]
        congr 1
        have := foldl_setAt off x.cells.toList 0 z'.toArray
        simp only [Nat.add_zero] at this
        rw [← this, ← Array.foldl_toList]
        simp
      · cases h
    · cases h
theorem evps_spec {ρ : Rho} {tm : Tr AV} {a : Act} (h : TmOk ρ tm a.tmps) : ∀ {l : List (Nat × Operand)} {r : List (Nat × AV)}, evps tm l = some r →
    r.map (·.1) = (l.map fun p => (p.1, a.eval p.2)).map (·.1) ∧ Dens ρ (r.map (·.2)) ((l.map fun p => (p.1, a.eval p.2)).map (·.2))
  | [], r, hr => by simp [evps] at hr; subst hr; exact ⟨rfl, .nil⟩
  | (i, x) :: l, r, hr => by
    simp only [evps] at hr
    split at hr
    · rename_i v r' hv hr'
      cases hr
      obtain ⟨h1, h2⟩ := evps_spec h hr'
      exact ⟨by simpa using h1, .cons (ev_spec h hv) h2⟩
    · cases hr
theorem run_places : ∀ {gs : List Field} {fs : List FI}, mkFIs P gs = some fs → ∀ w, (gs.mapM (fun f => do pure (f.offset, ← sizeOf f.type)) : Sem (List (Nat × Nat))).run P w = .ok (fs.map fun f => (f.off, f.size)) w
  | [], fs, h, w => by simp [mkFIs] at h; subst h; rfl
  | g :: gs, fs, h, w => by
    simp only [mkFIs] at h
    split at h
    · rename_i f r h1 h2
      cases h
      obtain ⟨i, d, hi, hd, hs, hn, k1, k2, k3, k4⟩ := mkFI_spec h1
      have hz : szT P g.type = some f.size := by simp [szT, hi, k2]
      simp only [List.mapM_cons, Sem.run_bind, run_sizeOf hz, Result.andThen_ok, Sem.run_pure, run_places h2 w, List.map_cons, k1]
    · cases h
theorem abuild_ok {t : TypeId} {ps : List (Nat × AV)} {K : AV → Prop} (h : abuild P t ps K) :
    ∃ v, K v ∧ ∀ ρ (ps' : List (Nat × Value)), ps.map (·.1) = ps'.map (·.1) → Dens ρ (ps.map (·.2)) (ps'.map (·.2)) → ∃ z, Den ρ v z ∧ ∀ w, (Instr.build t ps'.toArray).run P w = .ok z w := by
  unfold abuild at h
  split at h
  · rename_i fs z ht hz
    split at h
    · rename_i l hl
      refine ⟨_, h, fun ρ ps' h1 h2 => ?_⟩
      obtain ⟨z', rz, dz⟩ := zeroT_spec hz
      obtain ⟨gs, hgs, hfs⟩ := mkTU_struct ht
      obtain ⟨r', hr, hf⟩ := afill_run hl h1 h2 (acells_den (dz ρ))
      refine ⟨_, .agg hr, fun w => ?_⟩
      have hp := run_places hfs w
      have hpl : (fun (i : Nat) => ((fs.map fun f => (f.off, f.size)).toArray)[i]?) = placeOf fs := by
        funext i
        simp only [placeOf, List.getElem?_toArray, List.getElem?_map]
        cases fs[i]? <;> rfl
      simp only [Instr.build, Sem.run_bind, rz, Result.andThen_ok, run_underlying hgs, Array.mapM_eq_mapM_toList, Sem.run_map, hp]
      rw [hpl]
      have : z'.cells = z'.cells.toList.toArray := by simp
      rw [this, hf]
      rfl
    · exact h.elim
  · rename_i e z ht hz
    split at h
    · rename_i s hs
      split at h
      · rename_i l hl
        refine ⟨_, h, fun ρ ps' h1 h2 => ?_⟩
        obtain ⟨z', rz, dz⟩ := zeroT_spec hz
        obtain ⟨r', hr, hf⟩ := afill_run hl h1 h2 (acells_den (dz ρ))
        refine ⟨_, .agg hr, fun w => ?_⟩
        simp only [Instr.build, Sem.run_bind, rz, Result.andThen_ok, run_underlying (mkTU_arr ht), run_sizeOf hs]
        have : z'.cells = z'.cells.toList.toArray := by simp
        rw [this, hf]
        rfl
      · exact h.elim
    · exact h.elim
  · exact h.elim

/-! ### All together -/
theorem apure_ok {o : Oper} {tm : Tr AV} {K : AV → Prop} (h : apure P o.op tm K) :
    ∃ v, K v ∧ ∀ ρ (a : Act), TmOk ρ tm a.tmps → ∃ x, Den ρ v x ∧ ∀ w, (execOp a.eval o).run P w = .ok (.value x) w := by
  obtain ⟨dst, op, type, pos, after, guard⟩ := o
  simp only at h
  unfold apure at h
  split at h
  · obtain ⟨v, hv, hk⟩ := withV_spec h
    exact ⟨v, hk, fun ρ a ht => ⟨_, ev_spec ht hv, fun w => by simp [execOp]⟩⟩
  · obtain ⟨v, hv, hk⟩ := withV_spec h
    exact ⟨v, hk, fun ρ a ht => ⟨_, ev_spec ht hv, fun w => by simp [execOp]⟩⟩
  · rename_i c x y
    obtain ⟨v, hv, hk⟩ := withV_spec h
    split at hk
    · rename_i b
      have hb := bsplit_spec hk
      cases b
      · obtain ⟨u, hu, hk⟩ := withV_spec hb
        refine ⟨u, hk, fun ρ a ht => ⟨_, ev_spec ht hu, fun w => ?_⟩⟩
        have := ev_spec ht hv
        generalize hc : a.eval c = c' at this
        cases this
        simp [execOp, hc, asBool]
      · obtain ⟨u, hu, hk⟩ := withV_spec hb
        refine ⟨u, hk, fun ρ a ht => ⟨_, ev_spec ht hu, fun w => ?_⟩⟩
        have := ev_spec ht hv
        generalize hc : a.eval c = c' at this
        cases this
        simp [execOp, hc, asBool]
    · exact hk.elim
  · rename_i bop t x y yt
    obtain ⟨u, hu, h⟩ := withV_spec h
    obtain ⟨v, hv, h⟩ := withV_spec h
    obtain ⟨r, hr, hk⟩ := abin_ok h
    refine ⟨r, hr, fun ρ a ht => ?_⟩
    obtain ⟨z, dz, rz⟩ := hk ρ _ _ (ev_spec ht hu) (ev_spec ht hv)
    refine ⟨z, dz, fun w => ?_⟩
    have := rz x y w
    simp only [execOp, Sem.run_bind, Sem.run_pure] at this ⊢
    rw [this]
    rfl
  · obtain ⟨u, hu, h⟩ := withV_spec h
    obtain ⟨r, hr, hk⟩ := aun_ok (P := P) h
    refine ⟨r, hr, fun ρ a ht => ?_⟩
    obtain ⟨z, dz, rz⟩ := hk ρ _ (ev_spec ht hu)
    exact ⟨z, dz, fun w => by simp [execOp, rz]⟩
  · obtain ⟨u, hu, h⟩ := withV_spec h
    obtain ⟨r, hr, hk⟩ := aconv_ok h
    refine ⟨r, hr, fun ρ a ht => ?_⟩
    obtain ⟨z, dz, rz⟩ := hk ρ _ (ev_spec ht hu)
    exact ⟨z, dz, fun w => by simp [execOp, rz]⟩
  · obtain ⟨u, hu, h⟩ := withV_spec h
    split at h
    · exact h.elim
    · rename_i u' hu' hne
      obtain ⟨d, hd, hni⟩ := mkTU_not_iface hne (fun e => hu' e)
      refine ⟨_, h, fun ρ a ht => ⟨_, .iface _ (ev_spec ht hu), fun w => ?_⟩⟩
      simp only [execOp, Instr.makeInterface, Sem.run_bind, run_underlying hd, Result.andThen_ok]
      cases d <;> first | rfl | exact absurd rfl (hni _)
    · exact h.elim
  · split at h
    · rename_i a' b' ha hb
      refine ⟨_, h, fun ρ a ht => ⟨_, .fn _ (evs_spec ht ha) (evs_spec ht hb), fun w => ?_⟩⟩
      simp only [execOp, Instr.makeFunc, Sem.run_bind, Sem.run_pure, Result.andThen_ok]
      congr 3 <;> (apply Array.ext'; simp)
    · exact h.elim
  · rename_i x i
    obtain ⟨u, hu, h⟩ := withV_spec h
    split at h
    · rename_i l
      obtain ⟨v, hv, hk⟩ := lget_spec h
      refine ⟨v, hk, fun ρ a ht => ?_⟩
      have := ev_spec ht hu
      generalize hc : a.eval x = c' at this
      cases this with | tup hl =>
      obtain ⟨y, hy, dy⟩ := hl.get hv
      exact ⟨y, dy, fun w => by simp [execOp, hc, Instr.extract, hy]⟩
    · exact h.elim
  · obtain ⟨u, hu, h⟩ := withV_spec h
    obtain ⟨r, hr, hk⟩ := afield_ok h
    refine ⟨r, hr, fun ρ a ht => ?_⟩
    obtain ⟨z, dz, rz⟩ := hk ρ _ (ev_spec ht hu)
    exact ⟨z, dz, fun w => by simp [execOp, rz]⟩
  · obtain ⟨u, hu, h⟩ := withV_spec h
    obtain ⟨v, hv, h⟩ := withV_spec h
    obtain ⟨r, hr, hk⟩ := aindex_ok h
    refine ⟨r, hr, fun ρ a ht => ?_⟩
    obtain ⟨z, dz, rz⟩ := hk ρ _ _ (ev_spec ht hu) (ev_spec ht hv)
    exact ⟨z, dz, fun w => by simp [execOp, rz]⟩
  · obtain ⟨u, hu, h⟩ := withV_spec h
    obtain ⟨r, hr, hk⟩ := afieldAddr_ok h
    refine ⟨r, hr, fun ρ a ht => ?_⟩
    obtain ⟨z, dz, rz⟩ := hk ρ _ (ev_spec ht hu)
    exact ⟨z, dz, fun w => by simp [execOp, rz]⟩
  · obtain ⟨u, hu, h⟩ := withV_spec h
    obtain ⟨v, hv, h⟩ := withV_spec h
    obtain ⟨r, hr, hk⟩ := aindexAddr_ok h
    refine ⟨r, hr, fun ρ a ht => ?_⟩
    obtain ⟨z, dz, rz⟩ := hk ρ _ _ (ev_spec ht hu) (ev_spec ht hv)
    exact ⟨z, dz, fun w => by simp [execOp, rz]⟩
  · obtain ⟨u, hu, h⟩ := withV_spec h
    split at h
    · rename_i lo hi hlo hhi
      obtain ⟨r, hr, hk⟩ := aslice_ok h
      refine ⟨r, hr, fun ρ a ht => ?_⟩
      obtain ⟨z, dz, rz⟩ := hk ρ _ _ _ (ev_spec ht hu) (evO_den ht hlo) (evO_den ht hhi)
      exact ⟨z, dz, fun w => by simp [execOp, rz]⟩
    · exact h.elim
  · rename_i x
    obtain ⟨u, hu, h⟩ := withV_spec h
    split at h
    · refine ⟨_, h, fun ρ a ht => ?_⟩
      have := ev_spec ht hu
      generalize hc : a.eval x = c' at this
      cases this with | ptr _ hx =>
      exact ⟨_, .ptr _ hx, fun w => by simp [execOp, hc]⟩
    · refine ⟨_, h, fun ρ a ht => ?_⟩
      have := ev_spec ht hu
      generalize hc : a.eval x = c' at this
      cases this with | ep _ _ _ _ hx =>
      exact ⟨_, .ep _ _ _ _ hx, fun w => by simp [execOp, hc]⟩
    · exact h.elim
  · rename_i t ps
    split at h
    · rename_i l hl
      obtain ⟨r, hr, hk⟩ := abuild_ok h
      refine ⟨r, hr, fun ρ a ht => ?_⟩
      obtain ⟨h1, h2⟩ := evps_spec ht hl
      obtain ⟨z, dz, rz⟩ := hk ρ _ h1 h2
      refine ⟨z, dz, fun w => ?_⟩
      have : (ps.map fun p => (p.1, a.eval p.2)) = (ps.toList.map fun p => (p.1, a.eval p.2)).toArray := by apply Array.ext'; simp
      simp [execOp, this, rz]
    · exact h.elim
  · rename_i c
    split at h
    · rename_i b hc
      split at h
      · rename_i l hl
        obtain ⟨r, hr, hk⟩ := abuiltin_ok h
        refine ⟨r, hr, fun ρ a ht => ?_⟩
        obtain ⟨z, dz, rz⟩ := hk ρ _ (evs_spec ht hl)
        refine ⟨z, dz, fun w => ?_⟩
        have e : (c.args.toList.map a.eval).toArray = c.args.map a.eval := by apply Array.ext'; simp
        have h2 := fun cs => rz type cs w
        simp only [e, Array.toArray_toList] at h2
        simp only [execOp, resolve, hc, Sem.run_bind, Sem.run_pure, Result.andThen_ok, invoke]
        exact h2 _
      · exact h.elim
    · exact h.elim
  · exact h.elim
end Go.Tb
