/- Slices of texts that lie in a map: held by an object of their own, taken out of it where they are lengthened, laid back where they are put. -/
import Derived.Test.YtojppaicjioohaaM66
set_option linter.all false
namespace Go.Tb
open Go
variable {O : Type} {P : Program} {I : Interp O}

theorem Sat.swap {ρ : Rho} {fp : Nat → List Nat} {h : Tr (AO O)} {w : World} (s : Sat I ρ fp h w) {g : Nat} (hb : Nat.blt g 16777215 = true) {o : AO O} (hd : h.get g ≠ none) {bs : List Nat}
    (h1 : ∀ x, x ∈ bs → ∀ m, m ≠ g → x ∉ fp m) (h2 : ∀ x, x ∈ bs → ∀ ob, I.fz x ≠ some ob) (ho : okO I ρ g bs w o) : Sat I ρ (fun m => if m = g then bs else fp m) (h.set g (some o)) w := by
  refine ⟨fun m o' hm => ?_, fun m hm => ?_, fun m m' b hx hx' => ?_, fun b ob hf => ⟨(s.fz b ob hf).1, fun m hm => ?_⟩⟩
  · by_cases e : m = g
    · subst e; rw [Tr.get_set_eq hb] at hm; cases hm; simpa using ho
    · rw [Tr.get_set_ne (Ne.symm e)] at hm; simp only [if_neg e]; exact s.ok m o' hm
  · by_cases e : m = g
    · subst e; rw [Tr.get_set_eq hb] at hm; cases hm
    · rw [Tr.get_set_ne (Ne.symm e)] at hm; simp only [if_neg e]; exact s.dom m hm
  · by_cases e : m = g
    · by_cases e' : m' = g
      · rw [e, e']
      · simp only [if_pos e, if_neg e'] at hx hx'; exact absurd hx' (h1 b hx m' e')
    · by_cases e' : m' = g
      · simp only [if_neg e, if_pos e'] at hx hx'; exact absurd hx (h1 b hx' m e)
      · simp only [if_neg e, if_neg e'] at hx hx'; exact s.dis _ _ _ hx hx'
  · by_cases e : m = g
    · simp only [if_pos e] at hm; exact h2 b hm ob hf
    · simp only [if_neg e] at hm; exact (s.fz b ob hf).2 m hm
theorem Since.swap {c : Ctx} {ρ : Rho} {fp : Nat → List Nat} {w : World} (h : Since c.w0 c.F0 c.ρ0 ρ fp w) (g : Nat) {bs : List Nat} (hb : ∀ x, x ∈ bs → ∃ m, x ∈ fp m) : Since c.w0 c.F0 c.ρ0 ρ (fun m => if m = g then bs else fp m) w :=
  ⟨h.os, h.tape, h.output, h.size, h.keep, fun m b hx => by by_cases e : m = g; { simp only [if_pos e] at hx; obtain ⟨m', hm⟩ := hb b hx; exact h.own m' b hm }; { simp only [if_neg e] at hx; exact h.own m b hx }, h.ext⟩
theorem pset_same (f : Nat → Pe) (b : Nat) (e : Pe) : pset f b e b = e := by simp [pset]
theorem pset_other (f : Nat → Pe) {b x : Nat} (h : x ≠ b) (e : Pe) : pset f b e x = f x := by
  unfold pset; rw [beq_no h]
def findP (hp : Tr (AO O)) : Nat → Option (Nat × TypeId × (Nat → Pe))
  | 0 => none
  | k + 1 => match hp.get k with
    | some (.pg t f) => some (k, t, f)
    | _ => findP hp k
theorem findP_spec {hp : Tr (AO O)} : ∀ {k g : Nat} {t : TypeId} {f : Nat → Pe}, findP hp k = some (g, t, f) → hp.get g = some (.pg t f) ∧ g < k
  | 0, _, _, _, h => by simp [findP] at h
  | k + 1, g, t, f, h => by
    simp only [findP] at h
    split at h
    · rename_i hk; cases h; exact ⟨hk, by omega⟩
    · obtain ⟨h1, h2⟩ := findP_spec h; exact ⟨h1, by omega⟩
/-- A slice that lies in a map is told by a name of its own. -/
def aunpin (s : St O) (x : AV) (K : St O → AV → Prop) : Prop := match x with
  | .pv q z l c => match findP s.hp 128 with
    | some (g, t, f) => bsplit (Nat.beq q 0) fun r => match r with
      | true => K s .nils
      | false => must ((f (Nat.pred q)).on && Nat.beq (f (Nat.pred q)).z z) (forceN s.nx fun nx => match s.hp.get nx, Nat.blt nx 16777215 with
        | none, true => K { s with hp := (s.hp.set g (some (.pg t (pset f (Nat.pred q) .off)))).set nx (some (.rows t [.s] (f (Nat.pred q)).xs (f (Nat.pred q)).cap)), nx := nx + 1 } (.sl nx 0 l c)
        | _, _ => False)
    | none => False
  | x => K s x
/-- What a state without its temporaries is. -/
theorem unpin_sat {hp : Tr (AO O)} {nx g : Nat} {t : TypeId} {f : Nat → Pe} (hg : hp.get g = some (.pg t f)) (hgb : Nat.blt g 16777215 = true) (hx : hp.get nx = none) (hxb : Nat.blt nx 16777215 = true) {p : Nat} (hon : (f p).on = true)
    {w : World} {ρ : Rho} {fp : Nat → List Nat} (hs : Sat I ρ fp hp w) : ∃ ρ' fp', Ext ρ ρ' ∧ ρ' nx = some (p, (f p).z) ∧ Sat I ρ' fp' ((hp.set g (some (.pg t (pset f p .off)))).set nx (some (.rows t [.s] (f p).xs (f p).cap))) w ∧ (∀ n b, b ∈ fp' n → ∃ m, b ∈ fp m) := by
  have ho := hs.ok g _ hg
  obtain ⟨h1, h2⟩ := ho
  have hp1 : p ∈ fp g := (h1 p).2 hon
  obtain ⟨arr, a1, a2, a3, a4⟩ := h2 p hp1
  have hs1 := hs.swap hgb (o := .pg t (pset f p .off)) (by rw [hg]; simp) (bs := (fp g).filter (fun x => !decide (x = p)))
    (fun x hx m hm hxm => hm (hs.dis _ _ _ hxm (List.mem_filter.1 hx).1)) (fun x hx ob hf => (hs.fz x ob hf).2 g (List.mem_filter.1 hx).1)
    ⟨fun x => by
      by_cases e : x = p
      · subst e; simp [pset_same, Pe.off]
      · rw [pset_other _ e, ← h1 x]; simp [e], fun x hx => by
      obtain ⟨hx, e⟩ := List.mem_filter.1 hx
      have e : x ≠ p := by simpa using e
      rw [pset_other _ e]; exact h2 x hx⟩
  have hxg : nx ≠ g := fun e => by subst e; rw [hx] at hg; cases hg
  have hno : ∀ m, p ∉ (if m = g then (fp g).filter (fun x => !decide (x = p)) else fp m) := fun m hm => by
    by_cases e : m = g
    · simp only [if_pos e, List.mem_filter] at hm; simp at hm
    · simp only [if_neg e] at hm; exact e (hs.dis _ _ _ hm hp1)
  have key := hs1.put (w' := w) (n := nx) (b := p) (z := (f p).z) (bs := [p]) hxb (o := .rows t [.s] (f p).xs (f p).cap) (by rw [Tr.get_set_ne (Ne.symm hxg)]; exact hx) (fun _ _ _ => rfl)
    (fun x hx m => by simp at hx; subst hx; exact hno m) (fun x hx ob hf => by simp at hx; subst hx; exact (hs.fz x ob hf).2 g hp1)
    ⟨p, (f p).z, arr, by simp, rfl, a1, a2, by simpa using a3, a4.mono fun m q hq => by
      have : m ≠ nx := fun e => by subst e; rw [(hs.dom _ hx).1] at hq; cases hq
      simp only [if_neg this]; exact hq⟩
  refine ⟨_, _, key.2, by simp, key.1, fun n b hb => ?_⟩
  by_cases e : n = nx
  · simp only [if_pos e] at hb; simp at hb; subst hb; exact ⟨g, hp1⟩
  · simp only [if_neg e] at hb
    by_cases e' : n = g
    · simp only [if_pos e'] at hb; exact ⟨g, (List.mem_filter.1 hb).1⟩
    · simp only [if_neg e'] at hb; exact ⟨n, hb⟩
theorem Since.names {c : Ctx} {ρ ρ' : Rho} {fp fp' : Nat → List Nat} {w : World} (h : Since c.w0 c.F0 c.ρ0 ρ fp w) (e : Ext ρ ρ') (hf : ∀ n b, b ∈ fp' n → ∃ m, b ∈ fp m) : Since c.w0 c.F0 c.ρ0 ρ' fp' w :=
  ⟨h.os, h.tape, h.output, h.size, h.keep, fun n b hb => let ⟨m, hm⟩ := hf n b hb; h.own m b hm, h.ext.trans e⟩
theorem aunpin_ok {c : Ctx} {s : St O} {x : AV} {K : St O → AV → Prop} (h : aunpin s x K) {a : Act} {w : World} {ρ : Rho} {fp : Nat → List Nat} (ht : TmOk ρ s.tm a.tmps) (hs : Sat I ρ fp s.hp w) (hc : Since c.w0 c.F0 c.ρ0 ρ fp w) {x' : Value} (hx : Den ρ x x') :
    ∃ s' v ρ' fp', K s' v ∧ s'.tm = s.tm ∧ s'.sz = s.sz ∧ Ext ρ ρ' ∧ TmOk ρ' s'.tm a.tmps ∧ Sat I ρ' fp' s'.hp w ∧ Since c.w0 c.F0 c.ρ0 ρ' fp' w ∧ Den ρ' v x' := by
  unfold aunpin at h
  split at h
  · rename_i q z l cc
    split at h
    · rename_i g t f hf
      obtain ⟨hg, hlt⟩ := findP_spec hf
      have h := bsplit_spec h
      cases hq : Nat.beq q 0 with
      | true =>
        rw [hq] at h
        have hq := Nat.eq_of_beq_eq_true hq
        subst hq
        cases hx
        exact ⟨s, .nils, ρ, fp, h, rfl, rfl, Ext.refl _, ht, hs, hc, .nils⟩
      | false =>
        rw [hq] at h
        simp only at h
        obtain ⟨hc1, h⟩ := must_spec h
        have h := forceN_spec h
        simp only [Bool.and_eq_true] at hc1
        obtain ⟨hon, hz⟩ := hc1
        have hz := Nat.eq_of_beq_eq_true hz
        split at h
        · rename_i hn hb
          cases hx with
          | pv0 => cases hq
          | pv1 b _ _ _ hl hcm =>
          simp only [Nat.pred_succ] at hon hz h
          obtain ⟨ρ', fp', e1, e2, e3, e4⟩ := unpin_sat hg (blt_iff.2 (by omega)) hn hb hon hs
          exact ⟨_, _, ρ', fp', h, rfl, rfl, e1, ht.mono e1, e3, hc.names e1 e4, by have := Den.sl (ρ := ρ') 0 l cc e2 hl hcm; rw [hz] at this; simpa using this⟩
        · exact h.elim
    · exact h.elim
  · exact ⟨s, x, ρ, fp, h, rfl, rfl, Ext.refl _, ht, hs, hc, hx⟩
/-- A row of texts is laid into a map. -/
def apin (s : St O) (m v : AV) (K : St O → AV → Prop) : Prop := match m with
  | .map n => match s.hp.get n with
    | some (.mp ms _ _) => match ms.vs with
      | [.v] => match v with
        | .sl k o l c => match s.hp.get k, findP s.hp 128 with
          | some (.rows t sh xs room), some (g, t', f) => match shEq sh [.s] && (Nat.beq t t' && (Nat.beq o 0 && Nat.blt k 16777215)) with
            | true => ∀ b z : Nat, (f b).on = false → K { s with hp := (s.hp.set k (some .gone)).set g (some (.pg t (pset f b ⟨true, z, xs, room⟩))) } (.pv (b + 1) z l c)
            | false => False
          | _, _ => False
        | .nils => K s (.pv 0 0 0 0)
        | _ => False
      | _ => K s v
    | _ => K s v
  | _ => K s v
theorem apin_ok {c : Ctx} {s : St O} {m v : AV} {K : St O → AV → Prop} (h : apin s m v K) {a : Act} {w : World} {ρ : Rho} {fp : Nat → List Nat} (ht : TmOk ρ s.tm a.tmps) (hs : Sat I ρ fp s.hp w) (hc : Since c.w0 c.F0 c.ρ0 ρ fp w) {x' : Value} (hx : Den ρ v x') :
    ∃ s' v' fp', K s' v' ∧ s'.tm = s.tm ∧ s'.sz = s.sz ∧ Sat I ρ fp' s'.hp w ∧ Since c.w0 c.F0 c.ρ0 ρ fp' w ∧ Den ρ v' x' := by
  have stay : K s v → ∃ s' v' fp', K s' v' ∧ s'.tm = s.tm ∧ s'.sz = s.sz ∧ Sat I ρ fp' s'.hp w ∧ Since c.w0 c.F0 c.ρ0 ρ fp' w ∧ Den ρ v' x' := fun h => ⟨s, v, fp, h, rfl, rfl, hs, hc, hx⟩
  unfold apin at h
  split at h
  · rename_i n
    split at h
    · rename_i ms es clk hn
      split at h
      · split at h
        · rename_i k o l cc
          split at h
          · rename_i t sh xs room g t' f hk hf
            obtain ⟨hg, hlt⟩ := findP_spec hf
            split at h
            · rename_i hcond
              simp only [Bool.and_eq_true] at hcond
              obtain ⟨c1, c2, c3, c4⟩ := hcond
              have c1 := shEq_spec c1
              have c2 := Nat.eq_of_beq_eq_true c2
              have c3 := Nat.eq_of_beq_eq_true c3
              subst c1; subst c2; subst c3
              cases hx with | sl _ _ _ hρ hlc hcm =>
              rename_i b z
              obtain ⟨b', z', arr, h1, h2, h3, h4, h5, h6⟩ := hs.ok k _ hk
              rw [hρ] at h1; cases h1
              obtain ⟨p1, p2⟩ := hs.ok g _ hg
              have hkg : k ≠ g := fun e => by subst e; rw [hk] at hg; cases hg
              have hbg : b ∉ fp g := fun hb => hkg (hs.dis _ _ _ (by rw [h2]; simp) hb)
              have hoff : (f b).on = false := by
                cases ho : (f b).on with
                | false => rfl
                | true => exact absurd ((p1 b).2 ho) hbg
              have hs1 := hs.gone c4 hk
              have hc1 := hc.gone k
              have hs2 := hs1.swap (g := g) (blt_iff.2 (by omega)) (o := .pg t (pset f b ⟨true, z, xs, room⟩)) (by rw [Tr.get_set_ne hkg, hg]; simp) (bs := b :: fp g)
                (fun x hx m hm hxm => by
                  by_cases e : m = k
                  · simp [e] at hxm
                  · simp only [if_neg e] at hxm
                    rcases List.mem_cons.1 hx with rfl | hx
                    · exact e (hs.dis _ _ _ hxm (by rw [h2]; simp))
                    · exact hm (hs.dis _ _ _ hxm hx))
                (fun x hx ob hf => by
                  rcases List.mem_cons.1 hx with rfl | hx
                  · exact (hs.fz _ ob hf).2 k (by rw [h2]; simp)
                  · exact (hs.fz _ ob hf).2 g hx)
                ⟨fun x => by
                  by_cases e : x = b
                  · subst e; simp [pset_same]
                  · rw [pset_other _ e, ← p1 x]; simp [e], fun x hx => by
                  by_cases e : x = b
                  · subst e; rw [pset_same]; exact ⟨arr, h3, h4, by simpa using h5, h6⟩
                  · rw [pset_other _ e]; exact p2 x (by simpa [e] using hx)⟩
              refine ⟨_, _, _, h b z hoff, rfl, rfl, hs2, ?_, .pv1 b z l cc hlc hcm⟩
              refine ⟨hc.os, hc.tape, hc.output, hc.size, hc.keep, fun m x hx => ?_, hc.ext⟩
              by_cases e : m = g
              · simp only [if_pos e] at hx
                rcases List.mem_cons.1 hx with rfl | hx
                · exact hc.own k _ (by rw [h2]; simp)
                · exact hc.own g _ hx
              · simp only [if_neg e] at hx
                by_cases e' : m = k
                · simp [e'] at hx
                · simp only [if_neg e'] at hx; exact hc.own m x hx
            · exact h.elim
          · exact h.elim
        · cases hx; exact ⟨s, .pv 0 0 0 0, fp, h, rfl, rfl, hs, hc, .pv0⟩
        · exact h.elim
      · exact stay h
    · exact stay h
  · exact stay h
/-- A map of slices comes with an object that holds these. -/
def apgnew (P : Program) (s : St O) (t : TypeId) (K : St O → Prop) : Prop := match mkTU P t with
  | some (.map kt et) => match mkTU P et with
    | some (.slice e) => forceN s.nx fun nx => match s.hp.get nx, Nat.blt nx 16777215 with
      | none, true => K { s with hp := s.hp.set nx (some (.pg e fun _ => .off)), nx := nx + 1 }
      | _, _ => False
    | _ => K s
  | _ => K s
theorem apgnew_ok {c : Ctx} {s : St O} {t : TypeId} {K : St O → Prop} (h : apgnew P s t K) {a : Act} {w : World} {ρ : Rho} {fp : Nat → List Nat} (ht : TmOk ρ s.tm a.tmps) (hs : Sat I ρ fp s.hp w) (hc : Since c.w0 c.F0 c.ρ0 ρ fp w) :
    ∃ s' ρ' fp', K s' ∧ s'.tm = s.tm ∧ s'.sz = s.sz ∧ (∀ p, Same p s.hp s'.hp) ∧ Ext ρ ρ' ∧ TmOk ρ' s'.tm a.tmps ∧ Sat I ρ' fp' s'.hp w ∧ Since c.w0 c.F0 c.ρ0 ρ' fp' w := by
  have stay : K s → ∃ s' ρ' fp', K s' ∧ s'.tm = s.tm ∧ s'.sz = s.sz ∧ (∀ p, Same p s.hp s'.hp) ∧ Ext ρ ρ' ∧ TmOk ρ' s'.tm a.tmps ∧ Sat I ρ' fp' s'.hp w ∧ Since c.w0 c.F0 c.ρ0 ρ' fp' w := fun h => ⟨s, ρ, fp, h, rfl, rfl, fun p => Same.refl _ _, Ext.refl _, ht, hs, hc⟩
  unfold apgnew at h
  split at h
  · split at h
    · rename_i e _
      have h := forceN_spec h
      split at h
      · rename_i hn hb
        have key := hs.put (w' := w) (n := s.nx) (b := 0) (z := 0) (bs := []) hb (o := .pg e fun _ => .off) hn (fun _ _ _ => rfl) (fun x hx => by simp at hx) (fun x hx => by simp at hx) ⟨fun x => by simp [Pe.off], fun x hx => by simp at hx⟩
        refine ⟨_, _, _, h, rfl, rfl, fun p => Same.new hn _, key.2, ht.mono key.2, key.1, hc.names key.2 fun n b hx => ?_⟩
        by_cases e : n = s.nx
        · simp [e] at hx
        · simp only [if_neg e] at hx; exact ⟨n, hx⟩
      · exact h.elim
    · exact stay h
  · exact stay h
end Go.Tb
