/- Objects of a layer's own: packages of plain objects, which a caller sees as one. -/
import Derived.Test.YtojppaicjioohaaM20
set_option linter.all false
namespace Go.Tb
open Go
variable {O : Type} {P : Program} {I : Interp O}

def plainO : AO O → Bool | .own _ => false | .out _ _ _ => false | _ => true
def allPlain : List (AO O) → Bool | [] => true | o :: l => plainO o && allPlain l
theorem allPlain_get : ∀ {l : List (AO O)}, allPlain l = true → ∀ {i : Nat} {o : AO O}, l[i]? = some o → plainO o = true
  | [], _, i, o, h => by simp at h
  | u :: l, hn, 0, o, h => by simp only [allPlain, Bool.and_eq_true] at hn; simp at h; subst h; exact hn.1
  | u :: l, hn, i + 1, o, h => by simp only [allPlain, Bool.and_eq_true] at hn; exact allPlain_get hn.2 (by simpa using h)
def baseI (O : Type) : Interp O := ⟨fun _ _ _ _ => False, fun _ _ _ _ _ _ h => h, fun _ _ _ _ h => h.elim, fun _ => none⟩
theorem okO_plain {I J : Interp O} {ρ : Rho} {n : Nat} {fp : List Nat} {w : World} {o : AO O} (h : plainO o = true) (k : okO I ρ n fp w o) : okO J ρ n fp w o := by
  cases o <;> first | exact k | cases h

/-- What a package is made of: objects at the names 0, 1 ..; and which new variables are one. -/
structure Pk (O : Type) where
  H : O → List (AO O) → Prop
  z : AO O → Option O
  zok : ∀ o s, z o = some s → H s [o] ∧ ∃ t l r, o = .cells t l r ∧ cls l = true
def Pk.R (p : Pk O) (s : O) (pb : Nat × Nat) (fp : List Nat) (w : World) : Prop :=
  ∃ os ρ fp', p.H s os ∧ allPlain os = true ∧ os.length < 16777215 ∧ Sat (baseI O) ρ fp' (Tr.ofList 0 os .leaf) w ∧ ρ 0 = some pb ∧ ∀ x, x ∈ fp ↔ ∃ n, x ∈ fp' n
def pkI (p : Pk O) : Interp O where
  R := p.R
  loc := fun s b fp w w' hw ⟨os, ρ, fp', h1, h2, h3, h4, h5, h6⟩ =>
    ⟨os, ρ, fp', h1, h2, h3, ⟨fun n o hn => (h4.ok n o hn).mono (Ext.refl _) (fun _ _ h => by cases h) (fun x hx => hw x ((h6 x).2 ⟨n, hx⟩)), h4.dom, h4.dis, fun _ _ h => by cases h⟩, h5, h6⟩
  lt := fun s b fp w ⟨os, ρ, fp', h1, h2, h3, h4, h5, h6⟩ x hx => let ⟨n, hn⟩ := (h6 x).1 hx; h4.lt hn
  fz := fun _ => none
/-- The package that lies at a name, or is the new variable that lies there. -/
def asO (p : Pk O) : Option (AO O) → Option O
  | some (.own s) => some s
  | some o => p.z o
  | none => none
theorem cls_get : ∀ {l : List AV}, cls l = true → ∀ {i : Nat} {v : AV}, l[i]? = some v → cl v = true
  | [], _, i, v, h => by simp at h
  | u :: l, hn, 0, v, h => by simp only [cls, Bool.and_eq_true] at hn; simp at h; subst h; exact hn.1
  | u :: l, hn, i + 1, v, h => by simp only [cls, Bool.and_eq_true] at hn; exact cls_get hn.2 (by simpa using h)
theorem own_at {p : Pk O} (hI : I.R = p.R) {o : Option (AO O)} {s : O} (h : asO p o = some s) {ρ : Rho} {n : Nat} {fp : List Nat} {w : World} (hok : ∀ o', o = some o' → okO I ρ n fp w o') : ∃ pb, ρ n = some pb ∧ p.R s pb fp w := by
  unfold asO at h
  split at h
  · cases h
    obtain ⟨b, h1, h2⟩ := hok _ rfl
    exact ⟨b, h1, by rw [← hI]; exact h2⟩
  · rename_i o' hno
    obtain ⟨h1, t, l, r, rfl, hc⟩ := p.zok _ _ h
    obtain ⟨b, z, arr, k1, k2, k3, k4, k5, k6⟩ := hok _ rfl
    refine ⟨(b, z), k1, [.cells t l r], fun k => if k = 0 then some (b, z) else none, fun k => if k = 0 then fp else [], h1, rfl, by simp, ?_, by simp, fun x => ⟨fun hx => ⟨0, by simpa using hx⟩, fun ⟨n, hn⟩ => by by_cases e : n = 0 <;> simp [e] at hn; exact hn⟩⟩
    refine ⟨fun n o hn => ?_, fun n hn => ?_, fun n m x hn hm => ?_, fun _ _ h => by cases h⟩
    · have := ofList_get0 (by simp) hn
      cases n with
      | zero =>
        simp at this; subst this
        refine ⟨b, z, arr, by simp, by simpa using k2, k3, k4, k5, fun i v hv => ?_⟩
        obtain ⟨x, hx, dx⟩ := k6 i v hv
        have hcv : cl v = true := cls_get hc hv
        exact ⟨x, hx, cl_den dx hcv⟩
      | succ n => simp at this
    · cases n with
      | zero => cases hn
      | succ n => simp
    · by_cases e : n = 0 <;> by_cases e' : m = 0 <;> simp [e, e'] at hn hm ⊢
  · cases h
/-- What a body leaves of a package: the objects at the names js, told by the numbers of their places. -/
def closL (ps : List (Nat × Nat)) (lh : Tr (AO O)) : List Nat → Option (List (AO O))
  | [] => some []
  | j :: js => match lh.get j, closL ps lh js with
    | some o, some r => match plainO o && nmO (pd ps) o with | true => some (rnO (pι ps) o :: r) | false => none
    | _, _ => none
def places : Nat → List Nat → List (Nat × Nat)
  | _, [] => []
  | k, j :: js => (j, k) :: places (k + 1) js
def clos (js : List Nat) (lh : Tr (AO O)) : Option (List (AO O)) := match uniq (places 0 js) with
  | true => closL (places 0 js) lh js
  | false => none
theorem closL_get {ps : List (Nat × Nat)} {lh : Tr (AO O)} : ∀ {js : List Nat} {os : List (AO O)}, closL ps lh js = some os → os.length = js.length ∧ ∀ {i j : Nat}, js[i]? = some j → ∃ o, lh.get j = some o ∧ plainO o = true ∧ nmO (pd ps) o = true ∧ os[i]? = some (rnO (pι ps) o)
  | [], os, h => by simp [closL] at h; subst h; exact ⟨rfl, fun h => by simp at h⟩
  | j :: js, os, h => by
    simp only [closL] at h
    split at h
    · rename_i o r ho hr
      split at h
      · rename_i hc
        simp only [Bool.and_eq_true] at hc
        cases h
        obtain ⟨h1, h2⟩ := closL_get hr
        refine ⟨by simp [h1], fun {i k} hk => ?_⟩
        cases i with
        | zero => simp at hk; subst hk; exact ⟨o, ho, hc.1, hc.2, rfl⟩
        | succ i => simpa using h2 (by simpa using hk)
      · cases h
    · cases h
theorem places_lkr : ∀ (js : List Nat) (k n : Nat), lkr (places k js) n = if n < k then none else js[n - k]?
  | [], k, n => by simp [places, lkr]
  | j :: js, k, n => by
    simp only [places, lkr]
    cases hb : Nat.beq k n with
    | true => have := Nat.eq_of_beq_eq_true hb; subst this; simp
    | false =>
      have hne := Nat.ne_of_beq_eq_false hb
      simp only [places_lkr js (k + 1) n]
      by_cases h1 : n < k
      · rw [if_pos h1, if_pos (by omega)]
      · rw [if_neg h1, if_neg (by omega), show n - k = (n - (k + 1)) + 1 by omega]; rfl
theorem rnO_plain (ι : Nat → Nat) {o : AO O} (h : plainO o = true) : plainO (rnO ι o) = true := by cases o <;> first | rfl | (rename_i hid foc; cases foc <;> rfl) | cases h
theorem allPlain_of : ∀ {l : List (AO O)}, (∀ (i : Nat) (o : AO O), l[i]? = some o → plainO o = true) → allPlain l = true
  | [], _ => rfl
  | o :: l, h => by simp only [allPlain, Bool.and_eq_true]; exact ⟨h 0 o rfl, allPlain_of fun i u hu => h (i + 1) u (by simpa using hu)⟩
/-- The package closed: its blocks are those of the names js. -/
theorem clos_R {p : Pk O} {j0 : Nat} {js : List Nat} {lh : Tr (AO O)} {os : List (AO O)} (hc : clos (j0 :: js) lh = some os) {s : O} (hH : p.H s os) (hl : js.length < 16777214) {ρ : Rho} {fp : Nat → List Nat} {w : World} (hs : Sat I ρ fp lh w) {pb : Nat × Nat} (h0 : ρ j0 = some pb) :
    p.R s pb ((j0 :: js).flatMap fp) w := by
  unfold clos at hc
  split at hc
  · rename_i hu
    obtain ⟨h1, h2⟩ := closL_get hc
    have hlkr : ∀ n, lkr (places 0 (j0 :: js)) n = (j0 :: js)[n]? := fun n => by rw [places_lkr]; simp
    have hlen : os.length < 16777215 := by rw [h1]; simp; omega
    have e : Tells (pd (places 0 (j0 :: js))) (pι (places 0 (j0 :: js))) ρ (fun n => ((j0 :: js)[n]?).bind ρ) := fun n q hn hq => by
      obtain ⟨g, hg⟩ := Option.isSome_iff_exists.1 hn
      have hr := lk_lkr hu hg
      rw [hlkr] at hr
      simp only [pι, hg]
      rw [hr]; exact hq
    refine ⟨os, fun n => ((j0 :: js)[n]?).bind ρ, fun n => match (j0 :: js)[n]? with | some j => fp j | none => [], hH, allPlain_of fun i o ho => ?_, hlen, ⟨fun n o hn => ?_, fun n hn => ?_, fun n m x hx hy => ?_, fun _ _ h => by cases h⟩, by simpa using h0, fun x => ⟨fun hx => ?_, fun ⟨n, hn⟩ => ?_⟩⟩
    · have hi : i < (j0 :: js).length := by rw [← h1]; exact (List.getElem?_eq_some_iff.1 ho).1
      obtain ⟨o', q1, q2, q3, q4⟩ := h2 (List.getElem?_eq_getElem hi)
      rw [ho] at q4; cases q4; exact rnO_plain _ q2
    · have ho := ofList_get0 hlen hn
      have hi : n < (j0 :: js).length := by rw [← h1]; exact (List.getElem?_eq_some_iff.1 ho).1
      have hj := List.getElem?_eq_getElem hi
      obtain ⟨o', q1, q2, q3, q4⟩ := h2 hj
      rw [ho] at q4; cases q4
      have hlk := lkr_lk hu (by rw [hlkr]; exact hj)
      have := okO.ren e (by simp [pd, hlk]) (hs.ok _ o' q1) q3
      rw [show pι (places 0 (j0 :: js)) ((j0 :: js)[n]) = n by simp [pι, hlk]] at this
      have := okO_plain (J := baseI O) (rnO_plain _ q2) this
      simpa only [hj] using this
    · have hno : (j0 :: js)[n]? = none := by
        cases hg : (j0 :: js)[n]? with
        | none => rfl
        | some g =>
          have hi : n < os.length := by rw [h1]; exact (List.getElem?_eq_some_iff.1 hg).1
          have := ofList_mem hlen (List.getElem?_eq_getElem hi)
          rw [hn] at this; cases this
      simp only [hno]; exact ⟨rfl, trivial⟩
    · cases hj : (j0 :: js)[n]? with
      | none => simp only [hj] at hx; simp at hx
      | some j =>
        cases hj' : (j0 :: js)[m]? with
        | none => simp only [hj'] at hy; simp at hy
        | some j' =>
          simp only [hj] at hx; simp only [hj'] at hy
          have := hs.dis _ _ _ hx hy
          subst this
          have a := lkr_lk hu (by rw [hlkr]; exact hj)
          have b := lkr_lk hu (by rw [hlkr]; exact hj')
          rw [a] at b; cases b; rfl
    · obtain ⟨j, hj, hx⟩ := List.mem_flatMap.1 hx
      obtain ⟨n, hn⟩ := List.mem_iff_getElem?.1 hj
      exact ⟨n, by simp only [hn]; exact hx⟩
    · cases hj : (j0 :: js)[n]? with
      | none => simp only [hj] at hn; simp at hn
      | some j => simp only [hj] at hn; exact List.mem_flatMap.2 ⟨j, List.mem_of_getElem? hj, hn⟩
  · cases hc

mutual
theorem rn_id : ∀ (v : AV), rn (fun n => n) v = v
  | .bool _ | .int _ _ | .str _ | .nilp | .nils | .nilm | .nilc | .nilf | .nili => rfl
  | .ptr _ _ | .ep _ _ _ _ _ | .sl _ _ _ _ | .map _ | .chan _ | .sd _ _ _ _ _ _ | .slq _ _ _ _ | .chanP _ _ | .mapP _ _ | .pv _ _ _ _ => rfl
  | .fn f a b => by simp only [rn, rns_id a, rns_id b]
  | .iface t v => by simp only [rn, rn_id v]
  | .agg l => by simp only [rn, rns_id l]
  | .tup l => by simp only [rn, rns_id l]
theorem rns_id : ∀ (l : List AV), rns (fun n => n) l = l
  | [] => rfl
  | v :: l => by simp only [rns, rn_id v, rns_id l]
end

/-- What a call with a package leads to: the package changed, and plain values, or new rows. -/
def OwnPost (p : Pk O) (hp : Tr (AO O)) (g : Nat) (K : AV → Tr (AO O) → Prop) (v : AV) (lh : Tr (AO O)) : Prop :=
  ∃ s' os' js, clos (0 :: js) lh = some os' ∧ js.length < 16777214 ∧ p.H s' os' ∧
    ((cl v = true ∧ K v (hp.set g (some (.own s')))) ∨
     ∃ m nx o, nm (fun n => Nat.beq n m) v = true ∧ lh.get m = some o ∧ isRows o = true ∧ memB (0 :: js) m = false ∧ hp.get nx = none ∧ Nat.blt nx 16777215 = true ∧ K (rn (fun _ => nx) v) ((hp.set g (some (.own s'))).set nx (some o)))
theorem memB_mem : ∀ {l : List Nat} {n : Nat}, memB l n = false → n ∉ l
  | [], _, _ => by simp
  | x :: l, n, h => by
    simp only [memB] at h
    cases hb : Nat.beq x n with
    | true => rw [hb] at h; cases h
    | false =>
      rw [hb] at h
      have h1 := Nat.ne_of_beq_eq_false hb
      have h2 := memB_mem h
      simp; exact ⟨fun e => h1 e.symm, h2⟩
/-- .. told by another package's objects on the way in. -/
theorem own_callF {p p' : Pk O} (hI : I.R = p.R) {hp : Tr (AO O)} {g : Nat} {s : O} (hF : ∀ pb fp w, p.R s pb fp w → p'.R s pb fp w) (hg : asO p (hp.get g) = some s) (hb : Nat.blt g 16777215 = true) {f : FuncId} (largs : List AV) (hn : nms (fun n => Nat.beq n 0) largs = true) {K : AV → Tr (AO O) → Prop}
    (h0 : ∀ as w, (callFunc f as).run P w = .ok (.enter f as) w)
    (h : ∀ os, p'.H s os → allPlain os = true → os.length < 16777215 → ACall I P f largs (Tr.ofList 0 os .leaf) (OwnPost p hp g K)) : ACall I P f (rns (fun _ => g) largs) hp K := by
  refine ⟨h0, fun ρ fp w args' hs hd => ?_⟩
  have hgne : ∃ o, hp.get g = some o := by
    cases hx : hp.get g with
    | none => rw [hx] at hg; cases hg
    | some o => exact ⟨o, rfl⟩
  obtain ⟨pb, hρ, hR0⟩ := own_at hI hg (fun o' ho => hs.ok g o' ho)
  obtain ⟨os, ρs, fps, hH, hpl, hlen, hss, hρ0, hfp⟩ := hF _ _ _ hR0
  have hsI : Sat I ρs fps (Tr.ofList 0 os .leaf) w := ⟨fun n o hn => okO_plain (allPlain_get hpl (ofList_get0 hlen hn)) (hss.ok n o hn), hss.dom, hss.dis, fun b ob hob => ⟨(hs.fz b ob hob).1, fun n hn => (hs.fz b ob hob).2 g ((hfp b).2 ⟨n, hn⟩)⟩⟩
  have hd' : Dens ρs largs args' := Dens.unren (d := fun n => Nat.beq n 0) (ι := fun _ => g) (fun n q hn hq => by
    have := Nat.eq_of_beq_eq_true hn
    subst this
    rw [hρ] at hq; cases hq; exact hρ0) largs hd hn
  refine ((h os hH hpl hlen).2 ρs fps w args' hsI hd').mono fun e w' hh => ?_
  obtain ⟨v, lh, ρ', fp', x, ⟨s', os', js, hc, hjl, hH', hk⟩, rfl, dx, hsl, hsc⟩ := hh
  have hR := clos_R (I := I) hc hH' hjl hsl (hsc.ext _ _ hρ0)
  have hkeep : ∀ n, n ≠ g → ∀ y, y ∈ fp n → w'.heap[y]? = w.heap[y]? := fun n hn y hy => hsc.keep y (hs.lt hy) (fun ⟨k, hk⟩ => hn (hs.dis _ _ _ hy ((hfp y).2 ⟨k, hk⟩)))
  have hown : ∀ j y, y ∈ fp' j → y ∈ fp g ∨ w.heap.size ≤ y := fun j y hy => (hsc.own j y hy).imp (fun ⟨k, hk⟩ => (hfp y).2 ⟨k, hk⟩) id
  have hfl : ∀ y, y ∈ (0 :: js).flatMap fp' → ∃ j, j ∈ 0 :: js ∧ y ∈ fp' j := fun y hy => List.mem_flatMap.1 hy
  have hoR : okO I ρ g ((0 :: js).flatMap fp') w' (.own s') := ⟨pb, hρ, by rw [hI]; exact hR⟩
  rcases hk with ⟨hcl, hk⟩ | ⟨m, nx, o, hnm, hgm, hro, hmem, hnx, hbx, hk⟩
  · refine ⟨v, hp.set g (some (.own s')), ρ, fun n => if n = g then (0 :: js).flatMap fp' else fp n, x, hk, rfl, cl_den dx hcl, ⟨fun n o hno => ?_, fun n hno => ?_, fun n n' y hy hy' => ?_, fun b ob hob => ⟨(hsl.fz b ob hob).1, fun n hno => ?_⟩⟩, ⟨hsc.os, hsc.tape, hsc.output, hsc.size, fun b hbs hF => hsc.keep b hbs (fun ⟨k, hk⟩ => hF ⟨g, (hfp b).2 ⟨k, hk⟩⟩), fun n b hbn => ?_, Ext.refl _⟩⟩
    · by_cases e : n = g
      · subst e; rw [Tr.get_set_eq hb] at hno; cases hno; simpa using hoR
      · rw [Tr.get_set_ne (Ne.symm e)] at hno
        simp only [if_neg e]
        exact (hs.ok n o hno).mono (Ext.refl _) (fun b ob hob _ => (hsl.fz b ob hob).1) (hkeep n e)
    · by_cases e : n = g
      · subst e; rw [Tr.get_set_eq hb] at hno; cases hno
      · rw [Tr.get_set_ne (Ne.symm e)] at hno; simp only [if_neg e]; exact hs.dom n hno
    · by_cases e : n = g <;> by_cases e' : n' = g
      · rw [e, e']
      · simp only [if_pos e] at hy; simp only [if_neg e'] at hy'
        obtain ⟨j, _, hj⟩ := hfl y hy
        rcases hown j y hj with h1 | h1
        · exact absurd (hs.dis _ _ _ hy' h1) e'
        · have := hs.lt hy'; omega
      · simp only [if_neg e] at hy; simp only [if_pos e'] at hy'
        obtain ⟨j, _, hj⟩ := hfl y hy'
        rcases hown j y hj with h1 | h1
        · exact absurd (hs.dis _ _ _ hy h1) e
        · have := hs.lt hy; omega
      · simp only [if_neg e] at hy; simp only [if_neg e'] at hy'; exact hs.dis _ _ _ hy hy'
    · by_cases e : n = g
      · simp only [if_pos e] at hno
        obtain ⟨j, _, hj⟩ := hfl _ hno
        exact (hsl.fz b ob hob).2 j hj
      · simp only [if_neg e] at hno; exact (hs.fz b ob hob).2 n hno
    · by_cases e : n = g
      · simp only [if_pos e] at hbn
        obtain ⟨j, _, hj⟩ := hfl _ hbn
        exact (hown j b hj).imp (fun h => ⟨g, h⟩) id
      · simp only [if_neg e] at hbn; exact .inl ⟨n, hbn⟩
  · have hmj := memB_mem hmem
    have hnxg : nx ≠ g := fun e => by subst e; obtain ⟨o, ho⟩ := hgne; rw [hnx] at ho; cases ho
    have hgnx : g ≠ nx := fun e => hnxg e.symm
    obtain ⟨qb, hqb⟩ : ∃ qb, ρ' m = some qb := by
      have := hsl.ok m o hgm
      cases o <;> simp [isRows] at hro
      obtain ⟨b, z, arr, h1, _⟩ := this
      exact ⟨_, h1⟩
    have hext : Ext ρ (fun n => if n = nx then some qb else ρ n) := fun n q hq => by
      have : n ≠ nx := fun e => by subst e; rw [(hs.dom _ hnx).1] at hq; cases hq
      simp only [if_neg this]; exact hq
    have hom : okO I (fun n => if n = nx then some qb else ρ n) nx (fp' m) w' o := by
      have := okO.ren (d := fun n => Nat.beq n m) (ι := fun _ => nx) (ρ := ρ') (ρ' := fun n => if n = nx then some qb else ρ n) (fun n q hn hq => by
        have := Nat.eq_of_beq_eq_true hn
        subst this
        rw [hqb] at hq; cases hq; simp) (Nat.beq_refl m) (hsl.ok m o hgm) (by cases o <;> simp [isRows] at hro; rfl)
      rwa [rnO_rows _ hro] at this
    refine ⟨rn (fun _ => nx) v, (hp.set g (some (.own s'))).set nx (some o), fun n => if n = nx then some qb else ρ n, fun n => if n = nx then fp' m else if n = g then (0 :: js).flatMap fp' else fp n, x, hk, rfl,
      dx.ren (d := fun n => Nat.beq n m) (fun n q hn hq => by
        have := Nat.eq_of_beq_eq_true hn
        subst this
        rw [hqb] at hq; cases hq; simp) hnm, ⟨fun n o' hno => ?_, fun n hno => ?_, fun n n' y hy hy' => ?_, fun b ob hob => ⟨(hsl.fz b ob hob).1, fun n hno => ?_⟩⟩, ⟨hsc.os, hsc.tape, hsc.output, hsc.size, fun b hbs hF => hsc.keep b hbs (fun ⟨k, hk⟩ => hF ⟨g, (hfp b).2 ⟨k, hk⟩⟩), fun n b hbn => ?_, hext⟩⟩
    · by_cases e2 : n = nx
      · subst e2; rw [Tr.get_set_eq hbx] at hno; cases hno; simpa using hom
      · rw [Tr.get_set_ne (Ne.symm e2)] at hno
        by_cases e : n = g
        · subst e; rw [Tr.get_set_eq hb] at hno; cases hno
          obtain ⟨b, h1, h2⟩ := hoR
          simp only [if_neg e2, if_true]
          exact ⟨b, hext _ _ h1, h2⟩
        · rw [Tr.get_set_ne (Ne.symm e)] at hno
          simp only [if_neg e, if_neg e2]
          exact (hs.ok n o' hno).mono hext (fun b ob hob _ => (hsl.fz b ob hob).1) (hkeep n e)
    · by_cases e2 : n = nx
      · subst e2; rw [Tr.get_set_eq hbx] at hno; cases hno
      · rw [Tr.get_set_ne (Ne.symm e2)] at hno
        by_cases e : n = g
        · subst e; rw [Tr.get_set_eq hb] at hno; cases hno
        · rw [Tr.get_set_ne (Ne.symm e)] at hno; simp only [if_neg e, if_neg e2]; exact hs.dom n hno
    · have key : ∀ {a b : Nat} {y : Nat}, a ≠ nx → y ∈ (if a = g then (0 :: js).flatMap fp' else fp a) → y ∈ fp' m → False := fun {a b y} ha h1 h2 => by
        by_cases e : a = g
        · simp only [if_pos e] at h1
          obtain ⟨j, hj, hy⟩ := hfl y h1
          exact hmj (hsl.dis _ _ _ h2 hy ▸ hj)
        · simp only [if_neg e] at h1
          rcases hown m y h2 with h3 | h3
          · exact e (hs.dis _ _ _ h1 h3)
          · have := hs.lt h1; omega
      by_cases e2 : n = nx <;> by_cases e2' : n' = nx
      · rw [e2, e2']
      · simp only [if_pos e2] at hy; simp only [if_neg e2'] at hy'; exact (key (b := 0) e2' hy' hy).elim
      · simp only [if_neg e2] at hy; simp only [if_pos e2'] at hy'; exact (key (b := 0) e2 hy hy').elim
      · simp only [if_neg e2] at hy; simp only [if_neg e2'] at hy'
        by_cases e : n = g <;> by_cases e' : n' = g
        · rw [e, e']
        · simp only [if_pos e] at hy; simp only [if_neg e'] at hy'
          obtain ⟨j, _, hj⟩ := hfl y hy
          rcases hown j y hj with h1 | h1
          · exact absurd (hs.dis _ _ _ hy' h1) e'
          · have := hs.lt hy'; omega
        · simp only [if_neg e] at hy; simp only [if_pos e'] at hy'
          obtain ⟨j, _, hj⟩ := hfl y hy'
          rcases hown j y hj with h1 | h1
          · exact absurd (hs.dis _ _ _ hy h1) e
          · have := hs.lt hy; omega
        · simp only [if_neg e] at hy; simp only [if_neg e'] at hy'; exact hs.dis _ _ _ hy hy'
    · by_cases e2 : n = nx
      · simp only [if_pos e2] at hno; exact (hsl.fz b ob hob).2 m hno
      · simp only [if_neg e2] at hno
        by_cases e : n = g
        · simp only [if_pos e] at hno
          obtain ⟨j, _, hj⟩ := hfl _ hno
          exact (hsl.fz b ob hob).2 j hj
        · simp only [if_neg e] at hno; exact (hs.fz b ob hob).2 n hno
    · by_cases e2 : n = nx
      · simp only [if_pos e2] at hbn; exact (hown m b hbn).imp (fun h => ⟨g, h⟩) id
      · simp only [if_neg e2] at hbn
        by_cases e : n = g
        · simp only [if_pos e] at hbn
          obtain ⟨j, _, hj⟩ := hfl _ hbn
          exact (hown j b hj).imp (fun h => ⟨g, h⟩) id
        · simp only [if_neg e] at hbn; exact .inl ⟨n, hbn⟩
theorem own_call {p : Pk O} (hI : I.R = p.R) {hp : Tr (AO O)} {g : Nat} {s : O} (hg : asO p (hp.get g) = some s) (hb : Nat.blt g 16777215 = true) {f : FuncId} (largs : List AV) (hn : nms (fun n => Nat.beq n 0) largs = true) {K : AV → Tr (AO O) → Prop}
    (h0 : ∀ as w, (callFunc f as).run P w = .ok (.enter f as) w)
    (h : ∀ os, p.H s os → allPlain os = true → os.length < 16777215 → ACall I P f largs (Tr.ofList 0 os .leaf) (OwnPost p hp g K)) : ACall I P f (rns (fun _ => g) largs) hp K :=
  own_callF hI (fun _ _ _ h => h) hg hb largs hn h0 h

/-- A function that makes a package, or tells a plain value. -/
theorem own_new {p : Pk O} (hI : I.R = p.R) {f : FuncId} {args : List AV} {hp : Tr (AO O)} {K : AV → Tr (AO O) → Prop} (ha : cls args = true)
    (h : ACall I P f args .leaf (fun v lh => (cl v = true ∧ K v hp) ∨ ∃ j js s' os' nx t l r, lh.get j = some (.cells t l r) ∧ clos (j :: js) lh = some os' ∧ js.length < 16777214 ∧ p.H s' os' ∧ nm (fun n => Nat.beq n j) v = true ∧ hp.get nx = none ∧ Nat.blt nx 16777215 = true ∧ K (rn (fun _ => nx) v) (hp.set nx (some (.own s'))))) :
    ACall I P f args hp K := by
  refine ⟨h.1, fun ρ fp w args' hs hd => ?_⟩
  have h0 : Sat I (fun _ => none) (fun _ => []) (.leaf : Tr (AO O)) w := ⟨(fun n o hn => by cases hn), (fun n _ => ⟨rfl, rfl⟩), (fun n m b hb => by simp at hb), (fun b ob hb => ⟨(hs.fz b ob hb).1, fun n => by simp⟩)⟩
  refine (h.2 _ _ w args' h0 (cls_den hd ha)).mono fun e w' hh => ?_
  obtain ⟨v, lh, ρ', fp', x, hk, rfl, dx, hsl, hsc⟩ := hh
  have hw : ∀ b, b < w.heap.size → w'.heap[b]? = w.heap[b]? := fun b hb => hsc.keep b hb (by simp)
  have hnew : ∀ j y, y ∈ fp' j → w.heap.size ≤ y := fun j y hy => (hsc.own j y hy).resolve_left (fun ⟨k, hk⟩ => by simp at hk)
  rcases hk with ⟨hcl, hk⟩ | ⟨j, js, s', os', nx, t, l, r, hgj, hc, hjl, hH, hnm, hnx, hbx, hk⟩
  · exact ⟨v, hp, ρ, fp, x, hk, rfl, cl_den dx hcl, ⟨fun n o hn => (hs.ok n o hn).mono (Ext.refl _) (fun b ob hb _ => (hsl.fz b ob hb).1) (fun x hx => hw x (hs.lt hx)), hs.dom, hs.dis, fun b ob hb => ⟨(hsl.fz b ob hb).1, (hs.fz b ob hb).2⟩⟩,
      ⟨hsc.os, hsc.tape, hsc.output, hsc.size, fun b hb _ => hw b hb, fun n b hb => .inl ⟨n, hb⟩, Ext.refl _⟩⟩
  · obtain ⟨b0, z0, arr0, hpb, _⟩ := hsl.ok j _ hgj
    have hR := clos_R (I := I) hc hH hjl hsl hpb
    have hfl : ∀ y, y ∈ (j :: js).flatMap fp' → ∃ i, y ∈ fp' i := fun y hy => let ⟨i, _, hi⟩ := List.mem_flatMap.1 hy; ⟨i, hi⟩
    have hge : ∀ y, y ∈ (j :: js).flatMap fp' → w.heap.size ≤ y := fun y hy => let ⟨i, hi⟩ := hfl y hy; hnew i y hi
    have hext : Ext ρ (fun n => if n = nx then some (b0, z0) else ρ n) := fun n q hq => by
      have : n ≠ nx := fun e => by subst e; rw [(hs.dom _ hnx).1] at hq; cases hq
      simp only [if_neg this]; exact hq
    refine ⟨rn (fun _ => nx) v, hp.set nx (some (.own s')), fun n => if n = nx then some (b0, z0) else ρ n, fun n => if n = nx then (j :: js).flatMap fp' else fp n, x, hk, rfl,
      dx.ren (d := fun n => Nat.beq n j) (fun n q hn hq => by
        have := Nat.eq_of_beq_eq_true hn
        subst this
        rw [hpb] at hq; cases hq; simp) hnm, ⟨fun n o hn => ?_, fun n hn => ?_, fun n n' y hy hy' => ?_, fun b ob hob => ⟨(hsl.fz b ob hob).1, fun n hn => ?_⟩⟩,
      ⟨hsc.os, hsc.tape, hsc.output, hsc.size, fun b hb _ => hw b hb, fun n b hb => ?_, hext⟩⟩
    · by_cases e : n = nx
      · subst e; rw [Tr.get_set_eq hbx] at hn; cases hn
        exact ⟨(b0, z0), by simp, by rw [hI]; simpa using hR⟩
      · rw [Tr.get_set_ne (Ne.symm e)] at hn
        simp only [if_neg e]
        exact (hs.ok n o hn).mono hext (fun b ob hb _ => (hsl.fz b ob hb).1) (fun x hx => hw x (hs.lt hx))
    · by_cases e : n = nx
      · subst e; rw [Tr.get_set_eq hbx] at hn; cases hn
      · rw [Tr.get_set_ne (Ne.symm e)] at hn; simp only [if_neg e]; exact hs.dom n hn
    · by_cases e : n = nx <;> by_cases e' : n' = nx
      · rw [e, e']
      · simp only [if_pos e] at hy; simp only [if_neg e'] at hy'; have := hge y hy; have := hs.lt hy'; omega
      · simp only [if_neg e] at hy; simp only [if_pos e'] at hy'; have := hge y hy'; have := hs.lt hy; omega
      · simp only [if_neg e] at hy; simp only [if_neg e'] at hy'; exact hs.dis _ _ _ hy hy'
    · by_cases e : n = nx
      · simp only [if_pos e] at hn; obtain ⟨i, hi⟩ := hfl _ hn; exact (hsl.fz b ob hob).2 i hi
      · simp only [if_neg e] at hn; exact (hs.fz b ob hob).2 n hn
    · by_cases e : n = nx
      · simp only [if_pos e] at hb; exact .inr (hge b hb)
      · simp only [if_neg e] at hb; exact .inl ⟨n, hb⟩
/-- A new variable, told as a package. -/
theorem Weak.asOwn {p : Pk O} (hI : I.R = p.R) {m n : Nat} {o : AO O} {s : O} {st : St O} (hn : Nat.blt n 16777215 = true) (hg : st.hp.get n = some o) (hz : asO p (some o) = some s) : Weak I m st { st with hp := st.hp.set n (some (.own s)) } := by
  intro c hc a w hm
  obtain ⟨hd, hsz, ρ, fp, ht, hs, hsc⟩ := hm
  obtain ⟨pb, h1, h2⟩ := own_at hI hz (fun o' ho => by cases ho; exact hs.ok n _ hg)
  exact ⟨hd, hsz, ρ, fp, ht, hs.update hn (by rw [hg]; simp) (fun _ _ => rfl) ⟨pb, h1, by rw [hI]; exact h2⟩, hsc⟩
end Go.Tb
