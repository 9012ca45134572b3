/- A function that is handed memory: what is known of it over a small heap of its own names holds over every heap that has such objects. -/
import Derived.Test.YtojppaicjioohaaM11
set_option linter.all false
namespace Go.Tb
open Go
variable {O : Type} {P : Program} {I : Interp O}

/-- The caller's name of the callee's name. -/
def pι (ps : List (Nat × Nat)) (n : Nat) : Nat := match lk ps n with | some g => g | none => 0
def pd (ps : List (Nat × Nat)) (n : Nat) : Bool := (lk ps n).isSome
/-- The objects that are handed: at the callee's numbers k, k+1 .. and at the caller's names. -/
def pairs : Nat → List Nat → List (Nat × Nat)
  | _, [] => []
  | k, g :: l => (k, g) :: pairs (k + 1) l
def held (hp : Tr (AO O)) (ι : Nat → Nat) : List Nat → List (AO O) → Prop
  | [], [] => True
  | g :: gs, o :: os => hp.get g = some (rnO ι o) ∧ held hp ι gs os
  | _, _ => False
/-- What lies at a pair's two names. -/
def agree (hp lh : Tr (AO O)) (ι : Nat → Nat) : List (Nat × Nat) → Prop
  | [] => True
  | (j, g) :: l => hp.get g = (lh.get j).map (rnO ι) ∧ agree hp lh ι l
def free (hp : Tr (AO O)) : List (Nat × Nat) → Prop
  | [] => True
  | (_, g) :: l => hp.get g = none ∧ free hp l
def nmAll (lh : Tr (AO O)) (d : Nat → Bool) : List (Nat × Nat) → Bool
  | [] => true
  | (j, _) :: l => (match lh.get j with | some o => nmO d o | none => true) && nmAll lh d l
theorem agree_lk {hp lh : Tr (AO O)} {ι : Nat → Nat} : ∀ {l : List (Nat × Nat)}, agree hp lh ι l → ∀ {j g : Nat}, lk l j = some g → hp.get g = (lh.get j).map (rnO ι)
  | [], _, _, _, h => by cases h
  | (j', g') :: l, ha, j, g, h => by
    simp only [lk] at h
    cases hb : Nat.beq j' j with
    | true => rw [hb] at h; cases h; have := Nat.eq_of_beq_eq_true hb; subst this; exact ha.1
    | false => rw [hb] at h; exact agree_lk ha.2 h
theorem free_lkr {hp : Tr (AO O)} : ∀ {l : List (Nat × Nat)}, free hp l → ∀ {j g : Nat}, lkr l g = some j → hp.get g = none
  | [], _, _, _, h => by cases h
  | (j', g') :: l, ha, j, g, h => by
    simp only [lkr] at h
    cases hb : Nat.beq g' g with
    | true => have := Nat.eq_of_beq_eq_true hb; subst this; exact ha.1
    | false => rw [hb] at h; exact free_lkr ha.2 h
theorem nmAll_lk {lh : Tr (AO O)} {d : Nat → Bool} : ∀ {l : List (Nat × Nat)}, nmAll lh d l = true → ∀ {j g : Nat}, lk l j = some g → ∀ {o : AO O}, lh.get j = some o → nmO d o = true
  | [], _, _, _, h, _, _ => by cases h
  | (j', g') :: l, ha, j, g, h, o, ho => by
    simp only [nmAll, Bool.and_eq_true] at ha
    simp only [lk] at h
    cases hb : Nat.beq j' j with
    | true => have := Nat.eq_of_beq_eq_true hb; subst this; rw [ho] at ha; exact ha.1
    | false => rw [hb] at h; exact nmAll_lk ha.2 h ho
theorem lk_append : ∀ (a b : List (Nat × Nat)) (n : Nat), lk (a ++ b) n = match lk a n with | some g => some g | none => lk b n
  | [], _, _ => rfl
  | (j, g) :: a, b, n => by
    simp only [List.cons_append, lk]
    cases Nat.beq j n with
    | true => rfl
    | false => exact lk_append a b n
theorem lkr_append : ∀ (a b : List (Nat × Nat)) (n : Nat), lkr (a ++ b) n = match lkr a n with | some g => some g | none => lkr b n
  | [], _, _ => rfl
  | (j, g) :: a, b, n => by
    simp only [List.cons_append, lkr]
    cases Nat.beq g n with
    | true => rfl
    | false => exact lkr_append a b n
theorem lk_pairs : ∀ (gs : List Nat) (k n : Nat), lk (pairs k gs) n = if n < k then none else gs[n - k]?
  | [], k, n => by simp [pairs, lk]
  | g :: gs, k, n => by
    simp only [pairs, lk]
    cases hb : Nat.beq k n with
    | true => have := Nat.eq_of_beq_eq_true hb; subst this; simp
    | false =>
      have hne := Nat.ne_of_beq_eq_false hb
      simp only [lk_pairs gs (k + 1) n]
      by_cases h1 : n < k
      · rw [if_pos h1, if_pos (by omega)]
      · rw [if_neg h1, if_neg (by omega), show n - k = (n - (k + 1)) + 1 by omega]; rfl
theorem held_get {hp : Tr (AO O)} {ι : Nat → Nat} : ∀ {gs : List Nat} {os : List (AO O)}, held hp ι gs os → gs.length = os.length ∧ ∀ {i : Nat} {o : AO O}, os[i]? = some o → ∃ g, gs[i]? = some g ∧ hp.get g = some (rnO ι o)
  | [], [], _ => ⟨rfl, fun h => by simp at h⟩
  | [], _ :: _, h => h.elim
  | _ :: _, [], h => h.elim
  | g :: gs, o :: os, h => by
    obtain ⟨h1, h2⟩ := held_get h.2
    refine ⟨by simp [h1], fun {i} {o'} ho => ?_⟩
    cases i with
    | zero => simp at ho; subst ho; exact ⟨g, rfl, h.1⟩
    | succ i => simpa using h2 (by simpa using ho)
theorem ofList_mem {os : List (AO O)} (hn : os.length < 16777215) {i : Nat} {o : AO O} (h : os[i]? = some o) : (Tr.ofList 0 os .leaf).get i = some o := ofList_has os 0 .leaf i o (by simpa using hn) (.inl ⟨by omega, by simpa using h⟩)
theorem ofList_get0 {os : List (AO O)} (hn : os.length < 16777215) {i : Nat} {o : AO O} (h : (Tr.ofList 0 os .leaf).get i = some o) : os[i]? = some o := by
  rcases Tr.ofList_get os 0 .leaf i o (by simpa using hn) h with ⟨h1, _⟩ | ⟨_, h2⟩
  · cases h1
  · simpa using h2

def nmOs (d : Nat → Bool) : List (AO O) → Bool
  | [] => true
  | o :: l => nmO d o && nmOs d l
theorem nmOs_get {d : Nat → Bool} : ∀ {l : List (AO O)}, nmOs d l = true → ∀ {i : Nat} {o : AO O}, l[i]? = some o → nmO d o = true
  | [], _, i, v, h => by simp at h
  | u :: l, hn, 0, v, h => by simp only [nmOs, Bool.and_eq_true] at hn; simp at h; subst h; exact hn.1
  | u :: l, hn, i + 1, v, h => by simp only [nmOs, Bool.and_eq_true] at hn; exact nmOs_get hn.2 (by simpa using h)
/-- 'gs': the caller's names of the objects that are handed, 'os': these, told by the callee's names; 'news': what is handed back anew; 'mods': what is laid down. -/
structure Back (hp : Tr (AO O)) (gs : List Nat) (lh : Tr (AO O)) (v : AV) (news mods : List (Nat × Nat)) (K : AV → Tr (AO O) → Prop) : Prop where
  uq : uniq (pairs 0 gs ++ news) = true
  fr : free hp news
  um : uniq mods = true
  sub : ∀ j g, lk mods j = some g → lk (pairs 0 gs ++ news) j = some g
  ag : agree (sets (fun j => (lh.get j).map (rnO (pι (pairs 0 gs ++ news)))) mods hp) lh (pι (pairs 0 gs ++ news)) (pairs 0 gs ++ news)
  nO : nmAll lh (pd (pairs 0 gs ++ news)) (pairs 0 gs ++ news) = true
  nv : nm (pd (pairs 0 gs ++ news)) v = true
  k : K (rn (pι (pairs 0 gs ++ news)) v) (sets (fun j => (lh.get j).map (rnO (pι (pairs 0 gs ++ news)))) mods hp)
theorem lift_h {f : FuncId} (gs : List Nat) (os : List (AO O)) (largs : List AV) {hp : Tr (AO O)} {K : AV → Tr (AO O) → Prop}
    (hu0 : uniq (pairs 0 gs) = true) (hlen : Nat.blt os.length 16777215 = true) (hheld : held hp (pι (pairs 0 gs)) gs os) (hno : nmOs (pd (pairs 0 gs)) os = true) (hna : nms (pd (pairs 0 gs)) largs = true)
    (h : ACall I P f largs (Tr.ofList 0 os .leaf) (fun v lh => ∃ news mods, Back hp gs lh v news mods K)) : ACall I P f (rns (pι (pairs 0 gs)) largs) hp K := by
  refine ⟨h.1, fun ρ fp w args' hs hd => ?_⟩
  obtain ⟨hgl, hget⟩ := held_get hheld
  let ps0 := pairs 0 gs
  let ρl : Rho := fun n => (lk ps0 n).bind ρ
  let fpl : Nat → List Nat := fun n => match lk ps0 n with | some g => fp g | none => []
  have hlk0 : ∀ n, lk ps0 n = gs[n]? := fun n => by rw [lk_pairs]; simp
  have e0 : ∀ n p, pd ps0 n = true → ρ (pι ps0 n) = some p → ρl n = some p := fun n p hn hp => by
    obtain ⟨g, hg⟩ := Option.isSome_iff_exists.1 hn
    simp only [ρl, hg, Option.bind_some]
    simpa [pι, hg] using hp
  have hfpl : ∀ {n b}, b ∈ fpl n → ∃ g, lk ps0 n = some g ∧ b ∈ fp g := fun {n b} hb => by
    cases hj : lk ps0 n with
    | none => simp only [fpl, hj] at hb; simp at hb
    | some j => simp only [fpl, hj] at hb; exact ⟨j, rfl, hb⟩
  have hsl : Sat I ρl fpl (Tr.ofList 0 os .leaf) w := by
    refine ⟨fun n o hn => ?_, fun n hn => ?_, fun n n' b hb hb' => ?_, fun b ob hb => ⟨(hs.fz b ob hb).1, fun n hn => let ⟨g, _, hg⟩ := hfpl hn; (hs.fz b ob hb).2 g hg⟩⟩
    · have ho := ofList_get0 (blt_iff.1 hlen) hn
      obtain ⟨g, hg, hgo⟩ := hget ho
      have hl : lk ps0 n = some g := by rw [hlk0]; exact hg
      have hk := hs.ok g _ hgo
      have e1 : pι ps0 n = g := by simp [pι, hl]
      have hfp : fpl n = fp g := by simp only [fpl, hl]
      rw [hfp]
      exact okO.unren e0 (by simp [pd, hl]) (by rw [e1]; exact hk) (nmOs_get hno ho)
    · have hno' : gs[n]? = none := by
        cases hg : gs[n]? with
        | none => rfl
        | some g =>
          have hlt : n < os.length := by rw [← hgl]; exact (List.getElem?_eq_some_iff.1 hg).1
          have ho : os[n]? = some os[n] := List.getElem?_eq_getElem hlt
          have := ofList_mem (blt_iff.1 hlen) ho
          rw [hn] at this; cases this
      have hl : lk ps0 n = none := by rw [hlk0]; exact hno'
      exact ⟨by simp only [ρl, hl]; rfl, by simp only [fpl, hl]⟩
    · obtain ⟨g, hg, hb⟩ := hfpl hb
      obtain ⟨g', hg', hb'⟩ := hfpl hb'
      have := hs.dis _ _ _ hb hb'
      subst this
      have a := lk_lkr hu0 hg
      have b := lk_lkr hu0 hg'
      rw [a] at b; cases b; rfl
  have hdl : Dens ρl largs args' := Dens.unren e0 _ hd hna
  refine (h.2 ρl fpl w args' hsl hdl).mono fun e w' hh => ?_
  obtain ⟨v, lh, ρl', fpl', x, ⟨news, mods, B⟩, rfl, dx, hsl', hsc⟩ := hh
  let ps := ps0 ++ news
  let hp' := sets (fun j => (lh.get j).map (rnO (pι ps))) mods hp
  have hu : uniq ps = true := B.uq
  let ρ' : Rho := fun n => match lkr ps n with | some j => ρl' j | none => ρ n
  let fp' : Nat → List Nat := fun n => match lkr ps n with | some j => fpl' j | none => fp n
  have e' : Tells (pd ps) (pι ps) ρl' ρ' := fun n p hn hp => by
    obtain ⟨g, hg⟩ := Option.isSome_iff_exists.1 hn
    have : pι ps n = g := by simp [pι, hg]
    rw [this]
    simp only [ρ', lk_lkr hu hg]; exact hp
  have hold : ∀ n, lkr ps n = none → hp'.get n = hp.get n := fun n hn => by
    simp only [hp']
    rw [sets_get B.um]
    cases hl : lkr mods n with
    | none => rfl
    | some j => have := lk_lkr hu (B.sub _ _ (lkr_lk B.um hl)); rw [hn] at this; cases this
  have hnew : ∀ {n j}, lkr ps n = some j → hp'.get n = (lh.get j).map (rnO (pι ps)) := fun {n j} hn => agree_lk B.ag (lkr_lk hu hn)
  -- where blocks of the callee's come from
  have howned : ∀ {j b}, b ∈ fpl' j → (∃ g, lkr ps g ≠ none ∧ b ∈ fp g) ∨ w.heap.size ≤ b := fun {j b} hb => by
    rcases hsc.own j b hb with ⟨i, hi⟩ | h
    · obtain ⟨g, hg, hb⟩ := hfpl hi
      refine .inl ⟨g, ?_, hb⟩
      have : lk ps i = some g := by simp only [ps, lk_append, hg]
      rw [lk_lkr hu this]; simp
    · exact .inr h
  have hkeep : ∀ n, lkr ps n = none → ∀ b, b ∈ fp n → w'.heap[b]? = w.heap[b]? := fun n hn b hb => by
    refine hsc.keep b (hs.lt hb) ?_
    rintro ⟨i, hi⟩
    obtain ⟨g, hg, hb'⟩ := hfpl hi
    have := hs.dis _ _ _ hb hb'
    subst this
    have : lk ps i = some n := by simp only [ps, lk_append, hg]
    rw [lk_lkr hu this] at hn; cases hn
  have hext : Ext ρ ρ' := fun n p hp => by
    cases hl : lkr ps n with
    | none => simp only [ρ', hl]; exact hp
    | some j =>
      simp only [ρ', hl]
      have hlk := lkr_lk hu hl
      simp only [ps, lk_append] at hlk
      cases h0 : lk ps0 j with
      | some g =>
        rw [h0] at hlk; cases hlk
        exact hsc.ext j p (by simp only [ρl, h0, Option.bind_some]; exact hp)
      | none =>
        rw [h0] at hlk
        have hun : lkr news n = some j := by
          have hl' := hl
          simp only [ps, lkr_append] at hl'
          cases h1 : lkr ps0 n with
          | some i => rw [h1] at hl'; cases hl'; have := lkr_lk hu0 h1; rw [h0] at this; cases this
          | none => rw [h1] at hl'; exact hl'
        have := (hs.dom n (free_lkr B.fr hun)).1
        rw [this] at hp; cases hp
  refine ⟨rn (pι ps) v, hp', ρ', fp', x, B.k, rfl, dx.ren e' B.nv, ⟨fun n o hn => ?_, fun n hn => ?_, fun n n' b hb hb' => ?_, fun b ob hb => ⟨(hsl'.fz b ob hb).1, fun n hn => ?_⟩⟩, ⟨hsc.os, hsc.tape, hsc.output, hsc.size, fun b hb hF => ?_, fun n b hb => ?_, hext⟩⟩
  · cases hl : lkr ps n with
    | none =>
      rw [hold n hl] at hn
      have := (hs.ok n o hn).mono hext (w' := w') (fun b ob hb _ => (hsl'.fz b ob hb).1) (hkeep n hl)
      simpa only [fp', hl] using this
    | some j =>
      rw [hnew hl] at hn
      cases hx : lh.get j with
      | none => rw [hx] at hn; cases hn
      | some u =>
        rw [hx] at hn; simp at hn; subst hn
        have hlk := lkr_lk hu hl
        have := okO.ren e' (n := j) (by simp [pd, hlk]) (hsl'.ok j u hx) (nmAll_lk B.nO hlk hx)
        rw [show pι ps j = n by simp [pι, hlk]] at this
        simpa only [fp', hl] using this
  · cases hl : lkr ps n with
    | none => rw [hold n hl] at hn; simp only [ρ', fp', hl]; exact hs.dom n hn
    | some j =>
      rw [hnew hl] at hn
      simp only [Option.map_eq_none_iff] at hn
      simp only [ρ', fp', hl]; exact hsl'.dom j hn
  · cases hl : lkr ps n with
    | none =>
      simp only [fp', hl] at hb
      cases hl' : lkr ps n' with
      | none => simp only [fp', hl'] at hb'; exact hs.dis _ _ _ hb hb'
      | some j' =>
        simp only [fp', hl'] at hb'
        rcases howned hb' with ⟨g, hg, hbg⟩ | hge
        · have := hs.dis _ _ _ hb hbg; subst this; exact absurd hl hg
        · have := hs.lt hb; omega
    | some j =>
      simp only [fp', hl] at hb
      cases hl' : lkr ps n' with
      | none =>
        simp only [fp', hl'] at hb'
        rcases howned hb with ⟨g, hg, hbg⟩ | hge
        · have := hs.dis _ _ _ hb' hbg; subst this; exact absurd hl' hg
        · have := hs.lt hb'; omega
      | some j' =>
        simp only [fp', hl'] at hb'
        have := hsl'.dis _ _ _ hb hb'
        subst this
        have a := lkr_lk hu hl
        have b := lkr_lk hu hl'
        rw [a] at b; cases b; rfl
  · cases hl : lkr ps n with
    | none => simp only [fp', hl] at hn; exact (hs.fz b ob hb).2 n hn
    | some j => simp only [fp', hl] at hn; exact (hsl'.fz b ob hb).2 j hn
  · refine hsc.keep b hb ?_
    rintro ⟨i, hi⟩
    obtain ⟨g, _, hb'⟩ := hfpl hi
    exact hF ⟨g, hb'⟩
  · cases hl : lkr ps n with
    | none => simp only [fp', hl] at hb; exact .inl ⟨n, hb⟩
    | some j =>
      simp only [fp', hl] at hb
      rcases howned hb with ⟨g, _, hbg⟩ | hge
      · exact .inl ⟨g, hbg⟩
      · exact .inr hge
/-! ### Ranges of what lies in the objects -/
def RgO : AO O → Prop
  | .cells _ l room => rgs l = true ∧ l.length ≤ room
  | .rows _ sh xs room => (∀ x ∈ xs, rgs (encR x 0 sh) = true) ∧ xs.length * sh.length ≤ room
  | .out _ sh xs => ∀ x ∈ xs, rgs (encR x 0 sh) = true
  | .mp ms es _ => ∀ e ∈ es, okE ms e.1 = true
  | .ch _ sh xs => ∀ x ∈ xs, okS x 0 sh = true
  | _ => True
def RgOs : List (AO O) → Prop
  | [] => True
  | o :: l => RgO o ∧ RgOs l
theorem rgs_of : ∀ {l : List AV}, (∀ (i : Nat) (v : AV), l[i]? = some v → rg v = true) → rgs l = true
  | [], _ => rfl
  | v :: l, h => by
    simp only [rgs, Bool.and_eq_true]
    exact ⟨h 0 v rfl, rgs_of fun i u hu => h (i + 1) u (by simpa using hu)⟩
theorem okO_rg {ρ : Rho} {n : Nat} {fp : List Nat} {w : World} {o : AO O} (h : okO I ρ n fp w o) : RgO o := by
  cases o with
  | cells t l room =>
    obtain ⟨b, z, arr, h1, h2, h3, h4, h5, h6⟩ := h
    exact ⟨rgs_of fun i v hv => let ⟨x, _, dx⟩ := h6 i v hv; rg_den dx, h5⟩
  | rows t sh xs room =>
    obtain ⟨b, z, arr, h1, h2, h3, h4, h5, h6⟩ := h
    refine ⟨fun x hx => rgs_of fun j v hv => ?_, h5⟩
    obtain ⟨i, hi⟩ := List.mem_iff_getElem?.1 hx
    have hj : j < sh.length := by
      have := (List.getElem?_eq_some_iff.1 hv).1
      rwa [encR_length] at this
    have := encL_get hi hj
    rw [hv] at this
    obtain ⟨y, _, dy⟩ := h6 _ v this
    exact rg_den dy
  | out ob sh xs =>
    obtain ⟨b, z, arr, t, q, h1, h2, h3, h4, h6⟩ := h
    refine fun x hx => rgs_of fun j v hv => ?_
    obtain ⟨i, hi⟩ := List.mem_iff_getElem?.1 hx
    have hj : j < sh.length := by
      have := (List.getElem?_eq_some_iff.1 hv).1
      rwa [encR_length] at this
    have := encL_get hi hj
    rw [hv] at this
    obtain ⟨y, _, dy⟩ := h6 _ v this
    exact rg_den dy
  | mp ms es clk => obtain ⟨b, es', h1, h2, h3, h4⟩ := h; exact h4.2
  | ch cap sh xs => obtain ⟨b, buf', s, r, h1, h2, h3, h4⟩ := h; exact h4.2
  | _ => trivial
theorem RgOs_of : ∀ {l : List (AO O)}, (∀ (i : Nat) (v : AO O), l[i]? = some v → RgO v) → RgOs l
  | [], _ => trivial
  | v :: l, h => ⟨h 0 v rfl, RgOs_of fun i u hu => h (i + 1) u (by simpa using hu)⟩
/-- A function that is handed memory, by its body. -/
theorem hcall (hmix : P.follows .mixedOrders = true) {Γ : Gam O} (hΓ : GOk I P Γ) {f : FuncId} {fn : Func} (hf : P.funcs[f]? = some fn) (hname : (fn.name == "runtime.NumGoroutine") = false) (hb : fn.body.isSome = true)
    (gs : List Nat) (os : List (AO O)) (largs : List AV) {hp : Tr (AO O)} {K : AV → Tr (AO O) → Prop}
    (hn : Nat.blt largs.length 16777215 = true) (hu0 : uniq (pairs 0 gs) = true) (hlen : Nat.blt os.length 16777215 = true) (hheld : held hp (pι (pairs 0 gs)) gs os) (hno : nmOs (pd (pairs 0 gs)) os = true) (hna : nms (pd (pairs 0 gs)) largs = true)
    (h : rgs largs = true → RgOs os → abody I P Γ (adraw P Γ) os.length fn largs (Tr.ofList 0 os .leaf) os.length (fun v lh _ => ∃ news mods, Back hp gs lh v news mods K)) : ACall I P f (rns (pι (pairs 0 gs)) largs) hp K := by
  refine lift_h gs os largs hu0 hlen hheld hno hna (ACall.of_rg (callable hf hname hb) fun hr => ⟨callable hf hname hb, fun ρ fp w args' hs hd => ?_⟩)
  have hro : RgOs os := RgOs_of fun i o ho => okO_rg (hs.ok i o (ofList_mem (blt_iff.1 hlen) ho))
  have hm : ∀ n, os.length ≤ n → (Tr.ofList 0 os .leaf).get n = none := fun n hn => by
    cases hg : (Tr.ofList 0 os .leaf).get n with
    | none => rfl
    | some o => have := ofList_get0 (blt_iff.1 hlen) hg; have := (List.getElem?_eq_some_iff.1 this).1; omega
  refine ((body_call hΓ (adraw_ok hmix hΓ) hf (callable hf hname hb) hm hn (h hr hro)).2 ρ fp w args' hs hd).mono fun e w' hh => ?_
  obtain ⟨v, hp', ρ', fp', x, ⟨nx', hk⟩, r⟩ := hh
  exact ⟨v, hp', ρ', fp', x, hk, r⟩
end Go.Tb
