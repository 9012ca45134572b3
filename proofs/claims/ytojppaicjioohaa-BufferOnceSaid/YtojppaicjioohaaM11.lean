/- Names changed, what is no more asked forgotten: between rounds of a loop, and at calls of functions that are handed memory. -/
import Derived.Test.YtojppaicjioohaaM10
set_option linter.all false
namespace Go.Tb
open Go
variable {O : Type} {P : Program} {I : Interp O}

/-! ### Other names -/
mutual
def rn (ι : Nat → Nat) : AV → AV
  | .ptr n o => .ptr (ι n) o
  | .ep n o z i j => .ep (ι n) o z i j
  | .sl n o l c => .sl (ι n) o l c
  | .map n => .map (ι n)
  | .chan n => .chan (ι n)
  | .sd n z lo l c k => .sd (ι n) z lo l c k
  | .slq n l c q => .slq (ι n) l c q
  | .chanP n b => .chanP (ι n) b
  | .mapP n b => .mapP (ι n) b
  | .pv q z l c => .pv q z l c
  | .fn f a b => .fn f (rns ι a) (rns ι b)
  | .iface t v => .iface t (rn ι v)
  | .agg l => .agg (rns ι l)
  | .tup l => .tup (rns ι l)
  | .bool b => .bool b
  | .int k n => .int k n
  | .str s => .str s
  | .nilp => .nilp
  | .nils => .nils
  | .nilm => .nilm
  | .nilc => .nilc
  | .nilf => .nilf
  | .nili => .nili
def rns (ι : Nat → Nat) : List AV → List AV
  | [] => []
  | v :: l => rn ι v :: rns ι l
end
mutual
def nm (d : Nat → Bool) : AV → Bool
  | .ptr n _ => d n
  | .ep n _ _ _ _ => d n
  | .sl n _ _ _ => d n
  | .map n => d n
  | .chan n => d n
  | .sd n _ _ _ _ _ => d n
  | .slq n _ _ _ => d n
  | .chanP n _ => d n
  | .mapP n _ => d n
  | .fn _ a b => nms d a && nms d b
  | .iface _ v => nm d v
  | .agg l => nms d l
  | .tup l => nms d l
  | _ => true
def nms (d : Nat → Bool) : List AV → Bool
  | [] => true
  | v :: l => nm d v && nms d l
end
/-- What the one names tell, the other ones tell, too. -/
def Tells (d : Nat → Bool) (ι : Nat → Nat) (ρ ρ' : Rho) : Prop := ∀ n p, d n = true → ρ n = some p → ρ' (ι n) = some p
mutual
theorem Den.ren {d : Nat → Bool} {ι : Nat → Nat} {ρ ρ' : Rho} (e : Tells d ι ρ ρ') {v : AV} {x : Value} (h : Den ρ v x) (hn : nm d v = true) : Den ρ' (rn ι v) x := by
  cases h with
  | bool b => exact .bool b
  | int k n h => exact .int k n h
  | str s h => exact .str s h
  | ptr o h => exact .ptr o (e _ _ hn h)
  | ep o zz i j h => exact .ep o zz i j (e _ _ hn h)
  | nilp => exact .nilp
  | sl o l c h hl hc => exact .sl o l c (e _ _ hn h) hl hc
  | nils => exact .nils
  | map h => exact .map (e _ _ hn h)
  | nilm => exact .nilm
  | chan h => exact .chan (e _ _ hn h)
  | nilc => exact .nilc
  | sd zz lo l c k h hl hc hk => exact .sd zz lo l c k (e _ _ hn h) hl hc hk
  | slq1 l c h hl hc => exact .slq1 l c (e _ _ hn h) hl hc
  | slq0 n => exact .slq0 _
  | chanP n b => exact .chanP _ b
  | mapP n b => exact .mapP _ b
  | pv0 => exact .pv0
  | pv1 b z l c hl hc => exact .pv1 b z l c hl hc
  | fn f ha hb => simp only [nm, Bool.and_eq_true] at hn; exact .fn f (Dens.ren e ha hn.1) (Dens.ren e hb hn.2)
  | nilf => exact .nilf
  | iface t h => exact .iface t (Den.ren e h hn)
  | nili => exact .nili
  | agg h => exact .agg (Dens.ren e h hn)
  | tup h => exact .tup (Dens.ren e h hn)
theorem Dens.ren {d : Nat → Bool} {ι : Nat → Nat} {ρ ρ' : Rho} (e : Tells d ι ρ ρ') {l : List AV} {l' : List Value} (h : Dens ρ l l') (hn : nms d l = true) : Dens ρ' (rns ι l) l' := by
  cases h with
  | nil => exact .nil
  | cons h t => simp only [nms, Bool.and_eq_true] at hn; exact .cons (Den.ren e h hn.1) (Dens.ren e t hn.2)
end
mutual
theorem Den.unren {d : Nat → Bool} {ι : Nat → Nat} {ρ ρ' : Rho} (e : ∀ n p, d n = true → ρ' (ι n) = some p → ρ n = some p) : ∀ (v : AV) {x : Value}, Den ρ' (rn ι v) x → nm d v = true → Den ρ v x
  | .bool _, _, h, _ => by cases h; exact .bool _
  | .int _ _, _, h, _ => by cases h; exact .int _ _ (by assumption)
  | .str _, _, h, _ => by cases h; exact .str _ (by assumption)
  | .ptr _ _, _, h, hn => by cases h with | ptr _ h => exact .ptr _ (e _ _ hn h)
  | .ep _ _ _ _ _, _, h, hn => by cases h with | ep _ _ _ _ h => exact .ep _ _ _ _ (e _ _ hn h)
  | .nilp, _, h, _ => by cases h; exact .nilp
  | .sl _ _ _ _, _, h, hn => by cases h with | sl _ _ _ h hl hc => exact .sl _ _ _ (e _ _ hn h) hl hc
  | .nils, _, h, _ => by cases h; exact .nils
  | .map _, _, h, hn => by cases h with | map h => exact .map (e _ _ hn h)
  | .nilm, _, h, _ => by cases h; exact .nilm
  | .chan _, _, h, hn => by cases h with | chan h => exact .chan (e _ _ hn h)
  | .nilc, _, h, _ => by cases h; exact .nilc
  | .sd _ _ _ _ _ _, _, h, hn => by cases h with | sd _ _ _ _ _ h hl hc hk => exact .sd _ _ _ _ _ (e _ _ hn h) hl hc hk
  | .slq _ _ _ _, _, h, hn => by cases h with | slq1 _ _ h hl hc => exact .slq1 _ _ (e _ _ hn h) hl hc | slq0 => exact .slq0 _
  | .chanP _ _, _, h, _ => by cases h; exact .chanP _ _
  | .mapP _ _, _, h, _ => by cases h; exact .mapP _ _
  | .pv _ _ _ _, _, h, _ => cl_den h rfl
  | .fn _ a b, _, h, hn => by simp only [nm, Bool.and_eq_true] at hn; cases h with | fn _ ha hb => exact .fn _ (Dens.unren e a ha hn.1) (Dens.unren e b hb hn.2)
  | .nilf, _, h, _ => by cases h; exact .nilf
  | .iface _ v, _, h, hn => by cases h with | iface _ h => exact .iface _ (Den.unren e v h hn)
  | .nili, _, h, _ => by cases h; exact .nili
  | .agg l, _, h, hn => by cases h with | agg h => exact .agg (Dens.unren e l h hn)
  | .tup l, _, h, hn => by cases h with | tup h => exact .tup (Dens.unren e l h hn)
theorem Dens.unren {d : Nat → Bool} {ι : Nat → Nat} {ρ ρ' : Rho} (e : ∀ n p, d n = true → ρ' (ι n) = some p → ρ n = some p) : ∀ (l : List AV) {l' : List Value}, Dens ρ' (rns ι l) l' → nms d l = true → Dens ρ l l'
  | [], _, h, _ => by cases h; exact .nil
  | v :: l, _, h, hn => by simp only [nms, Bool.and_eq_true] at hn; cases h with | cons h t => exact .cons (Den.unren e v h hn.1) (Dens.unren e l t hn.2)
end
theorem rns_get (ι : Nat → Nat) : ∀ (l : List AV) (i : Nat), (rns ι l)[i]? = (l[i]?).map (rn ι)
  | [], _ => rfl
  | _ :: _, 0 => rfl
  | _ :: l, i + 1 => by simpa [rns] using rns_get ι l i
theorem rns_length (ι : Nat → Nat) : ∀ (l : List AV), (rns ι l).length = l.length
  | [] => rfl
  | _ :: l => by simp [rns, rns_length ι l]
theorem nms_get {d : Nat → Bool} : ∀ {l : List AV}, nms d l = true → ∀ {i : Nat} {v : AV}, l[i]? = some v → nm d v = true
  | [], _, i, v, h => by simp at h
  | u :: l, hn, 0, v, h => by simp only [nms, Bool.and_eq_true] at hn; simp at h; subst h; exact hn.1
  | u :: l, hn, i + 1, v, h => by simp only [nms, Bool.and_eq_true] at hn; exact nms_get hn.2 (by simpa using h)
def rnO (ι : Nat → Nat) : AO O → AO O
  | .cells t l room => .cells t (rns ι l) room
  | .rows t sh xs room => .rows t sh xs room
  | .out ob sh xs => .out ob sh xs
  | .mp ms es clk => .mp ms es clk
  | .it m since seen last cur => .it (ι m) since seen last cur
  | .itn => .itn
  | .kb t v => .kb t (rn ι v)
  | .pm hid foc => match foc with | some (k, v) => .pm hid (some (k, rn ι v)) | none => .pm hid none
  | .ch cap sh xs => .ch cap sh xs
  | .own s => .own s
  | .pg t f => .pg t f
  | .gone => .gone
def nmO (d : Nat → Bool) : AO O → Bool
  | .cells _ l _ => nms d l
  | .it m _ _ _ _ => d m
  | .kb _ v => nm d v
  | .pm _ foc => match foc with | some (_, v) => nm d v | none => true
  | _ => true
theorem encS_clo (x : Rw) (j : Nat) (s : Sh) : ∀ {ρ ρ' : Rho} {y : Value}, Den ρ (encS x j s) y → Den ρ' (encS x j s) y := by
  intro ρ ρ' y h
  exact cl_den h (by cases s <;> rfl)
theorem encL_clo {sh : List Sh} {xs : List Rw} {k : Nat} {v : AV} (h : (encL sh xs)[k]? = some v) {ρ ρ' : Rho} {y : Value} (hd : Den ρ v y) : Den ρ' v y := by
  have : ∃ x j s, v = encS x j s := by
    have hm := List.mem_of_getElem? h
    simp only [encL, List.mem_flatMap] at hm
    obtain ⟨x, _, hx⟩ := hm
    obtain ⟨i, hi⟩ := List.mem_iff_getElem?.1 hx
    rw [encR_get] at hi
    cases hs : sh[i]? with
    | none => rw [hs] at hi; simp at hi
    | some s => rw [hs] at hi; simp at hi; exact ⟨x, i, s, hi.symm⟩
  obtain ⟨x, j, s, rfl⟩ := this
  exact encS_clo x j s hd
theorem okO.ren {d : Nat → Bool} {ι : Nat → Nat} {ρ ρ' : Rho} (e : Tells d ι ρ ρ') {n : Nat} {fp : List Nat} {w : World} {o : AO O} (hd : d n = true) (h : okO I ρ n fp w o) (hn : nmO d o = true) : okO I ρ' (ι n) fp w (rnO ι o) := by
  cases o with
  | cells t l room =>
    obtain ⟨b, z, arr, h1, h2, h3, h4, h5, h6⟩ := h
    refine ⟨b, z, arr, e _ _ hd h1, h2, h3, h4, by rw [rns_length]; exact h5, fun i v hv => ?_⟩
    rw [rns_get] at hv
    cases hl : l[i]? with
    | none => rw [hl] at hv; cases hv
    | some u =>
      rw [hl] at hv; simp at hv; subst hv
      obtain ⟨x, hx, dx⟩ := h6 i u hl
      exact ⟨x, hx, dx.ren e (nms_get hn hl)⟩
  | rows t sh xs room =>
    obtain ⟨b, z, arr, h1, h2, h3, h4, h5, h6⟩ := h
    exact ⟨b, z, arr, e _ _ hd h1, h2, h3, h4, h5, fun i v hv => let ⟨x, hx, dx⟩ := h6 i v hv; ⟨x, hx, encL_clo hv dx⟩⟩
  | out ob sh xs =>
    obtain ⟨b, z, arr, t, q, h1, h2, h3, h4, h6⟩ := h
    exact ⟨b, z, arr, t, q, e _ _ hd h1, h2, h3, h4, fun i v hv => let ⟨x, hx, dx⟩ := h6 i v hv; ⟨x, hx, encL_clo hv dx⟩⟩
  | mp ms es clk =>
    obtain ⟨b, es', h1, h2, h3, h4⟩ := h
    exact ⟨b, es', e _ _ hd h1, h2, h3, h4⟩
  | it m since seen last cur =>
    obtain ⟨b, bm, zm, h1, h2, h3, h4⟩ := h
    exact ⟨b, bm, zm, e _ _ hd h1, e _ _ hn h2, h3, h4⟩
  | itn =>
    obtain ⟨b, h1, h2, h3⟩ := h
    exact ⟨b, e _ _ hd h1, h2, h3⟩
  | kb t v =>
    obtain ⟨b, x, h1, h2, h3, h4⟩ := h
    exact ⟨b, x, e _ _ hd h1, h2, h3, h4.ren e hn⟩
  | pm hid foc =>
    obtain ⟨b, es, clk, esF, esH, fpH, h1, h2, h3, h4, h5, h6, h7, h8⟩ := h
    cases foc with
    | none => exact ⟨b, es, clk, esF, esH, fpH, e _ _ hd h1, h2, h3, h4, h5, h6, h7, h8⟩
    | some p =>
      obtain ⟨k, v⟩ := p
      obtain ⟨x, bn, q1, q2, q3⟩ := h6
      exact ⟨b, es, clk, esF, esH, fpH, e _ _ hd h1, h2, h3, h4, h5, ⟨x, bn, q1, q2, q3.ren e hn⟩, h7, h8⟩
  | ch cap sh xs =>
    obtain ⟨b, buf', s, r, h1, h2, h3, h4⟩ := h
    exact ⟨b, buf', s, r, e _ _ hd h1, h2, h3, h4⟩
  | own s => obtain ⟨b, h1, h2⟩ := h; exact ⟨b, e _ _ hd h1, h2⟩
  | pg t f => exact ⟨h.1, fun x hx => let ⟨arr, h1, h2, h3, h4⟩ := h.2 x hx; ⟨arr, h1, h2, h3, fun i v hv => let ⟨y, hy, dy⟩ := h4 i v hv; ⟨y, hy, encL_clo hv dy⟩⟩⟩
  | gone => exact h
theorem okO.unren {d : Nat → Bool} {ι : Nat → Nat} {ρ ρ' : Rho} (e : ∀ n p, d n = true → ρ' (ι n) = some p → ρ n = some p) {n : Nat} {fp : List Nat} {w : World} {o : AO O} (hd : d n = true) (h : okO I ρ' (ι n) fp w (rnO ι o)) (hn : nmO d o = true) : okO I ρ n fp w o := by
  cases o with
  | cells t l room =>
    obtain ⟨b, z, arr, h1, h2, h3, h4, h5, h6⟩ := h
    refine ⟨b, z, arr, e _ _ hd h1, h2, h3, h4, by rwa [rns_length] at h5, fun i v hv => ?_⟩
    obtain ⟨x, hx, dx⟩ := h6 i (rn ι v) (by rw [rns_get, hv]; rfl)
    exact ⟨x, hx, Den.unren e _ dx (nms_get hn hv)⟩
  | rows t sh xs room =>
    obtain ⟨b, z, arr, h1, h2, h3, h4, h5, h6⟩ := h
    exact ⟨b, z, arr, e _ _ hd h1, h2, h3, h4, h5, fun i v hv => let ⟨x, hx, dx⟩ := h6 i v hv; ⟨x, hx, encL_clo hv dx⟩⟩
  | out ob sh xs =>
    obtain ⟨b, z, arr, t, q, h1, h2, h3, h4, h6⟩ := h
    exact ⟨b, z, arr, t, q, e _ _ hd h1, h2, h3, h4, fun i v hv => let ⟨x, hx, dx⟩ := h6 i v hv; ⟨x, hx, encL_clo hv dx⟩⟩
  | mp ms es clk =>
    obtain ⟨b, es', h1, h2, h3, h4⟩ := h
    exact ⟨b, es', e _ _ hd h1, h2, h3, h4⟩
  | it m since seen last cur =>
    obtain ⟨b, bm, zm, h1, h2, h3, h4⟩ := h
    exact ⟨b, bm, zm, e _ _ hd h1, e _ _ hn h2, h3, h4⟩
  | itn =>
    obtain ⟨b, h1, h2, h3⟩ := h
    exact ⟨b, e _ _ hd h1, h2, h3⟩
  | kb t v =>
    obtain ⟨b, x, h1, h2, h3, h4⟩ := h
    exact ⟨b, x, e _ _ hd h1, h2, h3, Den.unren e _ h4 hn⟩
  | pm hid foc =>
    cases foc with
    | none =>
      obtain ⟨b, es, clk, esF, esH, fpH, h1, h2, h3, h4, h5, h6, h7, h8⟩ := h
      exact ⟨b, es, clk, esF, esH, fpH, e _ _ hd h1, h2, h3, h4, h5, h6, h7, h8⟩
    | some p =>
      obtain ⟨k, v⟩ := p
      obtain ⟨b, es, clk, esF, esH, fpH, h1, h2, h3, h4, h5, h6, h7, h8⟩ := h
      obtain ⟨x, bn, q1, q2, q3⟩ := h6
      exact ⟨b, es, clk, esF, esH, fpH, e _ _ hd h1, h2, h3, h4, h5, ⟨x, bn, q1, q2, Den.unren e _ q3 hn⟩, h7, h8⟩
  | ch cap sh xs =>
    obtain ⟨b, buf', s, r, h1, h2, h3, h4⟩ := h
    exact ⟨b, buf', s, r, e _ _ hd h1, h2, h3, h4⟩
  | own s => obtain ⟨b, h1, h2⟩ := h; exact ⟨b, e _ _ hd h1, h2⟩
  | pg t f => exact ⟨h.1, fun x hx => let ⟨arr, h1, h2, h3, h4⟩ := h.2 x hx; ⟨arr, h1, h2, h3, fun i v hv => let ⟨y, hy, dy⟩ := h4 i v hv; ⟨y, hy, encL_clo hv dy⟩⟩⟩
  | gone => exact h

/-! ### Tables, entry by entry -/
namespace Tr
variable {α : Type}
def nd (l : Tr α) (v : Option α) (r : Tr α) : Tr α := match l, v, r with
  | .leaf, none, .leaf => .leaf
  | l, v, r => .node l v r
theorem nd_get (l : Tr α) (v : Option α) (r : Tr α) (n : Nat) : (nd l v r).get n = (Tr.node l v r).get n := by
  unfold nd
  split
  · cases n with
    | zero => rfl
    | succ n => simp only [get]; cases Nat.beq (Nat.mod n 2) 0 <;> rfl
  · rfl
/-- i: the number of the node whose first numbers are a·j + b. -/
def mapi (f : Nat → α → Option α) : (Nat → Nat) → Tr α → Tr α
  | _, .leaf => .leaf
  | k, .node l v r => nd (mapi f (fun j => k (2 * j + 1)) l) (match v with | some x => f (k 0) x | none => none) (mapi f (fun j => k (2 * j + 2)) r)
theorem mapi_get (f : Nat → α → Option α) : ∀ (t : Tr α) (k : Nat → Nat) (n : Nat), (mapi f k t).get n = (t.get n).bind (f (k n))
  | .leaf, _, _ => rfl
  | .node l v r, k, n => by
    simp only [mapi, nd_get]
    cases n with
    | zero => simp only [get]; cases v <;> rfl
    | succ n =>
      simp only [get]
      cases hb : Nat.beq (Nat.mod n 2) 0 with
      | true =>
        simp only [mapi_get f l]
        have : n % 2 = 0 := Nat.eq_of_beq_eq_true hb
        have hd : Nat.div n 2 = n / 2 := rfl
        rw [show 2 * Nat.div n 2 + 1 = n + 1 by omega]
      | false =>
        simp only [mapi_get f r]
        have h0 : n % 2 ≠ 0 := Nat.ne_of_beq_eq_false hb
        have hd : Nat.div n 2 = n / 2 := rfl
        rw [show 2 * Nat.div n 2 + 2 = n + 1 by omega]
def all (f : Nat → α → Bool) : (Nat → Nat) → Tr α → Bool
  | _, .leaf => true
  | k, .node l v r => (match v with | some x => f (k 0) x | none => true) && (all f (fun j => k (2 * j + 1)) l && all f (fun j => k (2 * j + 2)) r)
theorem all_get (f : Nat → α → Bool) : ∀ (t : Tr α) (k : Nat → Nat), all f k t = true → ∀ (n : Nat) (x : α), t.get n = some x → f (k n) x = true
  | .leaf, _, _, _, _, h => by cases h
  | .node l v r, k, ha, n, x, h => by
    simp only [all, Bool.and_eq_true] at ha
    cases n with
    | zero => simp only [get] at h; subst h; exact ha.1
    | succ n =>
      simp only [get] at h
      cases hb : Nat.beq (Nat.mod n 2) 0 with
      | true =>
        rw [hb] at h
        have : n % 2 = 0 := Nat.eq_of_beq_eq_true hb
        have hd : Nat.div n 2 = n / 2 := rfl
        have := all_get f l _ ha.2.1 _ x h
        rwa [show 2 * Nat.div n 2 + 1 = n + 1 by omega] at this
      | false =>
        rw [hb] at h
        have h0 : n % 2 ≠ 0 := Nat.ne_of_beq_eq_false hb
        have hd : Nat.div n 2 = n / 2 := rfl
        have := all_get f r _ ha.2.2 _ x h
        rwa [show 2 * Nat.div n 2 + 2 = n + 1 by omega] at this
def setL : List (Nat × α) → Tr α → Tr α
  | [], t => t
  | (i, x) :: l, t => setL l (t.set i (some x))
end Tr
/-- What a round leads to: X behind it, K elsewhere. -/
def lpc (X : St O → Prop) (K : Kt O) : Kt O := fun e s => match e with | .normal => X s | e => K e s
theorem lpost_lpc (m : Nat) (X : St O → Prop) (K : Kt O) : lpost I m X K = lpc (fun s => ∃ s', Weak I m s s' ∧ X s') K := by
  funext e s; cases e <;> rfl

/-! ### Pairs of names -/
def lk : List (Nat × Nat) → Nat → Option Nat
  | [], _ => none
  | (j, g) :: l, n => match Nat.beq j n with | true => some g | false => lk l n
def lkr : List (Nat × Nat) → Nat → Option Nat
  | [], _ => none
  | (j, g) :: l, n => match Nat.beq g n with | true => some j | false => lkr l n
/-- No name twice; all new ones below the bound. -/
def uniq : List (Nat × Nat) → Bool
  | [] => true
  | (j, g) :: l => Nat.blt g 16777215 && ((lk l j).isNone && ((lkr l g).isNone && uniq l))
theorem lk_lkr : ∀ {l : List (Nat × Nat)}, uniq l = true → ∀ {j g : Nat}, lk l j = some g → lkr l g = some j
  | [], _, _, _, h => by cases h
  | (j', g') :: l, hu, j, g, h => by
    simp only [uniq, Bool.and_eq_true] at hu
    simp only [lk] at h
    simp only [lkr]
    cases hb : Nat.beq j' j with
    | true => rw [hb] at h; cases h; have := Nat.eq_of_beq_eq_true hb; subst this; simp [show Nat.beq g' g' = true from Nat.beq_refl g']
    | false =>
      rw [hb] at h
      have ih := lk_lkr hu.2.2.2 h
      cases hg : Nat.beq g' g with
      | true => have := Nat.eq_of_beq_eq_true hg; subst this; rw [ih] at hu; simp at hu
      | false => exact ih
theorem lkr_lk : ∀ {l : List (Nat × Nat)}, uniq l = true → ∀ {j g : Nat}, lkr l g = some j → lk l j = some g
  | [], _, _, _, h => by cases h
  | (j', g') :: l, hu, j, g, h => by
    simp only [uniq, Bool.and_eq_true] at hu
    simp only [lkr] at h
    simp only [lk]
    cases hb : Nat.beq g' g with
    | true => rw [hb] at h; cases h; have := Nat.eq_of_beq_eq_true hb; subst this; simp [show Nat.beq j' j' = true from Nat.beq_refl j']
    | false =>
      rw [hb] at h
      have ih := lkr_lk hu.2.2.2 h
      cases hg : Nat.beq j' j with
      | true => have := Nat.eq_of_beq_eq_true hg; subst this; rw [ih] at hu; simp at hu
      | false => exact ih
/-- All of the pairs laid down: what lies at the old name comes to the new one. -/
def sets {α : Type} (f : Nat → Option α) : List (Nat × Nat) → Tr α → Tr α
  | [], t => t
  | (j, g) :: l, t => (sets f l t).set g (f j)
theorem sets_get {α : Type} {f : Nat → Option α} : ∀ {l : List (Nat × Nat)}, uniq l = true → ∀ (t : Tr α) (n : Nat), (sets f l t).get n = match lkr l n with | some j => f j | none => t.get n
  | [], _, _, _ => rfl
  | (j, g) :: l, hu, t, n => by
    simp only [uniq, Bool.and_eq_true] at hu
    simp only [sets, lkr]
    cases hb : Nat.beq g n with
    | true => have := Nat.eq_of_beq_eq_true hb; subst this; exact Tr.get_set_eq hu.1
    | false => rw [Tr.get_set_ne (Nat.ne_of_beq_eq_false hb)]; exact sets_get hu.2.2.2 t n

/-! ### Between rounds -/
def gι (m : Nat) (ps : List (Nat × Nat)) (n : Nat) : Nat := match Nat.blt n m with | true => n | false => match lk ps n with | some g => g | none => 0
def gd (m : Nat) (ps : List (Nat × Nat)) (n : Nat) : Bool := match Nat.blt n m with | true => true | false => (lk ps n).isSome
def gr (m : Nat) (ps : List (Nat × Nat)) (n : Nat) : Option Nat := match Nat.blt n m with | true => some n | false => lkr ps n
def geAll (m : Nat) : List (Nat × Nat) → Bool
  | [] => true
  | (j, g) :: l => Nat.ble m j && (Nat.ble m g && geAll m l)
theorem geAll_lk {m : Nat} : ∀ {l : List (Nat × Nat)}, geAll m l = true → ∀ {j g : Nat}, lk l j = some g → m ≤ j ∧ m ≤ g
  | [], _, _, _, h => by cases h
  | (j', g') :: l, ha, j, g, h => by
    simp only [geAll, Bool.and_eq_true, Nat.ble_eq] at ha
    simp only [lk] at h
    cases hb : Nat.beq j' j with
    | true => rw [hb] at h; cases h; have := Nat.eq_of_beq_eq_true hb; subst this; exact ⟨ha.1, ha.2.1⟩
    | false => rw [hb] at h; exact geAll_lk ha.2.2 h
def memB : List Nat → Nat → Bool
  | [], _ => false
  | x :: l, n => match Nat.beq x n with | true => true | false => memB l n
def gcH (m : Nat) (ps : List (Nat × Nat)) (h : Tr (AO O)) : Tr (AO O) :=
  sets (fun j => (h.get j).map (rnO (gι m ps))) ps (Tr.mapi (fun n o => match Nat.blt n m with | true => some (rnO (gι m ps) o) | false => none) (fun j => j) h)
def gc (m : Nat) (ps : List (Nat × Nat)) (ts : List Nat) (nx : Nat) (s : St O) : St O :=
  ⟨Tr.mapi (fun t v => match memB ts t with | true => some (rn (gι m ps) v) | false => none) (fun j => j) s.tm, gcH m ps s.hp, nx, s.sz⟩
def gcOk (m : Nat) (ps : List (Nat × Nat)) (ts : List Nat) (s : St O) : Bool :=
  uniq ps && (geAll m ps && (Tr.all (fun n o => match gd m ps n with | true => nmO (gd m ps) o | false => true) (fun j => j) s.hp &&
    Tr.all (fun t v => match memB ts t with | true => nm (gd m ps) v | false => true) (fun j => j) s.tm))
theorem gcH_get {m : Nat} {ps : List (Nat × Nat)} {h : Tr (AO O)} (hu : uniq ps = true) (hg : geAll m ps = true) (n : Nat) : (gcH m ps h).get n = (gr m ps n).bind fun j => (h.get j).map (rnO (gι m ps)) := by
  unfold gcH gr
  rw [sets_get hu, Tr.mapi_get]
  cases hb : Nat.blt n m with
  | true =>
    have hn : lkr ps n = none := by
      cases hl : lkr ps n with
      | none => rfl
      | some j => have h1 := (geAll_lk hg (lkr_lk hu hl)).2; have h2 : n + 1 ≤ m := (by simpa [Nat.blt] using hb); exact absurd h1 (by omega)
    simp only [hn, Option.bind_some]
    cases h.get n <;> rfl
  | false =>
    cases hl : lkr ps n with
    | some j => rfl
    | none => simp only [Option.bind_none]; cases h.get n <;> rfl
theorem gr_gι {m : Nat} {ps : List (Nat × Nat)} (hu : uniq ps = true) (hg : geAll m ps = true) {n j : Nat} (h : gr m ps n = some j) : gι m ps j = n ∧ gd m ps j = true := by
  unfold gr at h
  unfold gι gd
  cases hb : Nat.blt n m with
  | true => rw [hb] at h; cases h; simp [hb]
  | false =>
    rw [hb] at h
    have hl := lkr_lk hu h
    have := (geAll_lk hg hl).1
    have : Nat.blt j m = false := by cases h' : Nat.blt j m <;> simp [Nat.blt] at h' ⊢; omega
    simp [this, hl]
theorem gι_gr {m : Nat} {ps : List (Nat × Nat)} (hu : uniq ps = true) (hg : geAll m ps = true) {j : Nat} (h : gd m ps j = true) : gr m ps (gι m ps j) = some j := by
  unfold gd at h
  unfold gι gr
  cases hb : Nat.blt j m with
  | true => simp [hb]
  | false =>
    rw [hb] at h
    obtain ⟨g, hl⟩ := Option.isSome_iff_exists.1 h
    have := (geAll_lk hg hl).2
    have : Nat.blt g m = false := by cases h' : Nat.blt g m <;> simp [Nat.blt] at h' ⊢; omega
    simp only [hl, this]
    exact lk_lkr hu hl
theorem Weak.gc {m : Nat} {ps : List (Nat × Nat)} {ts : List Nat} {nx : Nat} {s : St O} (h : gcOk m ps ts s = true) : Weak I m s (gc m ps ts nx s) := by
  intro c hc a w hm
  simp only [gcOk, Bool.and_eq_true] at h
  obtain ⟨hu, hg, hO, hT⟩ := h
  obtain ⟨hd, hz, ρ, fp, ht, hs, hsc⟩ := hm
  let ρ' : Rho := fun n => (gr m ps n).bind ρ
  let fp' : Nat → List Nat := fun n => match gr m ps n with | some j => fp j | none => []
  have e : Tells (gd m ps) (gι m ps) ρ ρ' := fun n p hn hp => by
    show (gr m ps (gι m ps n)).bind ρ = some p
    rw [gι_gr hu hg hn]; exact hp
  have hfp : ∀ n b, b ∈ fp' n → ∃ j, gr m ps n = some j ∧ b ∈ fp j := fun n b hb => by
    cases hj : gr m ps n with
    | none => simp only [fp', hj] at hb; simp at hb
    | some j => simp only [fp', hj] at hb; exact ⟨j, rfl, hb⟩
  refine ⟨hd, hz, ρ', fp', fun t v hv => ?_, ⟨fun n o hn => ?_, fun n hn => ?_, fun n n' b hb hb' => ?_, fun b ob hb => ⟨(hs.fz b ob hb).1, fun n hn => let ⟨j, _, hj⟩ := hfp n b hn; (hs.fz b ob hb).2 j hj⟩⟩, ⟨hsc.os, hsc.tape, hsc.output, hsc.size, hsc.keep, fun n b hb => ?_, fun n p hp => ?_⟩⟩
  · simp only [Tb.gc, Tr.mapi_get] at hv
    cases hx : s.tm.get t with
    | none => rw [hx] at hv; cases hv
    | some u =>
      rw [hx] at hv
      have hc := Tr.all_get _ _ _ hT t u hx
      cases hm : memB ts t with
      | false => simp [hm] at hv
      | true =>
        simp [hm] at hv hc
        subst hv
        obtain ⟨x, h1, h2⟩ := ht t u hx
        exact ⟨x, h1, h2.ren e hc⟩
  · simp only [Tb.gc, gcH_get hu hg] at hn
    cases hj : gr m ps n with
    | none => rw [hj] at hn; cases hn
    | some j =>
      rw [hj] at hn
      simp only [Option.bind_some] at hn
      cases hx : s.hp.get j with
      | none => rw [hx] at hn; cases hn
      | some u =>
        rw [hx] at hn; simp at hn; subst hn
        obtain ⟨e1, e2⟩ := gr_gι hu hg hj
        have hc := Tr.all_get _ _ _ hO j u hx
        simp [e2] at hc
        have := okO.ren e e2 (hs.ok j u hx) hc
        rw [e1] at this
        simpa only [fp', hj] using this
  · simp only [Tb.gc, gcH_get hu hg] at hn
    cases hj : gr m ps n with
    | none => exact ⟨by simp only [ρ', hj]; rfl, by simp only [fp', hj]⟩
    | some j =>
      rw [hj] at hn
      simp only [Option.bind_some, Option.map_eq_none_iff] at hn
      obtain ⟨h1, h2⟩ := hs.dom j hn
      exact ⟨by simp only [ρ', hj, Option.bind_some]; exact h1, by simp only [fp', hj]; exact h2⟩
  · obtain ⟨j, hj, hb⟩ := hfp _ _ hb
    obtain ⟨j', hj', hb'⟩ := hfp _ _ hb'
    have := hs.dis _ _ _ hb hb'
    subst this
    exact (gr_gι hu hg hj).1.symm.trans (gr_gι hu hg hj').1
  · obtain ⟨j, hj, hb⟩ := hfp _ _ hb
    exact hsc.own j b hb
  · have hnm : n < m := by
      rcases Nat.lt_or_ge n m with h | h
      · exact h
      · rw [hc n h] at hp; cases hp
    have : Nat.blt n m = true := by simp [Nat.blt]; omega
    show (gr m ps n).bind ρ = some p
    simp only [gr, this, Option.bind_some]
    exact hsc.ext n p hp
/-- What a round leads to, what isn't asked any more forgotten. -/
def lpg (m : Nat) (ps : List (Nat × Nat)) (ts : List Nat) (nx : Nat) (X : St O → Prop) (K : Kt O) : Kt O := lpc (fun s => must (gcOk m ps ts s) (X (gc m ps ts nx s))) K
theorem ALoop.invg {m : Nat} {b : Code} {body : St O → Kt O → Prop} {K : Kt O} {ps : List (Nat × Nat)} {ts : List Nat} {nx : Nat} {α : Type} (J : α → St O) (G : α → Prop) (μ : α → Nat)
    (round : ∀ x, G x → body (J x) (lpg m ps ts nx (fun s => ∃ y, G y ∧ μ y < μ x ∧ s = J y) K)) {s : St O} (h0 : gcOk m ps ts s = true) (x : α) (e0 : gc m ps ts nx s = J x) (hx : G x) : ALoop I m b body K s := by
  refine ⟨_, e0 ▸ Weak.gc h0, fun X hX => ?_⟩
  have : ∀ n x, μ x = n → G x → X (J x) := by
    intro n
    induction n using Nat.strongRecOn with
    | _ n ih =>
      intro x hn hx
      refine hX _ _ (round x hx) fun e s' hk => ?_
      cases e with
      | normal =>
        obtain ⟨hg, y, hy, hlt, he⟩ := must_spec hk
        exact ⟨_, Weak.gc hg, he ▸ ih (μ y) (hn ▸ hlt) y rfl hy⟩
      | _ => exact hk
  exact this _ x rfl hx
theorem ASeq.start {m : Nat} {b : Code} {body : St O → Kt O → Prop} {K : Kt O} {s : St O} (ps : List (Nat × Nat)) (ts : List Nat) (nx : Nat) (s' : St O) (h0 : gcOk m ps ts s = true) (e0 : gc m ps ts nx s = s') (h : body s' K) : ASeq I m b body K s :=
  ASeq.weak (e0 ▸ Weak.gc h0) (ASeq.go h)
theorem ALoop.start {m : Nat} {b : Code} {body : St O → Kt O → Prop} {K : Kt O} {s : St O} (ps : List (Nat × Nat)) (ts : List Nat) (nx : Nat) (s' : St O) (h0 : gcOk m ps ts s = true) (e0 : gc m ps ts nx s = s') (h : ALoop I m b body K s') : ALoop I m b body K s :=
  ALoop.weak (e0 ▸ Weak.gc h0) h
theorem ALoop.stepg {m : Nat} {b : Code} {body : St O → Kt O → Prop} {K : Kt O} {s : St O} (ps : List (Nat × Nat)) (ts : List Nat) (nx : Nat) (h : body s (lpg m ps ts nx (ALoop I m b body K) K)) : ALoop I m b body K s :=
  ⟨s, Weak.refl m s, fun X hX => hX s _ h fun e s' hk => by
    cases e with
    | normal => obtain ⟨hg, s3, hw', ha⟩ := must_spec hk; exact ⟨s3, (Weak.gc hg).trans hw', ha X hX⟩
    | _ => exact hk⟩
/-- The same, where what is kept may have one of several names. -/
def gcAny (m : Nat) (ts : List Nat) (nx : Nat) (X : St O → Prop) (s : St O) : List (List (Nat × Nat)) → Prop
  | [] => False
  | ps :: r => match gcOk m ps ts s with | true => X (gc m ps ts nx s) | false => gcAny m ts nx X s r
def lpgL (m : Nat) (pss : List (List (Nat × Nat))) (ts : List Nat) (nx : Nat) (X : St O → Prop) (K : Kt O) : Kt O := lpc (fun s => gcAny m ts nx X s pss) K
theorem gcAny_spec {m : Nat} {ts : List Nat} {nx : Nat} {X : St O → Prop} {s : St O} : ∀ {pss : List (List (Nat × Nat))}, gcAny m ts nx X s pss → ∃ ps, gcOk m ps ts s = true ∧ X (gc m ps ts nx s)
  | [], h => h.elim
  | ps :: r, h => by
    simp only [gcAny] at h
    split at h
    · exact ⟨ps, by assumption, h⟩
    · exact gcAny_spec h
theorem ALoop.invjL {m : Nat} {b : Code} {body : St O → Kt O → Prop} {K : Kt O} {pss : List (List (Nat × Nat))} {ts : List Nat} {nx : Nat} {α : Type} (J : α → St O) (G : α → Prop) (μ : α → Nat)
    (round : ∀ x, G x → body (J x) (lpgL m pss ts nx (fun s => ∃ y, G y ∧ μ y < μ x ∧ s = J y) K)) (x : α) (hx : G x) : ALoop I m b body K (J x) := by
  refine ⟨_, Weak.refl m _, fun X hX => ?_⟩
  have : ∀ n x, μ x = n → G x → X (J x) := by
    intro n
    induction n using Nat.strongRecOn with
    | _ n ih =>
      intro x hn hx
      refine hX _ _ (round x hx) fun e s' hk => ?_
      cases e with
      | normal =>
        obtain ⟨ps, hg, y, hy, hlt, he⟩ := gcAny_spec hk
        exact ⟨_, Weak.gc hg, he ▸ ih (μ y) (hn ▸ hlt) y rfl hy⟩
      | _ => exact hk
  exact this _ x rfl hx
end Go.Tb
