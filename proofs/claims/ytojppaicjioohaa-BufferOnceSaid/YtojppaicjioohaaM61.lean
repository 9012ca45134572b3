/- The abstract machine's 'append': to a row, of a row; the new row is told by a new name, the old name is gone. -/
import Derived.Test.YtojppaicjioohaaM6
import Derived.Laws.AppendOwn
import Derived.Laws.MakeOwn
set_option linter.all false
namespace Go.Tb
open Go
variable {O : Type} {P : Program} {I : Interp O}

/-! ### The cells of a plain thing, one by one -/
def shpF (P : Program) (g : TypeId → Option (List Sh)) : Nat → List (TypeId × Nat) → Option (List Sh)
  | _, [] => some []
  | off, (t, o) :: r => match g t with
    | some l => match Nat.beq o off && Nat.beq (P.cellsOf t) l.length with
      | true => match shpF P g (off + l.length) r with | some q => some (l ++ q) | none => none
      | false => none
    | none => none
def shp (P : Program) : Nat → TypeId → Option (List Sh)
  | 0, _ => none
  | d + 1, t => match P.underlying t with
    | some .bool => some [.b]
    | some (.int k) => some [.i k]
    | some .string => some [.s]
    | some (.struct fs) => match shpF P (shp P d) 0 (fs.toList.map fun f => (f.type, f.offset)) with
      | some l => match Nat.beq (P.cellsOf t) l.length with | true => some l | false => none
      | none => none
    | some (.array n e) => match shpF P (shp P d) 0 ((List.range n).map fun i => (e, i * P.cellsOf e)) with
      | some l => match Nat.beq (P.cellsOf t) l.length with | true => some l | false => none
      | none => none
    | _ => none
def shEq : List Sh → List Sh → Bool
  | [], [] => true
  | .i k :: a, .i k' :: b => match decide (k = k') with | true => shEq a b | false => false
  | .b :: a, .b :: b => shEq a b
  | .s :: a, .s :: b => shEq a b
  | _, _ => false
theorem shEq_spec : ∀ {a b : List Sh}, shEq a b = true → a = b
  | [], [], _ => rfl
  | [], _ :: _, h => by simp [shEq] at h
  | x :: a, [], h => by cases x <;> simp [shEq] at h
  | x :: a, y :: b, h => by
    cases x <;> cases y <;> simp only [shEq] at h <;> try (cases h; done)
    · split at h
      · rename_i hk
        rw [of_decide_eq_true hk, shEq_spec h]
      · cases h
    · rw [shEq_spec h]
    · rw [shEq_spec h]
/-- Some cells, told as rows. -/
def chunks (sh : List Sh) (L : List AV) : Nat → Nat → Option (List Rw)
  | 0, _ => some []
  | l + 1, o => match grab L o sh.length with
    | some ch => match fitsA sh ch with
      | true => match chunks sh L l (o + sh.length) with
        | some r => some (rwA ch :: r)
        | none => none
      | false => none
    | none => none
theorem chunks_spec {sh : List Sh} {L : List AV} : ∀ {l o : Nat} {ys : List Rw}, chunks sh L l o = some ys → ys.length = l ∧ encL sh ys = (L.drop o).take (l * sh.length)
  | 0, o, ys, h => by simp [chunks] at h; subst h; simp [encL]
  | l + 1, o, ys, h => by
    simp only [chunks] at h
    split at h
    · rename_i ch hch
      split at h
      · rename_i hy
        split at h
        · rename_i r hr
          cases h
          obtain ⟨h1, h2⟩ := grab_eq _ _ _ _ hch
          obtain ⟨k1, k2⟩ := chunks_spec hr
          have he := encR_rwA hy
          refine ⟨by simp [k1], ?_⟩
          show encR (rwA ch) 0 sh ++ encL sh r = _
          rw [he, k2, Nat.add_mul, Nat.one_mul, Nat.add_comm (l * sh.length), List.take_add, ← h1, List.drop_drop]
        · cases h
      · cases h
    · cases h
theorem encL_append (sh : List Sh) (a b : List Rw) : encL sh (a ++ b) = encL sh a ++ encL sh b := by simp [encL]
theorem encL_take (sh : List Sh) : ∀ (xs : List Rw) (l : Nat), encL sh (xs.take l) = (encL sh xs).take (l * sh.length)
  | [], l => by simp [encL]
  | x :: xs, 0 => by simp [encL]
  | x :: xs, l + 1 => by
    show encR x 0 sh ++ encL sh (xs.take l) = (encR x 0 sh ++ encL sh xs).take ((l + 1) * sh.length)
    rw [encL_take sh xs l, Nat.add_mul, Nat.one_mul, List.take_append, encR_length, List.take_of_length_le (l := encR x 0 sh) (by rw [encR_length]; omega), Nat.add_sub_cancel]
theorem allOne_encR (x : Rw) : ∀ (sh : List Sh) (j : Nat), allOne (encR x j sh) = true
  | [], _ => rfl
  | h :: r, j => by cases h <;> simp [encR, encS, allOne, one, allOne_encR x r]
theorem allOne_append : ∀ {a b : List AV}, allOne a = true → allOne b = true → allOne (a ++ b) = true
  | [], b, _, h => h
  | v :: a, b, h, k => by
    simp only [allOne, List.cons_append] at h ⊢
    split at h
    · exact allOne_append h k
    · cases h
theorem allOne_encL (sh : List Sh) : ∀ (xs : List Rw), allOne (encL sh xs) = true
  | [] => rfl
  | x :: xs => by
    show allOne (encR x 0 sh ++ encL sh xs) = true
    exact allOne_append (allOne_encR x sh 0) (allOne_encL sh xs)

/-! ### What lies in a slice -/
def gatherS (hp : Tr (AO O)) (sh : List Sh) (x : AV) (K : List Rw → Nat → Prop) : Prop := match x with
  | .nils => K [] 0
  | .sl n o l c => match hp.get n with
    | some (.rows _ sh' xs _) => match o, shEq sh' sh with | 0, true => must (Nat.ble l xs.length) (K (xs.take l) l) | _, _ => False
    | some (.out _ sh' xs) => match o, shEq sh' sh with | 0, true => must (Nat.ble l xs.length) (K (xs.take l) l) | _, _ => False
    | some (.cells _ L _) => match chunks sh L l o with | some ys => K ys l | none => False
    | _ => False
  | .sd n z lo l c k => match hp.get n with
    | some (.rows _ sh' xs _) => match shEq sh' sh with | true => must (Nat.beq z sh.length && Nat.ble (lo + l) xs.length) (K ((xs.drop lo).take l) l) | _ => False
    | some (.out _ sh' xs) => match shEq sh' sh with | true => must (Nat.beq z sh.length && Nat.ble (lo + l) xs.length) (K ((xs.drop lo).take l) l) | _ => False
    | _ => False
  | .slq n l c q => match hp.get n with
    | some (.rows _ sh' xs _) => match shEq sh' sh with | true => must (Nat.ble l xs.length) (K (xs.take l) l) | _ => False
    | some (.out _ sh' xs) => match shEq sh' sh with | true => must (Nat.ble l xs.length) (K (xs.take l) l) | _ => False
    | _ => False
  | _ => False
def gatherD (hp : Tr (AO O)) (e : TypeId) (sh : List Sh) (x : AV) (K : Option Nat → List Rw → Nat → Nat → Prop) : Prop := match x with
  | .nils => K none [] 0 0
  | .sl n o l c => match hp.get n with
    | some (.rows e' sh' xs room) => match o, shEq sh' sh, Nat.beq e' e with | 0, true, true => must (Nat.ble l xs.length && Nat.ble (c * sh.length) room && Nat.blt n 16777215) (K (some n) (xs.take l) l c) | _, _, _ => False
    | some (.cells e' L room) => match chunks sh L l o, Nat.beq e' e with | some ys, true => must (Nat.ble (o + c * sh.length) room && Nat.blt n 16777215) (K (some n) ys l c) | _, _ => False
    | _ => False
  | _ => False
/-- The cells of a slice: its rows, told by their values. -/
def Lies (ρ : Rho) (w : World) (a : Addr) (sh : List Sh) (ys : List Rw) (l : Nat) : Prop :=
  ys.length = l ∧ ∃ vals : List Value, vals.length = l * sh.length ∧ (∀ j v, vals[j]? = some v → w.cell? (a.add j) = some v) ∧ Dens ρ (encL sh ys) vals
theorem lies_of {ρ : Rho} {w : World} {b A l : Nat} {sh : List Sh} {ys : List Rw} (hl : ys.length = l) (hc : ∀ (q : Nat) (v : AV), (encL sh ys)[q]? = some v → ∃ y, w.cell? ⟨b, A + q, none⟩ = some y ∧ Den ρ v y) : Lies ρ w ⟨b, A, none⟩ sh ys l := by
  refine ⟨hl, (List.range (l * sh.length)).map fun j => (w.cell? ⟨b, A + j, none⟩).getD undef, by simp, fun j v hv => ?_, ?_⟩
  · have hj : j < l * sh.length := by have := (List.getElem?_eq_some_iff.1 hv).1; simpa using this
    have hq : j < (encL sh ys).length := by rw [encL_length, hl]; exact hj
    obtain ⟨y, hy, _⟩ := hc j _ (List.getElem?_eq_getElem hq)
    simp [hj, hy] at hv
    rw [addr_add, hy, hv]
  · refine Dens.of (by rw [encL_length, hl]; simp) fun j v hv => ?_
    have hj : j < l * sh.length := by have := (List.getElem?_eq_some_iff.1 hv).1; rw [encL_length, hl] at this; exact this
    obtain ⟨y, hy, dy⟩ := hc j v hv
    exact ⟨y, by simp [hj, hy], dy⟩
theorem cells_take {ρ : Rho} {z l : Nat} {sh : List Sh} {xs : List Rw} {arr : Array Value} {w : World} {b : Nat} {t : TypeId} {k : Nat × Nat} (hb : w.heap[b]? = some (.cells arr t k)) (h : CellsAt ρ z (encL sh xs) arr) :
    ∀ (q : Nat) (v : AV), (encL sh (xs.take l))[q]? = some v → ∃ y, w.cell? ⟨b, z + q, none⟩ = some y ∧ Den ρ v y := fun q v hv => by
  rw [encL_take] at hv
  have hq : q < l * sh.length := by have := (List.getElem?_eq_some_iff.1 hv).1; rw [List.length_take] at this; omega
  rw [List.getElem?_take_of_lt hq] at hv
  obtain ⟨y, hy, dy⟩ := h q v hv
  exact ⟨y, by simp [World.cell?, hb]; exact hy, dy⟩
theorem encL_drop (sh : List Sh) : ∀ (xs : List Rw) (l : Nat), encL sh (xs.drop l) = (encL sh xs).drop (l * sh.length)
  | xs, 0 => by simp
  | [], l + 1 => by simp [encL]
  | x :: xs, l + 1 => by
    have : encL sh (x :: xs) = encR x 0 sh ++ encL sh xs := by simp [encL]
    rw [this, List.drop_succ_cons, encL_drop sh xs l, List.drop_append, encR_length, List.drop_of_length_le (l := encR x 0 sh) (by rw [encR_length, Nat.add_mul]; omega), List.nil_append]
    congr 1; rw [Nat.add_mul]; omega
theorem lies_sd {ρ : Rho} {b z0 lo l c k : Nat} {sh : List Sh} {xs : List Rw} {arr : Array Value} {t : TypeId} {q : Nat × Nat} {w : World} (hb : w.heap[b]? = some (.cells arr t q)) (h : CellsAt ρ z0 (encL sh xs) arr) (hl : lo + l ≤ xs.length) (hlc : l ≤ c) (hk : c = 0 ∨ k = lo * sh.length) :
    Lies ρ w ⟨b, z0 + k, none⟩ sh ((xs.drop lo).take l) l := by
  refine lies_of (by simp; omega) fun q v hv => ?_
  have hq : q < l * sh.length := by
    have := (List.getElem?_eq_some_iff.1 hv).1
    rw [encL_take, List.length_take] at this; omega
  have hk : k = lo * sh.length := by
    rcases hk with hk | hk
    · have : l = 0 := by omega
      subst this; simp at hq
    · exact hk
  rw [encL_take, List.getElem?_take_of_lt hq, encL_drop, List.getElem?_drop] at hv
  obtain ⟨y, hy, dy⟩ := h _ v hv
  exact ⟨y, by simp [World.cell?, hb, hk]; rw [Nat.add_assoc]; exact hy, dy⟩
theorem gatherS_ok {hp : Tr (AO O)} {sh : List Sh} {x : AV} {K : List Rw → Nat → Prop} (h : gatherS hp sh x K) {ρ : Rho} {fp : Nat → List Nat} {w : World} (hs : Sat I ρ fp hp w) {x' : Value} (hx : Den ρ x x') :
    ∃ ys l, K ys l ∧ l ≤ 9223372036854775807 ∧ ((x' = .slice none 0 0 ∧ l = 0 ∧ ys = []) ∨ ∃ a c, x' = .slice (some a) l c ∧ Lies ρ w a sh ys l) := by
  unfold gatherS at h
  split at h
  · cases hx; exact ⟨_, _, h, by omega, .inl ⟨rfl, rfl, rfl⟩⟩
  · rename_i n o l c
    cases hx with | sl _ _ _ hρ hlc hcm =>
    split at h
    · rename_i e sh' xs room hg
      split at h
      · rename_i he
        have he := shEq_spec he
        subst he
        obtain ⟨hl, h⟩ := must_spec h
        have hl := Nat.le_of_ble_eq_true hl
        obtain ⟨b, z, arr, h1, h2, h3, h4, h5, h6⟩ := hs.ok _ _ hg
        rw [hρ] at h1; cases h1
        exact ⟨_, _, h, by omega, .inr ⟨_, _, rfl, lies_of (by simp; omega) (cells_take h3 h6)⟩⟩
      · exact h.elim
    · rename_i ob sh' xs hg
      split at h
      · rename_i he
        have he := shEq_spec he
        subst he
        obtain ⟨hl, h⟩ := must_spec h
        have hl := Nat.le_of_ble_eq_true hl
        obtain ⟨b, z, arr, t, k, h1, h2, h3, h4, h6⟩ := hs.ok _ _ hg
        subst h4
        rw [hρ] at h1; cases h1
        refine ⟨_, _, h, by omega, .inr ⟨_, _, rfl, ?_⟩⟩
        rcases h3 with h3 | h3
        · subst h3; exact lies_of (by simp at hl ⊢; omega) (fun q v hv => by simp [encL] at hv)
        · exact lies_of (by simp; omega) (cells_take h3.2 h6)
      · exact h.elim
    · rename_i e L room hg
      split at h
      · rename_i ys hy
        obtain ⟨k1, k2⟩ := chunks_spec hy
        obtain ⟨b, z, arr, h1, h2, h3, h4, h5, h6⟩ := hs.ok _ _ hg
        rw [hρ] at h1; cases h1
        refine ⟨_, _, h, by omega, .inr ⟨_, _, rfl, lies_of k1 fun q v hv => ?_⟩⟩
        rw [k2] at hv
        have hq : q < l * sh.length := by have := (List.getElem?_eq_some_iff.1 hv).1; rw [List.length_take] at this; omega
        rw [List.getElem?_take_of_lt hq, List.getElem?_drop] at hv
        obtain ⟨y, hy, dy⟩ := h6 _ v hv
        exact ⟨y, by simp [World.cell?, h3]; rw [Nat.add_assoc]; exact hy, dy⟩
      · exact h.elim
    · exact h.elim
  · rename_i n zz lo l c k
    cases hx with | sd _ _ _ _ _ hρ hlc hcm hk =>
    split at h
    · rename_i e sh' xs room hg
      split at h
      · rename_i he
        have he := shEq_spec he
        subst he
        obtain ⟨hl, hK⟩ := must_spec h
        simp only [Bool.and_eq_true, Nat.beq_eq, Nat.ble_eq] at hl
        obtain ⟨rfl, hl⟩ := hl
        obtain ⟨b, z, arr, h1, h2, h3, h4, h5, h6⟩ := hs.ok _ _ hg
        rw [hρ] at h1; cases h1
        exact ⟨_, _, hK, by omega, .inr ⟨_, _, rfl, lies_sd h3 h6 hl hlc hk⟩⟩
      · exact h.elim
    · rename_i ob sh' xs hg
      split at h
      · rename_i he
        have he := shEq_spec he
        subst he
        obtain ⟨hl, hK⟩ := must_spec h
        simp only [Bool.and_eq_true, Nat.beq_eq, Nat.ble_eq] at hl
        obtain ⟨rfl, hl⟩ := hl
        obtain ⟨b, z, arr, t, q, h1, h2, h3, h4, h6⟩ := hs.ok _ _ hg
        subst h4
        rw [hρ] at h1; cases h1
        refine ⟨_, _, hK, by omega, .inr ⟨_, _, rfl, ?_⟩⟩
        rcases h3 with h3 | h3
        · subst h3; exact lies_of (by simp at hl ⊢; omega) (fun q v hv => by simp [encL] at hv)
        · exact lies_sd h3.2 h6 hl hlc hk
      · exact h.elim
    · exact h.elim
  · rename_i n l c qq
    split at h
    · rename_i e sh' xs room hg
      split at h
      · rename_i he
        have he := shEq_spec he
        subst he
        obtain ⟨hl, hK⟩ := must_spec h
        have hl := Nat.le_of_ble_eq_true hl
        obtain ⟨b, z, arr, h1, h2, h3, h4, h5, h6⟩ := hs.ok _ _ hg
        cases hx with
        | slq0 => exact ⟨_, _, hK, by omega, .inl ⟨rfl, rfl, by simp⟩⟩
        | slq1 _ _ hρ hlc hcm =>
        rw [hρ] at h1; cases h1
        exact ⟨_, _, hK, by omega, .inr ⟨_, _, rfl, lies_of (by simp; omega) (cells_take h3 h6)⟩⟩
      · exact h.elim
    · rename_i ob sh' xs hg
      split at h
      · rename_i he
        have he := shEq_spec he
        subst he
        obtain ⟨hl, hK⟩ := must_spec h
        have hl := Nat.le_of_ble_eq_true hl
        obtain ⟨b, z, arr, t, k, h1, h2, h3, h4, h6⟩ := hs.ok _ _ hg
        subst h4
        cases hx with
        | slq0 => exact ⟨_, _, hK, by omega, .inl ⟨rfl, rfl, by simp⟩⟩
        | slq1 _ _ hρ hlc hcm =>
        rw [hρ] at h1; cases h1
        refine ⟨_, _, hK, by omega, .inr ⟨_, _, rfl, ?_⟩⟩
        rcases h3 with h3 | h3
        · subst h3; exact lies_of (by simp at hl ⊢; omega) (fun q v hv => by simp [encL] at hv)
        · exact lies_of (by simp; omega) (cells_take h3.2 h6)
      · exact h.elim
    · exact h.elim
  · exact h.elim
theorem gatherD_ok {hp : Tr (AO O)} {e : TypeId} {sh : List Sh} {x : AV} {K : Option Nat → List Rw → Nat → Nat → Prop} (h : gatherD hp e sh x K) {ρ : Rho} {fp : Nat → List Nat} {w : World} (hs : Sat I ρ fp hp w) {x' : Value} (hx : Den ρ x x') :
    (x' = .slice none 0 0 ∧ K none [] 0 0) ∨ ∃ n ys l c b A arr, K (some n) ys l c ∧ Nat.blt n 16777215 = true ∧ l ≤ c ∧ c ≤ 9223372036854775807 ∧ (∃ o, hp.get n = some o) ∧ fp n = [b] ∧ x' = .slice (some ⟨b, A, none⟩) l c ∧ w.heap[b]? = some (.cells arr e (0, 0)) ∧ A + c * sh.length ≤ arr.size ∧ Lies ρ w ⟨b, A, none⟩ sh ys l := by
  unfold gatherD at h
  split at h
  · cases hx; exact .inl ⟨rfl, h⟩
  · rename_i n o l c
    cases hx with | sl _ _ _ hρ hlc hcm =>
    right
    split at h
    · rename_i e' sh' xs room hg
      split at h
      · rename_i he he'
        have he := shEq_spec he
        have he' := Nat.eq_of_beq_eq_true he'
        subst he; subst he'
        obtain ⟨hl, h⟩ := must_spec h
        simp only [Bool.and_eq_true, Nat.ble_eq] at hl
        obtain ⟨⟨hl, hr⟩, hn⟩ := hl
        obtain ⟨b, z, arr, h1, h2, h3, h4, h5, h6⟩ := hs.ok _ _ hg
        rw [hρ] at h1; cases h1
        exact ⟨n, _, _, c, _, _, arr, h, hn, hlc, hcm, ⟨_, hg⟩, h2, rfl, h3, by omega, lies_of (by simp; omega) (cells_take h3 h6)⟩
      · exact h.elim
    · rename_i e' L room hg
      split at h
      · rename_i ys hy he'
        have he' := Nat.eq_of_beq_eq_true he'
        subst he'
        obtain ⟨hl, h⟩ := must_spec h
        simp only [Bool.and_eq_true, Nat.ble_eq] at hl
        obtain ⟨hr, hn⟩ := hl
        obtain ⟨k1, k2⟩ := chunks_spec hy
        obtain ⟨b, z, arr, h1, h2, h3, h4, h5, h6⟩ := hs.ok _ _ hg
        rw [hρ] at h1; cases h1
        refine ⟨n, _, _, c, _, _, arr, h, hn, hlc, hcm, ⟨_, hg⟩, h2, rfl, h3, by omega, lies_of k1 fun q v hv => ?_⟩
        rw [k2] at hv
        have hq : q < l * sh.length := by have := (List.getElem?_eq_some_iff.1 hv).1; rw [List.length_take] at this; omega
        rw [List.getElem?_take_of_lt hq, List.getElem?_drop] at hv
        obtain ⟨y, hy, dy⟩ := h6 _ v hv
        exact ⟨y, by simp [World.cell?, h3]; rw [Nat.add_assoc]; exact hy, dy⟩
      · exact h.elim
    · exact h.elim
  · exact h.elim

/-! ### Names that go, and names that take over a block -/
theorem Sat.gone {ρ : Rho} {fp : Nat → List Nat} {h : Tr (AO O)} {w : World} (s : Sat I ρ fp h w) {n : Nat} (hn : Nat.blt n 16777215 = true) {o : AO O} (hg : h.get n = some o) : Sat I ρ (fun m => if m = n then [] else fp m) (h.set n (some .gone)) w := by
  refine ⟨fun m o' hm => ?_, fun m hm => ?_, fun m m' b hb hb' => ?_, fun b ob hb => ⟨(s.fz b ob hb).1, fun m hm => ?_⟩⟩
  · by_cases e : m = n
    · subst e; rw [Tr.get_set_eq hn] at hm; cases hm; simp [okO]
    · rw [Tr.get_set_ne (Ne.symm e)] at hm; simp only [if_neg e]; exact s.ok m o' hm
  · by_cases e : m = n
    · subst e; rw [Tr.get_set_eq hn] at hm; cases hm
    · rw [Tr.get_set_ne (Ne.symm e)] at hm; simp only [if_neg e]; exact s.dom m hm
  · by_cases e : m = n
    · simp [e] at hb
    · by_cases e' : m' = n
      · simp [e'] at hb'
      · simp only [if_neg e, if_neg e'] at hb hb'; exact s.dis _ _ _ hb hb'
  · by_cases e : m = n
    · simp [e] at hm
    · simp only [if_neg e] at hm; exact (s.fz b ob hb).2 m hm
theorem Since.gone {c : Ctx} {ρ : Rho} {fp : Nat → List Nat} {w : World} (h : Since c.w0 c.F0 c.ρ0 ρ fp w) (n : Nat) : Since c.w0 c.F0 c.ρ0 ρ (fun m => if m = n then [] else fp m) w :=
  ⟨h.os, h.tape, h.output, h.size, h.keep, fun m b hb => by by_cases e : m = n; { simp [e] at hb }; { simp only [if_neg e] at hb; exact h.own m b hb }, h.ext⟩
theorem Sat.put {ρ : Rho} {fp : Nat → List Nat} {h : Tr (AO O)} {w w' : World} (s : Sat I ρ fp h w) {n b z : Nat} {bs : List Nat} (hn : Nat.blt n 16777215 = true) {o : AO O} (hg : h.get n = none)
    (hw : ∀ x, x ∉ bs → x < w.heap.size → w'.heap[x]? = w.heap[x]?) (hbs : ∀ x, x ∈ bs → ∀ m, x ∉ fp m) (hbf : ∀ x, x ∈ bs → ∀ ob, I.fz x ≠ some ob) (ho : okO I (fun m => if m = n then some (b, z) else ρ m) n bs w' o) :
    Sat I (fun m => if m = n then some (b, z) else ρ m) (fun m => if m = n then bs else fp m) (h.set n (some o)) w' ∧ Ext ρ (fun m => if m = n then some (b, z) else ρ m) := by
  have hext : Ext ρ (fun m => if m = n then some (b, z) else ρ m) := fun m p hp => by
    have : m ≠ n := fun e => by subst e; rw [(s.dom _ hg).1] at hp; cases hp
    simp only [if_neg this]; exact hp
  have hfz : ∀ b ob, I.fz b = some ob → w'.heap[b]? = some ob := fun b ob hb => by
    have h1 := (s.fz b ob hb).1
    exact (hw b (fun hm => hbf b hm ob hb) (Array.getElem?_eq_some_iff.1 h1).1).trans h1
  refine ⟨⟨fun m o' hm => ?_, fun m hm => ?_, fun m m' x hx hx' => ?_, fun b ob hb => ⟨hfz b ob hb, fun m hm => ?_⟩⟩, hext⟩
  · by_cases e : m = n
    · subst e; rw [Tr.get_set_eq hn] at hm; cases hm; simpa using ho
    · rw [Tr.get_set_ne (Ne.symm e)] at hm; simp only [if_neg e]
      exact (s.ok m o' hm).mono hext (fun b ob hb _ => hfz b ob hb) (fun x hx => hw x (fun hxb => hbs x hxb m hx) (s.lt hx))
  · by_cases e : m = n
    · subst e; rw [Tr.get_set_eq hn] at hm; cases hm
    · rw [Tr.get_set_ne (Ne.symm e)] at hm; simp only [if_neg e]; exact s.dom m hm
  · by_cases e : m = n
    · by_cases e' : m' = n
      · rw [e, e']
      · simp only [if_pos e, if_neg e'] at hx hx'; exact (hbs x hx m' hx').elim
    · by_cases e' : m' = n
      · simp only [if_neg e, if_pos e'] at hx hx'; exact (hbs x hx' m hx).elim
      · simp only [if_neg e, if_neg e'] at hx hx'; exact s.dis _ _ _ hx hx'
  · by_cases e : m = n
    · simp only [if_pos e] at hm; exact hbf b hm ob hb
    · simp only [if_neg e] at hm; exact (s.fz b ob hb).2 m hm
theorem Since.put {c : Ctx} {ρ ρ' : Rho} {fp : Nat → List Nat} {w w' : World} (h : Since c.w0 c.F0 c.ρ0 ρ fp w) {n : Nat} {bs : List Nat} (e : Ext ρ ρ')
    (ho : w'.os = w.os) (ht : w'.tape = w.tape) (hu : w'.output = w.output) (hz : w.heap.size ≤ w'.heap.size)
    (hw : ∀ x, x ∉ bs → x < w.heap.size → w'.heap[x]? = w.heap[x]?) (hbs : ∀ x, x ∈ bs → c.F0 x ∨ c.w0.heap.size ≤ x) :
    Since c.w0 c.F0 c.ρ0 ρ' (fun m => if m = n then bs else fp m) w' where
  os := ho.trans h.os
  tape := ht.trans h.tape
  output := hu.trans h.output
  size := Nat.le_trans h.size hz
  keep := fun b hb hF => (hw b (fun hx => by rcases hbs b hx with h1 | h1; { exact hF h1 }; { omega }) (Nat.lt_of_lt_of_le hb h.size)).trans (h.keep b hb hF)
  own := fun m b hb => by
    by_cases hm : m = n
    · simp [hm] at hb; exact hbs b hb
    · simp [hm] at hb; exact h.own m b hb
  ext := h.ext.trans e

/-! ### append -/
/-- A shape written out. -/
def forceL : List Sh → (List Sh → Prop) → Prop
  | [], K => K []
  | s :: l, K => forceL l fun r => match s with | .i k => K (.i k :: r) | .b => K (.b :: r) | .s => K (.s :: r) | .v => K (.v :: r)
theorem forceL_spec : ∀ {l : List Sh} {K : List Sh → Prop}, forceL l K → K l
  | [], _, h => h
  | s :: l, K, h => by
    have := forceL_spec (l := l) h
    cases s <;> exact this
def bytesT (P : Program) (t : TypeId) : Option Nat := match P.info? t with | some i => some i.bytes | none => none
def aappendN (P : Program) (s : St O) (nx : Nat) (d : Option Tmp) (ts : List TypeId) (x y : AV) (K : St O → Prop) : Prop := match ts with
  | [t, t'] => match Nat.beq t t', mkTU P t with
    | true, some (.slice e) => match szT P e, bytesT P e, zeroT P e, shp P 8 e with
      | some z, some by_, some zv, some sh => forceL sh fun sh => match Nat.beq z sh.length && Nat.blt 0 z && Nat.beq (acells zv).length z with
        | true => gatherD s.hp e sh x fun dn olds lo co => gatherS s.hp sh y fun news ln =>
          lo + ln ≤ 137438953472 ∧ must (Nat.ble by_ 1024 && Nat.blt nx 16777215) (
          match s.hp.get nx with
          | none => match dn with
            | some n => ∀ c' : Nat, lo + ln ≤ c' → c' ≤ 9223372036854775807 → putv { s with hp := (s.hp.set n (some .gone)).set nx (some (.rows e sh (olds ++ news) (c' * sh.length))), nx := nx + 1 } d (.sl nx 0 (lo + ln) c') K
            | none => must (Nat.blt 0 ln) (∀ c' : Nat, lo + ln ≤ c' → c' ≤ 9223372036854775807 → putv { s with hp := s.hp.set nx (some (.rows e sh (olds ++ news) (c' * sh.length))), nx := nx + 1 } d (.sl nx 0 (lo + ln) c') K)
          | some _ => False)
        | false => False
      | _, _, _, _ => False
    | _, _ => False
  | _ => False
theorem dens_cells {ρ : Rho} {L : List AV} {vals : List Value} (h : Dens ρ L vals) {arr : Array Value} {z : Nat} (ha : ∀ (j : Nat) (v : Value), vals[j]? = some v → arr[z + j]? = some v) : CellsAt ρ z L arr := fun i v hv => by
  obtain ⟨x, hx, dx⟩ := h.get hv
  exact ⟨x, ha i x hx, dx⟩
def aappend (P : Program) (s : St O) (d : Option Tmp) (ts : List TypeId) (x y : AV) (K : St O → Prop) : Prop := forceN s.nx fun nx => aappendN P s nx d ts x y K
theorem aappend_ok {c : Ctx} {s : St O} {d : Option Tmp} {ts : List TypeId} {x y : AV} {K : St O → Prop} (h : aappend P s d ts x y K) {a : Act} {w : World} (hd : a.defers = []) (hz : a.tmps.size = s.sz) {ρ : Rho} {fp : Nat → List Nat} (ht : TmOk ρ s.tm a.tmps)
    (hs : Sat I ρ fp s.hp w) (hc : Since c.w0 c.F0 c.ρ0 ρ fp w) {x' y' : Value} (hx : Den ρ x x') (hy : Den ρ y y') :
    ∃ v w', (∀ ty, (Builtin.append_ ts.toArray ty #[x', y']).run P w = .ok v w') ∧ KM I c ρ (fun _ => false) s.hp K (a.put d v) w' := by
  replace h := forceN_spec h
  unfold aappendN at h
  split at h
  · rename_i t t'
    split at h
    · rename_i e htt htu
      have htt := Nat.eq_of_beq_eq_true htt
      subst htt
      split at h
      · rename_i z by_ zv sh hsz hby hzv hsh
        have h := forceL_spec h
        split at h
        · rename_i hcond
          simp only [Bool.and_eq_true, Nat.beq_eq] at hcond
          obtain ⟨⟨hzl, hz0⟩, hzc⟩ := hcond
          have hz0 := blt_iff.1 hz0
          have hu := mkTU_slice htu
          obtain ⟨i, hi, hisz⟩ := szT_spec hsz
          have hib : i.bytes = by_ := by unfold bytesT at hby; rw [hi] at hby; simpa using hby
          obtain ⟨zz, rz, dz⟩ := zeroT_spec hzv
          have hzero : i.zero = some zz ∧ zz.cells.size = z := by
            unfold zeroT at hzv
            rw [hi] at hzv
            simp only at hzv
            cases hiz : i.zero with
            | none => rw [hiz] at hzv; cases hzv
            | some z1 =>
              have h1 := rz default
              simp [zeroValue, typeInfo, run_program, hi, hiz] at h1
              subst h1
              refine ⟨rfl, ?_⟩
              have := (acells_den (dz ρ)).length
              rw [hzc] at this; simpa using this.symm
          obtain ⟨hzero, hzs⟩ := hzero
          have fin : ∀ {w' : World} {ρ' : Rho} {fp' : Nat → List Nat} {hp' : Tr (AO O)} {l c' : Nat} {v : Value}, putv { s with hp := hp', nx := s.nx + 1 } d (.sl s.nx 0 l c') K → Ext ρ ρ' → Sat I ρ' fp' hp' w' → Since c.w0 c.F0 c.ρ0 ρ' fp' w' → Den ρ' (.sl s.nx 0 l c') v → KM I c ρ (fun _ => false) s.hp K (a.put d v) w' :=
            fun hk he hs' hc' hv => putv_ok (s := { s with hp := _, nx := s.nx + 1 }) hk hd hz (ht.mono he) hs' hc' hv he (fun _ _ h => by cases h)
          -- a new block
          have grown : ∀ {hp1 : Tr (AO O)} {fp1 : Nat → List Nat} {need c' : Nat} {vals : List Value} {xs : List Rw}, Sat I ρ fp1 hp1 w → Since c.w0 c.F0 c.ρ0 ρ fp1 w → hp1.get s.nx = none → Nat.blt s.nx 16777215 = true → Dens ρ (encL sh xs) vals → vals.length = need * z → xs.length = need → need ≤ c' → c' ≤ 9223372036854775807 →
              ∃ ρ' fp', Ext ρ ρ' ∧ Sat I ρ' fp' (hp1.set s.nx (some (.rows e sh xs (c' * sh.length)))) (w.drew.alloc (.cells (vals.toArray ++ Builtin.zeroCells zz.cells (c' - need)) e (0, 0))) ∧ Since c.w0 c.F0 c.ρ0 ρ' fp' (w.drew.alloc (.cells (vals.toArray ++ Builtin.zeroCells zz.cells (c' - need)) e (0, 0))) ∧ Den ρ' (.sl s.nx 0 need c') (.slice (some ⟨w.heap.size, 0, none⟩) need c') := by
            intro hp1 fp1 need c' vals xs hs1 hc1 hg1 hb1 hdv hvl hxl hle hmx
            have hw : ∀ q, q ∉ [w.heap.size] → q < w.heap.size → (w.drew.alloc (.cells (vals.toArray ++ Builtin.zeroCells zz.cells (c' - need)) e (0, 0))).heap[q]? = w.heap[q]? := fun q _ hq => heap_alloc_old w.drew _ hq
            have hsize : (vals.toArray ++ Builtin.zeroCells zz.cells (c' - need)).size = c' * z := by
              rw [Array.size_append, size_zeroCells, hzs]
              simp only [List.size_toArray, hvl]
              rw [← Nat.add_mul]; congr 1; omega
            have key := hs1.put (w' := w.drew.alloc (.cells (vals.toArray ++ Builtin.zeroCells zz.cells (c' - need)) e (0, 0))) (n := s.nx) (b := w.heap.size) (z := 0) (bs := [w.heap.size]) hb1 (o := .rows e sh xs (c' * sh.length)) hg1 hw
              (fun q hq m hm => by simp at hq; subst hq; exact absurd (hs1.lt hm) (Nat.lt_irrefl _))
              (fun q hq ob hb => by simp at hq; subst hq; exact absurd (Array.getElem?_eq_some_iff.1 (hs1.fz _ _ hb).1).1 (Nat.lt_irrefl _))
              ⟨w.heap.size, 0, _, by simp, rfl, heap_alloc_new w.drew _, by rw [hsize, hzl]; omega, by rw [hxl]; exact Nat.mul_le_mul_right _ hle, by
                refine CellsAt.mono (ρ := ρ) (fun m p hp => ?_) (dens_cells hdv fun j v hv => ?_)
                · have : m ≠ s.nx := fun e => by subst e; rw [(hs1.dom _ hg1).1] at hp; cases hp
                  simp only [if_neg this]; exact hp
                · have hj : j < vals.length := (List.getElem?_eq_some_iff.1 hv).1
                  rw [Nat.zero_add, Array.getElem?_append_left (by simpa using hj)]
                  simpa using hv⟩
            refine ⟨_, _, key.2, key.1, hc1.put key.2 rfl rfl rfl (by show w.heap.size ≤ (w.heap.push _).size; simp) hw (fun q hq => by simp at hq; subst hq; exact .inr hc1.size), ?_⟩
            exact Den.sl (b := w.heap.size) (z := 0) 0 need c' (by simp) hle hmx
          rcases gatherD_ok h hs hx with ⟨rfl, h⟩ | ⟨n, olds, lo, co, b, A, arr, h, hn, hlc, hcm, ⟨ob, hgn⟩, hfn, rfl, hbk, hA, ⟨hol, ov, hov, hoc, hod⟩⟩
          · obtain ⟨news, ln, h, hlm, hsrc⟩ := gatherS_ok h hs hy
            obtain ⟨hm2, h⟩ := h
            obtain ⟨hm3, h⟩ := must_spec h
            simp only [Bool.and_eq_true, Nat.ble_eq] at hm3
            obtain ⟨hby1, hm3⟩ := hm3
            have hm1 : (0 + ln) * by_ ≤ 140737488355328 := Nat.le_trans (Nat.mul_le_mul hm2 hby1) (by decide)
            split at h
            · rename_i hgx
              obtain ⟨hl0, h⟩ := must_spec h
              have hl0 := blt_iff.1 hl0
              rw [Nat.zero_add] at hm1 hm2
              rcases hsrc with ⟨_, hl, _⟩ | ⟨a2, c2, rfl, hnl, nv, hnv, hnc, hnd⟩
              · omega
              · have hrun := fun ty => run_append_nil (P := P) (w := w) t ty e i zz hu hi hzero a2 ln c2 nv (by rw [hnv, hisz, hzl]) hnc hl0 (by omega) (by rw [hib]; omega)
                have hge := grownCap_ge w ln 0 e
                have hle := grownCap_le_maxLen w ln 0 e (by simp only [maxLen]; omega)
                simp only [maxLen] at hle
                obtain ⟨ρ', fp', he, hs', hc', hv⟩ := grown (vals := nv) (xs := news) (need := ln) (c' := grownCap w ln 0 e) hs hc hgx hm3 hnd (by rw [hnv, hzl]) hnl hge hle
                refine ⟨_, _, hrun, fin (h (grownCap w ln 0 e) (by omega) hle) he (by simpa using hs') hc' (by simpa using hv)⟩
            · exact h.elim
          · obtain ⟨news, ln, h, hlm, hsrc⟩ := gatherS_ok h hs hy
            obtain ⟨hm2, h⟩ := h
            obtain ⟨hm3, h⟩ := must_spec h
            simp only [Bool.and_eq_true, Nat.ble_eq] at hm3
            obtain ⟨hby1, hm3⟩ := hm3
            have hm1 : (lo + ln) * by_ ≤ 140737488355328 := Nat.le_trans (Nat.mul_le_mul hm2 hby1) (by decide)
            split at h
            · rename_i hgx
              simp only at h
              have hne : n ≠ s.nx := fun e => by subst e; rw [hgx] at hgn; cases hgn
              have hs1 := hs.gone hn hgn
              have hc1 := hc.gone n
              have hg1 : (s.hp.set n (some .gone)).get s.nx = none := by rw [Tr.get_set_ne hne]; exact hgx
              -- the source's values
              obtain ⟨nv, hnl, hnv, hnd, hnc⟩ : ∃ nv : List Value, news.length = ln ∧ nv.length = ln * z ∧ Dens ρ (encL sh news) nv ∧ ((y' = .slice none 0 0 ∧ nv = [] ∧ ln = 0) ∨ ∃ a2 c2, y' = .slice (some a2) ln c2 ∧ ∀ j v, nv[j]? = some v → w.cell? (a2.add j) = some v) := by
                rcases hsrc with ⟨rfl, rfl, rfl⟩ | ⟨a2, c2, rfl, hnl, nv, hnv, hnc, hnd⟩
                · exact ⟨[], rfl, by simp, .nil, .inl ⟨rfl, rfl, rfl⟩⟩
                · exact ⟨nv, hnl, by rw [hnv, hzl], hnd, .inr ⟨a2, c2, rfl, hnc⟩⟩
              have hall : Dens ρ (encL sh (olds ++ news)) (ov ++ nv) := by rw [encL_append]; exact hod.append hnd
              have hlen : (olds ++ news).length = lo + ln := by simp [hol, hnl]
              by_cases hroom : lo + ln ≤ co
              · -- there is room: the new name takes over the block
                have h1 : ∀ u ∈ nv, u.oneCell' = true := allOne_den hnd (allOne_encL sh news)
                have hfit : A + lo * z + nv.length ≤ arr.size := by
                  rw [hnv]
                  have : (lo + ln) * z ≤ co * z := Nat.mul_le_mul_right _ hroom
                  rw [Nat.add_mul] at this
                  rw [← hzl] at hA; omega
                have hst := run_storeCells_at (P := P) b (A + lo * z) e nv 0 arr w hbk (by omega) h1
                simp only [Nat.add_zero] at hst
                let new : Array Value := (arr.toList.take (A + lo * z) ++ nv ++ arr.toList.drop (A + lo * z + nv.length)).toArray
                have hTl : (arr.toList.take (A + lo * z)).length = A + lo * z := by rw [List.length_take, Array.length_toList]; omega
                have hsz' : new.size = arr.size := by simp only [new, List.size_toArray, List.length_append, List.length_drop, hTl, Array.length_toList]; omega
                have hget1 : ∀ q, q < A + lo * z → new[q]? = arr[q]? := fun q hq => by
                  simp only [new, List.getElem?_toArray]
                  rw [List.append_assoc, List.getElem?_append_left (by rw [hTl]; exact hq), List.getElem?_take_of_lt hq]; simp
                have hget2 : ∀ q, q < nv.length → new[A + lo * z + q]? = nv[q]? := fun q hq => by
                  simp only [new, List.getElem?_toArray]
                  rw [List.append_assoc, List.getElem?_append_right (by rw [hTl]; omega), List.getElem?_append_left (by rw [hTl]; omega), hTl]
                  congr 1; omega
                have hcell : ∀ j v, (ov ++ nv)[j]? = some v → new[A + j]? = some v := fun j v hv => by
                  have hovz : ov.length = lo * z := by rw [hov, hzl]
                  by_cases hj : j < ov.length
                  · rw [List.getElem?_append_left hj] at hv
                    rw [hget1 _ (by omega)]
                    have := hoc j v hv
                    rw [addr_add] at this
                    simpa [World.cell?, hbk] using this
                  · rw [List.getElem?_append_right (by omega)] at hv
                    have hj2 : j - ov.length < nv.length := (List.getElem?_eq_some_iff.1 hv).1
                    have := hget2 _ hj2
                    rw [← hv, ← this]; congr 1; omega
                have hrun : ∀ ty, (Builtin.append_ #[t, t] ty #[.slice (some ⟨b, A, none⟩) lo co, y']).run P w = .ok (.slice (some ⟨b, A, none⟩) (lo + ln) co) (w.setRow b new) := fun ty => by
                  rcases hnc with ⟨rfl, rfl, rfl⟩ | ⟨a2, c2, rfl, hnc⟩
                  · have hnew : w.setRow b new = w := by
                      have : new = arr := by
                        apply Array.ext'
                        simp only [new]; simp
                      rw [this]; exact setRow_self w b arr e (0, 0) hbk
                    have hf := run_firstCells_none (P := P) (w := w) z 0 0 0
                    have hst2 : (storeCells (⟨b, A + lo * z, none⟩ : Addr) []).run P w = .ok () w := by
                      have := run_storeCells_at (P := P) b (A + lo * z) e [] 0 arr w hbk (by simp at hfit ⊢; omega) (by simp)
                      rw [this]
                      congr 1
                    have hr' : lo ≤ co := by omega
                    simp [Builtin.append_, run_underlying hu, sizeOf, typeInfo, hi, Builtin.lenOf, hr', hf, Addr.add_lit, hisz, hst2, hnew]
                  · have hf := run_firstCells_some (P := P) w z ln a2 ln c2 nv (by rw [hnv]) hnc
                    simp [Builtin.append_, run_underlying hu, sizeOf, typeInfo, hi, Builtin.lenOf, hroom, hf, Addr.add_lit, hisz]
                    rw [hst]; rfl
                have hblt : b < w.heap.size := (Array.getElem?_eq_some_iff.1 hbk).1
                have hwq : ∀ q, q ∉ [b] → q < w.heap.size → (w.setRow b new).heap[q]? = w.heap[q]? := fun q hq _ => by
                  simp at hq
                  exact setRow_other w b q new hq
                have key := hs1.put (w' := w.setRow b new) (n := s.nx) (b := b) (z := A) (bs := [b]) hm3 (o := .rows e sh (olds ++ news) (co * sh.length)) hg1 hwq
                  (fun q hq m hm => by
                    simp at hq; subst hq
                    by_cases em : m = n
                    · simp [em] at hm
                    · simp only [if_neg em] at hm
                      exact em (hs.dis _ _ _ hm (by rw [hfn]; simp)))
                  (fun q hq ob hb => by simp at hq; subst hq; exact (hs.fz _ _ hb).2 n (by rw [hfn]; simp))
                  ⟨b, A, new, by simp, rfl, setRow_heap w b arr new e (0, 0) hbk, by rw [hsz']; omega, by rw [hlen]; exact Nat.mul_le_mul_right _ hroom, by
                    refine CellsAt.mono (ρ := ρ) (fun m p hp => ?_) (dens_cells hall hcell)
                    have : m ≠ s.nx := fun e => by subst e; rw [(hs1.dom _ hg1).1] at hp; cases hp
                    simp only [if_neg this]; exact hp⟩
                have hsz2 : w.heap.size ≤ (w.setRow b new).heap.size := by rw [setRow_size]; exact Nat.le_refl _
                refine ⟨_, _, hrun, fin (h co hroom hcm) key.2 key.1 (hc1.put key.2 (setRow_os w b new) (setRow_tape w b new) (setRow_output w b new) hsz2 hwq (fun q hq => by simp at hq; subst hq; exact hc.own n q (by rw [hfn]; simp))) (Den.sl (b := b) (z := A) 0 (lo + ln) co (by simp) hroom hcm)⟩
              · -- a new block
                have hg : co < lo + ln := by omega
                rcases hnc with ⟨_, _, rfl⟩ | ⟨a2, c2, rfl, hnc⟩
                · omega
                have hrun := fun ty => run_append_grow (P := P) (w := w) t ty e i zz hu hi hzero ⟨b, A, none⟩ lo co ov (by rw [hov, hisz, hzl]) hoc a2 ln c2 nv (by rw [hnv, hisz]) hnc hg (by omega) (growslice_fits hg (by rw [hib]; omega))
                have hge := grownCap_ge w (lo + ln) co e
                have hle := grownCap_le_maxLen w (lo + ln) co e (by simp only [maxLen]; omega)
                simp only [maxLen] at hle
                obtain ⟨ρ', fp', he, hs', hc', hv⟩ := grown (vals := ov ++ nv) (xs := olds ++ news) (need := lo + ln) (c' := grownCap w (lo + ln) co e) hs1 hc1 hg1 hm3 hall (by rw [List.length_append, hov, hnv, ← hzl, Nat.add_mul]) hlen hge hle
                have harr : (ov.toArray ++ nv.toArray ++ Builtin.zeroCells zz.cells (grownCap w (lo + ln) co e - (lo + ln))) = ((ov ++ nv).toArray ++ Builtin.zeroCells zz.cells (grownCap w (lo + ln) co e - (lo + ln))) := by simp
                refine ⟨_, _, hrun, ?_⟩
                rw [harr]
                exact fin (h (grownCap w (lo + ln) co e) hge hle) he hs' hc' hv
            · exact h.elim
        · exact h.elim
      · exact h.elim
    · exact h.elim
  · exact h.elim

/-! ### make: a row of zero values -/
def amakeSlice (P : Program) (s : St O) (d : Option Tmp) (t : TypeId) (x y : AV) (K : St O → Prop) : Prop := match mkTU P t, x, y with
  | some (.slice e), .int _ l, .int _ c => match szT P e, bytesT P e, zeroT P e, shp P 8 e with
    | some z, some by_, some zv, some sh => forceL sh fun sh => match fitsA sh (acells zv), Nat.beq z sh.length && Nat.blt 0 z && Nat.beq (acells zv).length z with
      | true, true => (0 ≤ l ∧ l ≤ c ∧ c ≤ 137438953472) ∧ must (Nat.ble by_ 1024) (
        anew s (.rows e sh (List.replicate c.toNat (rwA (acells zv))) (c.toNat * sh.length)) fun n s => putv s d (.sl n 0 l.toNat c.toNat) K)
      | _, _ => False
    | _, _, _, _ => False
  | _, _, _ => False
theorem amakeSlice_ok {c : Ctx} {s : St O} {d : Option Tmp} {t : TypeId} {x y : AV} {K : St O → Prop} (h : amakeSlice P s d t x y K) {a : Act} {w : World} (hd : a.defers = []) (hz : a.tmps.size = s.sz) {ρ : Rho} {fp : Nat → List Nat} (ht : TmOk ρ s.tm a.tmps)
    (hs : Sat I ρ fp s.hp w) (hc : Since c.w0 c.F0 c.ρ0 ρ fp w) {x' y' : Value} (hx : Den ρ x x') (hy : Den ρ y y') :
    ∃ v w', (Instr.makeSlice t x' y').run P w = .ok v w' ∧ KM I c ρ (fun _ => false) s.hp K (a.put d v) w' := by
  unfold amakeSlice at h
  split at h
  · rename_i e kl l kc cc htu
    split at h
    · rename_i z by_ zv sh hsz hby hzv hsh
      have h := forceL_spec h
      split at h
      · rename_i hr hcond
        let r := rwA (acells zv)
        simp only [Bool.and_eq_true, Nat.beq_eq] at hcond
        obtain ⟨⟨hzl, hz0⟩, hzc⟩ := hcond
        have hz0 := blt_iff.1 hz0
        have hu := mkTU_slice htu
        obtain ⟨i, hi, hisz⟩ := szT_spec hsz
        have hib : i.bytes = by_ := by unfold bytesT at hby; rw [hi] at hby; simpa using hby
        obtain ⟨zz, rz, dz⟩ := zeroT_spec hzv
        have hzero : i.zero = some zz := by
          unfold zeroT at hzv
          rw [hi] at hzv
          simp only at hzv
          cases hiz : i.zero with
          | none => rw [hiz] at hzv; cases hzv
          | some z1 =>
            have h1 := rz default
            simp [zeroValue, typeInfo, run_program, hi, hiz] at h1
            rw [h1]
        obtain ⟨⟨hl0, hlc, hcm⟩, h⟩ := h
        obtain ⟨hby1, h⟩ := must_spec h
        have hby1 := Nat.le_of_ble_eq_true hby1
        have hcb : cc * (by_ : Int) ≤ 281474976710656 := Int.le_trans (Int.mul_le_mul hcm (show (by_ : Int) ≤ 1024 by omega) (by omega) (by omega)) (by decide)
        obtain ⟨hg, hb, hk⟩ := anew_spec h
        cases hx; cases hy
        have hrun := run_make (P := P) (w := w) (kl := kl) (kc := kc) (l := l) (c := cc) t e i zz hu hi hzero (by omega) (by omega) (by rw [hib, Int.mul_comm]; exact hcb) (by omega)
        have he : encR r 0 sh = acells zv := encR_rwA hr
        have hcells : Dens ρ (encL sh (List.replicate cc.toNat r)) (madeCells zz.cells (cc.toNat * i.size)).toList := by
          have hzd := acells_den (dz ρ)
          have hzn : zz.cells.toList.length = z := by rw [← hzd.length, hzc]
          refine Dens.of (by rw [encL_length]; simp [madeCells, hisz, hzl]) fun q v hv => ?_
          have hq : q < cc.toNat * z := by have := (List.getElem?_eq_some_iff.1 hv).1; rw [encL_length, ← hzl] at this; simpa using this
          have hqd : q / z < cc.toNat := (Nat.div_lt_iff_lt_mul hz0).2 hq
          have hqm : q % z < z := Nat.mod_lt _ hz0
          have hqe : q / z * z + q % z = q := by rw [Nat.mul_comm]; exact Nat.div_add_mod q z
          have h1 := encL_get (sh := sh) (xs := List.replicate cc.toNat r) (i := q / z) (x := r) (by rw [List.getElem?_replicate]; simp [hqd]) (j := q % z) (by omega)
          rw [← hzl, hqe, hv, he] at h1
          obtain ⟨u, hu', du⟩ := hzd.get h1.symm
          refine ⟨u, ?_, du⟩
          have hqz : q % zz.cells.size < zz.cells.size := by simp at hzn; rw [hzn]; exact hqm
          have e2 : zz.cells[q % zz.cells.size]! = u := by
            have : zz.cells.size = z := by simpa using hzn
            rw [getElem!_pos zz.cells _ hqz]
            have h3 : zz.cells.toList[q % z]? = some (zz.cells[q % zz.cells.size]) := by
              simp [this, hqm]
            rw [hu'] at h3; exact (Option.some.inj h3).symm
          simp [madeCells, hisz, hq, e2]
        have hw : ∀ q, q ∉ [w.heap.size] → q < w.heap.size → (w.alloc (.cells (madeCells zz.cells (cc.toNat * i.size)) e (0, 0))).heap[q]? = w.heap[q]? := fun q _ hq => heap_alloc_old w _ hq
        have hsize : (madeCells zz.cells (cc.toNat * i.size)).size = cc.toNat * z := by simp [madeCells, hisz]
        have key := hs.put (w' := w.alloc (.cells (madeCells zz.cells (cc.toNat * i.size)) e (0, 0))) (n := s.nx) (b := w.heap.size) (z := 0) (bs := [w.heap.size]) hb (o := .rows e sh (List.replicate cc.toNat r) (cc.toNat * sh.length)) hg hw
          (fun q hq m hm => by simp at hq; subst hq; exact absurd (hs.lt hm) (Nat.lt_irrefl _))
          (fun q hq ob hb => by simp at hq; subst hq; exact absurd (Array.getElem?_eq_some_iff.1 (hs.fz _ _ hb).1).1 (Nat.lt_irrefl _))
          ⟨w.heap.size, 0, _, by simp, rfl, heap_alloc_new w _, by rw [hsize, hzl]; omega, by simp, by
            refine CellsAt.mono (ρ := ρ) (fun m p hp => ?_) (dens_cells hcells fun j v hv => ?_)
            · have : m ≠ s.nx := fun e => by subst e; rw [(hs.dom _ hg).1] at hp; cases hp
              simp only [if_neg this]; exact hp
            · simpa using hv⟩
        have hkm := putv_ok (s := { s with hp := s.hp.set s.nx (some (.rows e sh (List.replicate cc.toNat r) (cc.toNat * sh.length))), nx := s.nx + 1 }) hk hd hz (ht.mono key.2) key.1 (hc.put key.2 rfl rfl rfl (by show w.heap.size ≤ (w.heap.push _).size; simp) hw (fun q hq => by simp at hq; subst hq; exact .inr hc.size))
          (Den.sl (b := w.heap.size) (z := 0) 0 l.toNat cc.toNat (by simp) (by omega) (by omega)) key.2 (fun _ _ h => by cases h) (p := fun _ => false) (h0 := s.hp)
        exact ⟨_, _, hrun, hkm⟩
      · exact h.elim
    · exact h.elim
  · exact h.elim
end Go.Tb
