/- Buffers: plain facts of what lies there. -/
import Derived.Test.YtojppaicjioohaaB1
set_option linter.all false
set_option maxRecDepth 100000
namespace Go.Tb.W
open Go Go.Proofs
abbrev Th := List (Int × ByteArray)
theorem nd_len : ∀ {l m : List Int}, l.Nodup → l ⊆ m → l.length ≤ m.length
  | [], m, _, _ => Nat.zero_le _
  | a :: l, m, hn, hs => by
    obtain ⟨h1, h2⟩ := List.nodup_cons.1 hn
    have ha : a ∈ m := hs (List.mem_cons_self ..)
    have := nd_len (m := m.erase a) h2 fun x hx => (List.mem_erase_of_ne (fun e => h1 (by rw [← e]; exact hx))).2 (hs (List.mem_cons_of_mem _ hx))
    rw [List.length_erase_of_mem ha] at this
    have := List.length_pos_of_mem ha
    simp only [List.length_cons]; omega
theorem mem_line {th : Th} {i : Int} {t : ByteArray} : t ∈ lineOf th i ↔ (i, t) ∈ th := by
  unfold lineOf
  rw [List.mem_map]
  constructor
  · rintro ⟨⟨a, b⟩, h, rfl⟩
    obtain ⟨h1, h2⟩ := List.mem_filter.1 h
    have := of_decide_eq_true h2
    simp only at this; subst this; exact h1
  · intro h
    exact ⟨(i, t), List.mem_filter.2 ⟨h, by simp⟩, rfl⟩
theorem line_nil {th : Th} {i : Int} : lineOf th i = [] ↔ ∀ p ∈ th, p.1 ≠ i := by
  constructor
  · rintro h ⟨a, b⟩ hp rfl
    have := mem_line.2 hp
    rw [h] at this; cases this
  · intro h
    cases e : lineOf th i with
    | nil => rfl
    | cons t l =>
      have : t ∈ lineOf th i := by rw [e]; exact List.mem_cons_self ..
      exact absurd rfl (h _ (mem_line.1 this))
theorem mem_keys {k : Int} : ∀ {th : Th}, k ∈ keysOf th ↔ ∃ p ∈ th, p.1 = k
  | [] => by simp [keysOf]
  | q :: l => by
    have ih := mem_keys (k := k) (th := l)
    unfold keysOf
    split
    · rename_i h
      rw [ih]
      constructor
      · rintro ⟨p, h1, h2⟩; exact ⟨p, List.mem_cons_of_mem _ h1, h2⟩
      · rintro ⟨p, h1, h2⟩
        rcases List.mem_cons.1 h1 with rfl | h1
        · exact ih.1 (h2 ▸ h)
        · exact ⟨p, h1, h2⟩
    · rw [List.mem_cons, ih]
      constructor
      · rintro (rfl | ⟨p, h1, h2⟩)
        · exact ⟨q, List.mem_cons_self .., rfl⟩
        · exact ⟨p, List.mem_cons_of_mem _ h1, h2⟩
      · rintro ⟨p, h1, h2⟩
        rcases List.mem_cons.1 h1 with rfl | h1
        · exact .inl h2.symm
        · exact .inr ⟨p, h1, h2⟩
theorem keys_nd : ∀ {th : Th}, (keysOf th).Nodup
  | [] => List.nodup_nil
  | q :: l => by
    unfold keysOf
    split
    · exact keys_nd
    · rename_i h; exact List.nodup_cons.2 ⟨h, keys_nd⟩
theorem key_line {th : Th} {k : Int} : k ∈ keysOf th ↔ lineOf th k ≠ [] := by
  rw [mem_keys, Ne, line_nil]
  constructor
  · rintro ⟨p, h, e⟩ hn; exact hn p h e
  · intro h
    refine Classical.byContradiction fun hn => h fun p hp e => hn ⟨p, hp, e⟩
theorem keys_of {th : Th} {ks : List Int} (hn : ks.Nodup) (h : ∀ k, k ∈ ks ↔ lineOf th k ≠ []) : ks.Perm (keysOf th) :=
  (List.perm_ext_iff_of_nodup hn keys_nd).2 fun k => (h k).trans key_line.symm
theorem line_snoc (th : Th) (i : Int) (t : ByteArray) (j : Int) : lineOf (th ++ [(i, t)]) j = if i = j then lineOf th j ++ [t] else lineOf th j := by
  unfold lineOf
  rw [List.filter_append, List.map_append]
  by_cases h : i = j <;> simp [h]
theorem line_filter {th : Th} {p : Int × ByteArray → Bool} {j : Int} (q : Bool) (h : ∀ t, p (j, t) = q) : lineOf (th.filter p) j = if q then lineOf th j else [] := by
  unfold lineOf
  rw [List.filter_filter]
  cases q with
  | true =>
    rw [if_pos rfl]
    congr 1
    refine List.filter_congr fun x hx => ?_
    obtain ⟨a, b⟩ := x
    by_cases e : a = j
    · subst e; simp [h]
    · simp [e]
  | false =>
    rw [if_neg (by simp)]
    rw [List.map_eq_nil_iff, List.filter_eq_nil_iff]
    rintro ⟨a, b⟩ hx he
    simp at he
    obtain ⟨e, h2⟩ := he
    subst e
    rw [h] at h2; cases h2
theorem line_take (th : Th) (i j : Int) : lineOf (th.filter (fun p => !decide (p.1 = i))) j = if j = i then [] else lineOf th j := by
  rw [line_filter (!decide (j = i)) (fun t => rfl)]
  by_cases h : j = i <;> simp [h]
theorem line_drop (th : Th) (b j : Int) : lineOf (th.filter (fun p => !decide (p.1 < b))) j = if j < b then [] else lineOf th j := by
  rw [line_filter (!decide (j < b)) (fun t => rfl)]
  by_cases h : j < b <;> simp [h]
theorem line_len (th : Th) (i : Int) : (lineOf th i).length + (th.filter (fun p => !decide (p.1 = i))).length = th.length := by
  unfold lineOf
  rw [List.length_map]
  have := (List.filter_append_perm (fun p : Int × ByteArray => decide (p.1 = i)) th).length_eq
  simpa using this
theorem drop_len (th : Th) (b : Int) : (th.filter (fun p => decide (p.1 < b))).length + (th.filter (fun p => !decide (p.1 < b))).length = th.length := by
  have := (List.filter_append_perm (fun p : Int × ByteArray => decide (p.1 < b)) th).length_eq
  simpa using this
theorem line_nd {th : Th} (h : th.Nodup) (i : Int) : (lineOf th i).Nodup := by
  unfold lineOf
  refine List.pairwise_map.2 ?_
  refine List.Pairwise.imp_of_mem (fun {a b} ha hb hab e => ?_) (h.sublist (List.filter_sublist ..))
  obtain ⟨_, h1⟩ := List.mem_filter.1 ha
  obtain ⟨_, h2⟩ := List.mem_filter.1 hb
  have h1 := of_decide_eq_true h1
  have h2 := of_decide_eq_true h2
  exact hab (Prod.ext (h1.trans h2.symm) e)
theorem keys_snoc_new {th : Th} {i : Int} {t : ByteArray} (h : lineOf th i = []) : (keysOf (th ++ [(i, t)])).length = (keysOf th).length + 1 := by
  have : (i :: keysOf th).Perm (keysOf (th ++ [(i, t)])) := keys_of (List.nodup_cons.2 ⟨fun hk => key_line.1 hk h, keys_nd⟩) fun k => by
    rw [List.mem_cons, line_snoc, key_line]
    by_cases e : i = k
    · simp [e]
    · rw [if_neg e]
      constructor
      · rintro (rfl | h')
        · exact absurd rfl e
        · exact h'
      · exact .inr
  have := this.length_eq
  simp at this; omega
theorem keys_snoc_old {th : Th} {i : Int} {t : ByteArray} (h : lineOf th i ≠ []) : (keysOf (th ++ [(i, t)])).length = (keysOf th).length := by
  have : (keysOf th).Perm (keysOf (th ++ [(i, t)])) := keys_of keys_nd fun k => by
    rw [line_snoc, key_line]
    by_cases e : i = k
    · subst e; simp [h]
    · rw [if_neg e]
  exact this.length_eq.symm
theorem keys_sub {th th' : Th} (h : ∀ p ∈ th', p ∈ th) : (keysOf th').length ≤ (keysOf th).length := by
  have hs : (keysOf th') ⊆ keysOf th := fun k hk => by
    obtain ⟨p, h1, h2⟩ := mem_keys.1 hk
    exact mem_keys.2 ⟨p, h p h1, h2⟩
  exact nd_len keys_nd hs
theorem line_le_sub {th th' : Th} (h : th'.Sublist th) (i : Int) : (lineOf th' i).length ≤ (lineOf th i).length := ((h.filter _).map _).length_le
theorem keys_take (th : Th) (i : Int) : (keysOf (th.filter (fun p => !decide (p.1 = i)))).Perm ((keysOf th).filter (fun k => !decide (k = i))) :=
  (keys_of (keys_nd.sublist (List.filter_sublist ..)) fun k => by
    rw [List.mem_filter, key_line, line_take]
    by_cases e : k = i <;> simp [e]).symm
/-- How many there are at most. -/
theorem count_le {e : Nat} : ∀ (ks : List Int) (th : Th), (∀ p ∈ th, p.1 ∈ ks) → (∀ i, (lineOf th i).length ≤ e) → th.length ≤ ks.length * e
  | [], th, h, _ => by
    cases th with
    | nil => simp
    | cons p l => have := h p (List.mem_cons_self ..); simp at this
  | k :: ks, th, h, hl => by
    have h1 := line_len th k
    have h2 := count_le ks (th.filter (fun p => !decide (p.1 = k))) (fun p hp => by
      obtain ⟨hp1, hp2⟩ := List.mem_filter.1 hp
      rcases List.mem_cons.1 (h p hp1) with e | e
      · simp [e] at hp2
      · exact e) (fun i => by
        rw [line_take]
        split
        · simp
        · exact hl i)
    have h3 := hl k
    simp only [List.length_cons, Nat.add_mul, Nat.one_mul]
    omega
theorem keys_le (th : Th) : (keysOf th).length ≤ th.length := by
  have hs : (keysOf th) ⊆ th.map (·.1) := fun k hk => by
    obtain ⟨p, h1, h2⟩ := mem_keys.1 hk
    exact List.mem_map.2 ⟨p, h1, h2⟩
  have := nd_len keys_nd hs
  simpa using this
theorem okB.cnt {s : Bf} (h : okB s) : (s.th.length : Int) ≤ ((keysOf s.th).length : Int) * s.each := by
  have h0 := h.e1
  have := count_le (e := s.each.toNat) (keysOf s.th) s.th (fun p hp => mem_keys.2 ⟨p, hp, rfl⟩) (fun i => by have := h.ln i; omega)
  have h2 : ((s.th.length : Nat) : Int) ≤ (((keysOf s.th).length * s.each.toNat : Nat) : Int) := by exact_mod_cast this
  rw [Int.natCast_mul, Int.toNat_of_nonneg (by omega)] at h2
  exact h2
theorem okB.cnt2 {s : Bf} (h : okB s) : (s.th.length : Int) ≤ 4096 := by
  have h1 := h.cnt
  have h2 := h.ks
  have h3 := h.r2
  have h4 := h.e2
  have h5 := h.e1
  have : ((keysOf s.th).length : Int) * s.each ≤ 64 * 64 := Int.mul_le_mul (by omega) h4 (by omega) (by omega)
  omega
theorem okB_new {e r : Int} (h : badB e r = false) : okB (newB e r) := by
  have := of_decide_eq_false h
  refine ⟨?_, ?_, ?_, ?_, List.nodup_nil, fun p hp => (by cases hp), fun i => ?_, ?_⟩ <;> simp only [newB] <;> first | omega | (simp [lineOf]; omega) | (simp [keysOf]; omega)
theorem putC_0 {s : Bf} {i : Int} {t : ByteArray} (h : putC s i t = 0) : 1 ≤ i ∧ t ∉ lineOf s.th i ∧ ¬ (lineOf s.th i = [] ∧ ((keysOf s.th).length : Int) = s.room) ∧ ((lineOf s.th i).length : Int) < s.each := by
  unfold putC at h
  split at h
  · cases h
  · split at h
    · cases h
    · split at h
      · cases h
      · rename_i h1 h2 h3
        exact ⟨by omega, fun hm => h2 (hasT_iff.2 hm), fun e => h3 (.inl e), by omega⟩
theorem okB.put {s : Bf} (h : okB s) (i : Int) (t : ByteArray) : okB (putS s i t) := by
  unfold putS
  split
  · rename_i h0
    obtain ⟨h1, h2, h3, h4⟩ := putC_0 h0
    refine ⟨h.e1, h.e2, h.r1, h.r2, ?_, fun p hp => ?_, fun j => ?_, ?_⟩
    · refine List.nodup_append.2 ⟨h.nd, by simp, fun a ha b hb e => ?_⟩
      simp at hb; subst hb; subst e
      exact h2 (mem_line.2 ha)
    · rcases List.mem_append.1 hp with hp | hp
      · exact h.ps p hp
      · simp at hp; subst hp; exact h1
    · show ((lineOf (s.th ++ [(i, t)]) j).length : Int) ≤ s.each
      rw [line_snoc]
      split
      · rename_i e; subst e; simp; omega
      · exact h.ln j
    · show ((keysOf (s.th ++ [(i, t)])).length : Int) ≤ s.room
      have := h.ks
      by_cases e : lineOf s.th i = []
      · rw [keys_snoc_new e]
        have : ¬ ((keysOf s.th).length : Int) = s.room := fun hh => h3 ⟨e, hh⟩
        omega
      · rw [keys_snoc_old e]; exact this
  · split
    · exact ⟨h.e1, h.e2, h.r1, h.r2, h.nd, h.ps, h.ln, h.ks⟩
    · exact h
theorem okB.sub {s : Bf} (h : okB s) {th' : Th} (hs : th'.Sublist s.th) : okB { s with th := th' } :=
  ⟨h.e1, h.e2, h.r1, h.r2, h.nd.sublist hs, fun p hp => h.ps p (hs.mem hp), fun i => by
    have h1 := h.ln i
    have h2 := line_le_sub hs i
    show ((lineOf th' i).length : Int) ≤ s.each
    omega, by
    have h1 := h.ks
    have h2 := keys_sub (th := s.th) (th' := th') (fun p hp => hs.mem hp)
    show ((keysOf th').length : Int) ≤ s.room
    omega⟩
theorem okB.take {s : Bf} (h : okB s) (i : Int) : okB (takeS s i) := h.sub (List.filter_sublist ..)
theorem okB.drop {s : Bf} (h : okB s) (b : Int) : okB (dropS s b) := h.sub (List.filter_sublist ..)

/-! ### The slots of what lies there -/
structure SOf (th : Th) (each : Int) (hid : List Slot) : Prop where
  nd : (hid.map (·.k)).Nodup
  ok : ∀ x ∈ hid, x.cap = each.toNat ∧ x.line = lineOf th x.k ∧ x.line ≠ []
  all : ∀ p ∈ th, p.1 ∈ hid.map (·.k)
abbrev slotOf (th : Th) (each i : Int) : Slot := ⟨i, each.toNat, lineOf th i⟩
theorem SOf.perm {th : Th} {each : Int} {hid hid' : List Slot} (h : SOf th each hid) (p : hid'.Perm hid) : SOf th each hid' :=
  ⟨(p.map _).nodup_iff.2 h.nd, fun x hx => h.ok x (p.mem_iff.1 hx), fun q hq => (p.map _).mem_iff.2 (h.all q hq)⟩
theorem SOf.keys {th : Th} {each : Int} {hid : List Slot} (h : SOf th each hid) : (hid.map (·.k)).Perm (keysOf th) := keys_of h.nd fun k => by
  constructor
  · intro hk
    obtain ⟨x, hx, rfl⟩ := List.mem_map.1 hk
    obtain ⟨_, h2, h3⟩ := h.ok x hx
    rw [← h2]; exact h3
  · intro hk
    obtain ⟨p, h1, h2⟩ := mem_keys.1 (key_line.2 hk)
    rw [← h2]; exact h.all p h1
theorem SOf.len {th : Th} {each : Int} {hid : List Slot} (h : SOf th each hid) : hid.length = (keysOf th).length := by simpa using h.keys.length_eq
theorem SOf.no {th : Th} {each : Int} {hid : List Slot} (h : SOf th each hid) {i : Int} (hi : lineOf th i = []) : slotsNo hid i = true := slotsNo_iff.2 fun s hs e => by
  obtain ⟨_, h2, h3⟩ := h.ok s hs
  rw [h2, e] at h3; exact h3 hi
theorem SOf.slot {th : Th} {each : Int} {hid : List Slot} (h : SOf th each hid) {i : Int} (hi : lineOf th i ≠ []) : slotOf th each i ∈ hid := by
  have : i ∈ hid.map (·.k) := h.keys.mem_iff.2 (key_line.2 hi)
  obtain ⟨x, hx, rfl⟩ := List.mem_map.1 this
  obtain ⟨h1, h2, _⟩ := h.ok x hx
  obtain ⟨k, cap, line⟩ := x
  simp only at h1 h2
  subst h1; subst h2
  exact hx
theorem SOf.rest {th : Th} {each i : Int} {hid : List Slot} (h : SOf th each (slotOf th each i :: hid)) : SOf (th.filter (fun p => !decide (p.1 = i))) each hid := by
  have hnd := h.nd
  simp only [List.map_cons, List.nodup_cons] at hnd
  have hne : ∀ x ∈ hid, x.k ≠ i := fun x hx e => hnd.1 (List.mem_map.2 ⟨x, hx, e⟩)
  refine ⟨hnd.2, fun x hx => ?_, fun p hp => ?_⟩
  · obtain ⟨h1, h2, h3⟩ := h.ok x (List.mem_cons_of_mem _ hx)
    exact ⟨h1, by rw [line_take, if_neg (hne x hx)]; exact h2, h3⟩
  · obtain ⟨h1, h2⟩ := List.mem_filter.1 hp
    have h2 : ¬ p.1 = i := by simpa using h2
    rcases List.mem_cons.1 (h.all p h1) with e | e
    · exact absurd e h2
    · exact e
theorem SOf.grow {th : Th} {each i : Int} {t : ByteArray} {hid : List Slot} (h : SOf th each (slotOf th each i :: hid)) : SOf (th ++ [(i, t)]) each (slotOf (th ++ [(i, t)]) each i :: hid) := by
  have hnd := h.nd
  simp only [List.map_cons, List.nodup_cons] at hnd
  have hne : ∀ x ∈ hid, x.k ≠ i := fun x hx e => hnd.1 (List.mem_map.2 ⟨x, hx, e⟩)
  refine ⟨h.nd, fun x hx => ?_, fun p hp => ?_⟩
  · rcases List.mem_cons.1 hx with rfl | hx
    · exact ⟨rfl, rfl, by show lineOf (th ++ [(i, t)]) i ≠ []; rw [line_snoc, if_pos rfl]; simp⟩
    · obtain ⟨h1, h2, h3⟩ := h.ok x (List.mem_cons_of_mem _ hx)
      exact ⟨h1, by rw [line_snoc, if_neg (fun e => hne x hx e.symm)]; exact h2, h3⟩
  · rcases List.mem_append.1 hp with hp | hp
    · exact h.all p hp
    · simp at hp; subst hp; exact List.mem_cons_self ..
theorem SOf.fresh {th : Th} {each i : Int} {t : ByteArray} {hid : List Slot} (h : SOf th each hid) (hi : lineOf th i = []) : SOf (th ++ [(i, t)]) each (slotOf (th ++ [(i, t)]) each i :: hid) := by
  have hne : ∀ x ∈ hid, x.k ≠ i := slotsNo_iff.1 (h.no hi)
  refine ⟨?_, fun x hx => ?_, fun p hp => ?_⟩
  · simp only [List.map_cons, List.nodup_cons]
    exact ⟨fun hm => by obtain ⟨x, hx, e⟩ := List.mem_map.1 hm; exact hne x hx e, h.nd⟩
  · rcases List.mem_cons.1 hx with rfl | hx
    · exact ⟨rfl, rfl, by show lineOf (th ++ [(i, t)]) i ≠ []; rw [line_snoc, if_pos rfl]; simp⟩
    · obtain ⟨h1, h2, h3⟩ := h.ok x hx
      exact ⟨h1, by rw [line_snoc, if_neg (fun e => hne x hx e.symm)]; exact h2, h3⟩
  · rcases List.mem_append.1 hp with hp | hp
    · exact List.mem_cons_of_mem _ (h.all p hp)
    · simp at hp; subst hp; exact List.mem_cons_self ..
theorem SOf.none_take {th : Th} {each i : Int} {hid : List Slot} (h : SOf th each hid) (hi : lineOf th i = []) : SOf (th.filter (fun p => !decide (p.1 = i))) each hid := by
  rw [List.filter_eq_self.2 (fun p hp => by simpa using line_nil.1 hi p hp)]
  exact h
theorem take_none {s : Bf} {i : Int} (hi : lineOf s.th i = []) : takeS s i = s := by
  unfold takeS
  rw [List.filter_eq_self.2 (fun p hp => by simpa using line_nil.1 hi p hp)]
theorem SOf.nil (each : Int) : SOf [] each [] := ⟨List.nodup_nil, fun x hx => (by cases hx), fun p hp => (by cases hp)⟩
end Go.Tb.W
