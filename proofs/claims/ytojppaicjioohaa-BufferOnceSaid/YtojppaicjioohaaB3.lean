/- Buffers: the package that a buffer is, with one interval looked at or none. -/
import Derived.Test.YtojppaicjioohaaBP
import Derived.Test.YtojppaicjioohaaB2
set_option linter.all false
set_option maxRecDepth 100000
namespace Go.Tb
open Go
/-- What a world holds of objects, told by names below n alone. -/
theorem sat_two {O : Type} {o0 o1 : AO O} {b0 b1 : Nat × Nat} {f0 f1 : List Nat} {w : World} {ρ : Rho} (h0 : okO (baseI O) ρ 0 f0 w o0) (h1 : okO (baseI O) ρ 1 f1 w o1) (e0 : ρ 0 = some b0) (e1 : ρ 1 = some b1) (n0 : nmO (fun n => Nat.blt n 2) o0 = true) (n1 : nmO (fun n => Nat.blt n 2) o1 = true)
    (i0 : rnO (fun n => n) o0 = o0) (i1 : rnO (fun n => n) o1 = o1) (hd : ∀ x, x ∈ f0 → x ∈ f1 → False) :
    Sat (baseI O) (fun n => if n = 0 then some b0 else if n = 1 then some b1 else none) (fun n => if n = 0 then f0 else if n = 1 then f1 else []) (Tr.ofList 0 [o0, o1] .leaf) w := by
  have e : Tells (fun n => Nat.blt n 2) (fun n => n) ρ (fun n => if n = 0 then some b0 else if n = 1 then some b1 else none) := fun n q hn hq => by
    have : n < 2 := blt_iff.1 hn
    have : n = 0 ∨ n = 1 := by omega
    rcases this with rfl | rfl
    · rw [e0] at hq; cases hq; rfl
    · rw [e1] at hq; cases hq; rfl
  refine ⟨fun n o hn => ?_, fun n hn => ?_, fun n m x hx hy => ?_, fun _ _ h => by cases h⟩
  · have := ofList_get0 (by simp) hn
    match n, this with
    | 0, this => simp at this; subst this; have := okO.ren e rfl h0 n0; rw [i0] at this; simpa using this
    | 1, this => simp at this; subst this; have := okO.ren e rfl h1 n1; rw [i1] at this; simpa using this
  · have hn' : ¬ n < 2 := fun hl => by
      have : n = 0 ∨ n = 1 := by omega
      rcases this with rfl | rfl
      · rw [ofList_mem (o := o0) (by simp) rfl] at hn; cases hn
      · rw [ofList_mem (o := o1) (by simp) rfl] at hn; cases hn
    have a : n ≠ 0 := by omega
    have b : n ≠ 1 := by omega
    simp [a, b]
  · by_cases a : n = 0 <;> by_cases b : m = 0 <;> by_cases c : n = 1 <;> by_cases d : m = 1 <;> simp [a, b, c, d] at hx hy ⊢ <;> first | omega | exact hd _ hx hy | exact hd _ hy hx
theorem sat_four {O : Type} {o0 o1 o2 o3 : AO O} {b0 b1 b2 b3 : Nat × Nat} {f0 f1 f2 f3 : List Nat} {w : World}
    (h0 : okO (baseI O) (fun n => if n = 0 then some b0 else if n = 1 then some b1 else if n = 2 then some b2 else if n = 3 then some b3 else none) 0 f0 w o0)
    (h1 : okO (baseI O) (fun n => if n = 0 then some b0 else if n = 1 then some b1 else if n = 2 then some b2 else if n = 3 then some b3 else none) 1 f1 w o1)
    (h2 : okO (baseI O) (fun n => if n = 0 then some b0 else if n = 1 then some b1 else if n = 2 then some b2 else if n = 3 then some b3 else none) 2 f2 w o2)
    (h3 : okO (baseI O) (fun n => if n = 0 then some b0 else if n = 1 then some b1 else if n = 2 then some b2 else if n = 3 then some b3 else none) 3 f3 w o3)
    (h01 : ∀ x, x ∈ f0 → x ∈ f1 → False) (h02 : ∀ x, x ∈ f0 → x ∈ f2 → False) (h03 : ∀ x, x ∈ f0 → x ∈ f3 → False) (h12 : ∀ x, x ∈ f1 → x ∈ f2 → False) (h13 : ∀ x, x ∈ f1 → x ∈ f3 → False) (h23 : ∀ x, x ∈ f2 → x ∈ f3 → False) :
    Sat (baseI O) (fun n => if n = 0 then some b0 else if n = 1 then some b1 else if n = 2 then some b2 else if n = 3 then some b3 else none) (fun n => if n = 0 then f0 else if n = 1 then f1 else if n = 2 then f2 else if n = 3 then f3 else []) (Tr.ofList 0 [o0, o1, o2, o3] .leaf) w := by
  have cases4 : ∀ n : Nat, n = 0 ∨ n = 1 ∨ n = 2 ∨ n = 3 ∨ (n ≠ 0 ∧ n ≠ 1 ∧ n ≠ 2 ∧ n ≠ 3) := fun n => by omega
  refine ⟨fun n o hn => ?_, fun n hn => ?_, fun n m x hx hy => ?_, fun _ _ h => by cases h⟩
  · have := ofList_get0 (by simp) hn
    match n, this with
    | 0, this => simp at this; subst this; exact h0
    | 1, this => simp at this; subst this; exact h1
    | 2, this => simp at this; subst this; exact h2
    | 3, this => simp at this; subst this; exact h3
  · rcases cases4 n with rfl | rfl | rfl | rfl | ⟨a, b, c, d⟩
    · rw [ofList_mem (o := o0) (by simp) rfl] at hn; cases hn
    · rw [ofList_mem (o := o1) (by simp) rfl] at hn; cases hn
    · rw [ofList_mem (o := o2) (by simp) rfl] at hn; cases hn
    · rw [ofList_mem (o := o3) (by simp) rfl] at hn; cases hn
    · simp [a, b, c, d]
  · rcases cases4 n with rfl | rfl | rfl | rfl | ⟨a, b, c, d⟩ <;> rcases cases4 m with rfl | rfl | rfl | rfl | ⟨a', b', c', d'⟩ <;> simp_all <;>
      first | exact h01 _ hx hy | exact h01 _ hy hx | exact h02 _ hx hy | exact h02 _ hy hx | exact h03 _ hx hy | exact h03 _ hy hx | exact h12 _ hx hy | exact h12 _ hy hx | exact h13 _ hx hy | exact h13 _ hy hx | exact h23 _ hx hy | exact h23 _ hy hx
theorem SlotsAt.app {w : World} : ∀ {a b : List Slot} {es : List MapEntry} {fp : List Nat}, SlotsAt w es (a ++ b) fp → ∃ ea eb fa fb, es = ea ++ eb ∧ fp = fa ++ fb ∧ SlotsAt w ea a fa ∧ SlotsAt w eb b fb
  | [], b, es, fp, h => ⟨[], es, [], fp, rfl, rfl, rfl, h⟩
  | s :: a, b, [], fp, h => h.elim
  | s :: a, b, e :: es, fp, h => by
    obtain ⟨f, g, h1, h2, rfl⟩ := h
    obtain ⟨ea, eb, fa, fb, rfl, rfl, k1, k2⟩ := SlotsAt.app (a := a) (b := b) h2
    exact ⟨e :: ea, eb, f ++ fa, fb, rfl, by rw [List.append_assoc], ⟨f, fa, h1, k1, rfl⟩, k2⟩
theorem SlotsAt.join {w : World} : ∀ {a b : List Slot} {ea eb : List MapEntry} {fa fb : List Nat}, SlotsAt w ea a fa → SlotsAt w eb b fb → SlotsAt w (ea ++ eb) (a ++ b) (fa ++ fb)
  | [], b, [], eb, fa, fb, h, k => by rw [show fa = [] from h]; exact k
  | [], b, _ :: _, eb, fa, fb, h, k => h.elim
  | s :: a, b, [], eb, fa, fb, h, k => h.elim
  | s :: a, b, e :: ea, eb, fa, fb, h, k => by
    obtain ⟨f, g, h1, h2, rfl⟩ := h
    exact ⟨f, g ++ fb, h1, h2.join k, by rw [List.append_assoc]⟩
end Go.Tb
namespace Go.Tb.W
open Go Go.Proofs
theorem l2 {a b : AO O} : [a, b].length < 16777215 := by simp
theorem l4 {a b c d : AO O} : [a, b, c, d].length < 16777215 := by simp
abbrev setT (line : List ByteArray) : AO O := setO' (entT line) line.length
abbrev lineO (cap : Nat) (line : List ByteArray) : AO O := chO cap (line.map rowT)
abbrev bufS (s : Bf) : AO O := bufO s.each s.room s.th.length s.dropped
abbrev unfL (s : Bf) (hid : List Slot) : List (AO O) := [bufS s, .pm hid none]
abbrev focL (s : Bf) (i : Int) (hid : List Slot) : List (AO O) := [bufS s, .pm hid (some (i, focV 2 3)), lineO s.each.toNat (lineOf s.th i), setT (lineOf s.th i)]
def Hb (s : Bf) (os : List (AO O)) : Prop := okB s ∧ ((∃ hid, SOf s.th s.each hid ∧ os = unfL s hid) ∨ ∃ hid i, SOf s.th s.each (slotOf s.th s.each i :: hid) ∧ os = focL s i hid)
def pk : Pk O := ⟨Hb, fun _ => none, fun _ _ h => by cases h⟩
def pkU : Pk O := ⟨fun s os => okB s ∧ ∃ hid, SOf s.th s.each hid ∧ os = unfL s hid, fun _ => none, fun _ _ h => by cases h⟩
def pkF (i : Int) : Pk O := ⟨fun s os => okB s ∧ ((lineOf s.th i = [] ∧ ∃ hid, SOf s.th s.each hid ∧ os = unfL s hid) ∨ (lineOf s.th i ≠ [] ∧ ∃ hid, SOf s.th s.each (slotOf s.th s.each i :: hid) ∧ os = focL s i hid)), fun _ => none, fun _ _ h => by cases h⟩
theorem vS_line (line : List ByteArray) : (line.map rowT).map (fun x => vS x 0 .s) = line.map Value.string := by
  rw [List.map_map]; exact List.map_congr_left fun x _ => rfl
theorem mkE_line (line : List ByteArray) : (entT line).map (mkE slotMS) = slotSet line := by
  unfold entT slotSet
  rw [List.map_map]; exact List.map_congr_left fun x _ => rfl
theorem den_foc {ρ : Rho} {x : Value} (h : Den ρ (focV 2 3) x) : ∃ c z m z', ρ 2 = some (c, z) ∧ ρ 3 = some (m, z') ∧ x = .agg #[.chan (some c), .map (some m)] := by
  cases h with
  | agg h =>
    cases h with
    | cons h t =>
      cases t with
      | cons h' t =>
        cases t
        cases h with
        | chan h =>
          cases h' with
          | map h' => exact ⟨_, _, _, _, h, h', rfl⟩
theorem R_unf {s : Bf} {pb : Nat × Nat} {fp : List Nat} {w : World} (h : pk.R s pb fp w) : pkU.R s pb fp w := by
  obtain ⟨os, ρ, fp', ⟨hok, hH⟩, hpl, hlen, hs, hρ, hfp⟩ := h
  rcases hH with ⟨hid, hS, rfl⟩ | ⟨hid, i, hS, rfl⟩
  · exact ⟨_, ρ, fp', ⟨hok, hid, hS, rfl⟩, hpl, hlen, hs, hρ, hfp⟩
  · have g0 := hs.ok 0 _ (ofList_mem l4 rfl)
    obtain ⟨b, es, clk, esF, esH, fpH, k1, k2, k3, k4, k5, k6, k7, k8, k9, k10⟩ := hs.ok 1 _ (ofList_mem l4 rfl)
    obtain ⟨c, buf', s', r', c1, c2, c3, c4, c5⟩ := hs.ok 2 _ (ofList_mem l4 rfl)
    obtain ⟨m, mes, m1, m2, m3, m4⟩ := hs.ok 3 _ (ofList_mem l4 rfl)
    obtain ⟨x, bn, rfl, hin, hdx⟩ := k6
    obtain ⟨c', zc, m', zm, q1, q2, rfl⟩ := den_foc hdx
    rw [c1] at q1; cases q1
    rw [m1] at q2; cases q2
    have hne : ∀ {j k : Nat} {y : Nat}, y ∈ fp' j → y ∈ fp' k → j = k := fun h1 h2 => hs.dis _ _ _ h1 h2
    have hmc : m ≠ c := fun e => by have := hne (j := 3) (k := 2) (y := m) (by rw [m2]; simp) (by rw [c2, e]; simp); cases this
    have hcb : c ∉ fp' 1 := fun e => by have := hne (j := 2) (k := 1) (y := c) (by rw [c2]; simp) e; cases this
    have hmb : m ∉ fp' 1 := fun e => by have := hne (j := 3) (k := 1) (y := m) (by rw [m2]; simp) e; cases this
    rw [k2] at hcb hmb
    rw [k2] at k3
    have hslot : SlotAt w ⟨.int .i64 i, .agg #[.chan (some c), .map (some m)], bn⟩ (slotOf s.th s.each i) [c, m] := by
      refine ⟨c, m, s', r', rfl, hin, rfl, rfl, ?_, ?_, fun t ht => ?_⟩
      · rw [c3]
        have : buf' = ((lineOf s.th i).map Value.string).toArray := by
          apply Array.ext'
          rw [c4, vS_line]
        rw [this]
      · rw [m3]
        have : mes = (slotSet (lineOf s.th i)).toArray := by
          apply Array.ext'
          rw [m4.1, mkE_line]
        rw [this]
      · have := c5 (rowT t) (List.mem_map.2 ⟨t, ht, rfl⟩)
        simpa [okS, rowT, rwA] using this
    refine ⟨unfL s (slotOf s.th s.each i :: hid), _, _, ⟨hok, _, hS, rfl⟩, rfl, l2, sat_two (f1 := b :: ([c, m] ++ fpH)) g0 (o1 := .pm (slotOf s.th s.each i :: hid) none) (b1 := (b, 0)) ⟨b, es, clk, [], ⟨.int .i64 i, .agg #[.chan (some c), .map (some m)], bn⟩ :: esH, [c, m] ++ fpH, k1, rfl, ?_, k4, k5, rfl, ⟨_, _, hslot, k7, rfl⟩, k8, k9, k10⟩ hρ k1 rfl rfl rfl rfl ?_, by simp, fun y => ?_⟩
    · simp only [List.nodup_cons, List.cons_append, List.nil_append, List.mem_cons] at k3 hcb hmb ⊢
      exact ⟨fun h => h.elim (fun e => hcb (.inl e.symm)) (fun h => h.elim (fun e => hmb (.inl e.symm)) k3.1), fun h => h.elim (fun e => hmc e.symm) (fun h => hcb (.inr h)), fun h => hmb (.inr h), k3.2⟩
    · intro y h0 h1
      simp only [List.cons_append, List.nil_append, List.mem_cons] at h1
      have hb : ∀ j, j ≠ 0 → y ∉ fp' j := fun j hj hy => hj (hne hy h0)
      rcases h1 with rfl | rfl | rfl | h1
      · exact hb 1 (by decide) (by rw [k2]; simp)
      · exact hb 2 (by decide) (by rw [c2]; simp)
      · exact hb 3 (by decide) (by rw [m2]; simp)
      · exact hb 1 (by decide) (by rw [k2]; exact List.mem_cons_of_mem _ h1)
    · rw [hfp]
      constructor
      · rintro ⟨n, hn⟩
        have hn4 : n < 4 := by
          refine Classical.byContradiction fun h => ?_
          have : (Tr.ofList 0 (focL s i hid) (.leaf : Tr (AO O))).get n = none := by
            cases hg : (Tr.ofList 0 (focL s i hid) (.leaf : Tr (AO O))).get n with
            | none => rfl
            | some o => have := ofList_get0 l4 hg; have := (List.getElem?_eq_some_iff.1 this).1; simp at this; omega
          rw [(hs.dom n this).2] at hn; cases hn
        have : n = 0 ∨ n = 1 ∨ n = 2 ∨ n = 3 := by omega
        rcases this with rfl | rfl | rfl | rfl
        · exact ⟨0, hn⟩
        · rw [k2] at hn; rcases List.mem_cons.1 hn with rfl | hn
          · exact ⟨1, by simp⟩
          · exact ⟨1, by simp [hn]⟩
        · rw [c2] at hn; simp at hn; subst hn; exact ⟨1, by simp⟩
        · rw [m2] at hn; simp at hn; subst hn; exact ⟨1, by simp⟩
      · rintro ⟨n, hn⟩
        by_cases a : n = 0
        · simp [a] at hn; exact ⟨0, hn⟩
        · by_cases a' : n = 1
          · simp [a'] at hn
            rcases hn with rfl | rfl | rfl | hn
            · exact ⟨1, by rw [k2]; simp⟩
            · exact ⟨2, by rw [c2]; simp⟩
            · exact ⟨3, by rw [m2]; simp⟩
            · exact ⟨1, by rw [k2]; simp [hn]⟩
          · simp [a, a'] at hn
theorem R_foc {s : Bf} (i : Int) {pb : Nat × Nat} {fp : List Nat} {w : World} (h : pk.R s pb fp w) : (pkF i).R s pb fp w := by
  obtain ⟨os, ρ, fp', ⟨hok, hid, hS, rfl⟩, hpl, hlen, hs, hρ, hfp⟩ := R_unf h
  by_cases hi : lineOf s.th i = []
  · exact ⟨_, ρ, fp', ⟨hok, .inl ⟨hi, hid, hS, rfl⟩⟩, hpl, hlen, hs, hρ, hfp⟩
  · have g0 := hs.ok 0 _ (ofList_mem l2 rfl)
    obtain ⟨b, es, clk, esF, esH, fpH, k1, k2, k3, k4, k5, k6, k7, k8, k9, k10⟩ := hs.ok 1 _ (ofList_mem l2 rfl)
    have k6 : esF = [] := k6
    subst k6
    simp only [List.nil_append] at k5
    obtain ⟨a, bb, rfl⟩ := List.append_of_mem (hS.slot hi)
    obtain ⟨ea, eb, fa, fb, rfl, rfl, j1, j2⟩ := k7.app
    cases eb with
    | nil => exact j2.elim
    | cons e eb =>
    obtain ⟨f, g, ⟨c, m, s', r', h1, h2, h3, rfl, h5, h6, h7⟩, j3, rfl⟩ := j2
    obtain ⟨ek, ev, bn⟩ := e
    simp only at h1 h3
    subst h1; subst h3
    rw [k2] at k3
    have hdj : ∀ y, y ∈ fp' 0 → y ∉ fp' 1 := fun y h1 h2 => by have := hs.dis _ _ _ h1 h2; cases this
    rw [k2] at hdj
    obtain ⟨b0, hb0⟩ : ∃ b0, ρ 0 = some b0 := ⟨_, hρ⟩
    have hperm : (a ++ slotOf s.th s.each i :: bb).Perm (slotOf s.th s.each i :: (a ++ bb)) := List.perm_middle
    have eT : Tells (fun n => Nat.blt n 2) (fun n => n) ρ (fun n => if n = 0 then some pb else if n = 1 then some (b, 0) else if n = 2 then some (c, 0) else if n = 3 then some (m, 0) else none) := fun n q hn hq => by
      have : n < 2 := blt_iff.1 hn
      have : n = 0 ∨ n = 1 := by omega
      rcases this with rfl | rfl
      · rw [hρ] at hq; cases hq; rfl
      · rw [k1] at hq; cases hq; rfl
    have nb : c ≠ m ∧ (∀ y, y ∈ b :: (fa ++ g) → y ≠ c ∧ y ≠ m) ∧ (b :: (fa ++ g)).Nodup := by
      have hp : (b :: (fa ++ ([c, m] ++ g))).Perm (c :: m :: (b :: (fa ++ g))) := by
        have p1 : (fa ++ ([c, m] ++ g)).Perm (c :: m :: (fa ++ g)) := by
          simp only [List.cons_append, List.nil_append]
          exact List.perm_middle.trans (List.perm_middle.cons c)
        exact (p1.cons b).trans ((List.Perm.swap c b _).trans ((List.Perm.swap m b _).cons c))
      have hn := hp.nodup_iff.1 k3
      simp only [List.nodup_cons] at hn ⊢
      obtain ⟨q1, q2, q3⟩ := hn
      refine ⟨fun e => q1 (by rw [e]; exact List.mem_cons_self ..), fun y hy => ⟨fun e => q1 (e ▸ List.mem_cons_of_mem _ hy), fun e => q2 (e ▸ hy)⟩, q3⟩
    obtain ⟨n1, n2, n3⟩ := nb
    have hsub : ∀ y, y ∈ b :: (fa ++ g) → y ∈ b :: (fa ++ ([c, m] ++ g)) := fun y hy => by
      simp only [List.mem_cons, List.mem_append] at hy ⊢
      rcases hy with h | h | h
      · exact .inl h
      · exact .inr (.inl h)
      · exact .inr (.inr (.inr h))
    refine ⟨focL s i (a ++ bb), _, _, ⟨hok, .inr ⟨hi, a ++ bb, hS.perm hperm.symm, rfl⟩⟩, rfl, l4, sat_four (b0 := pb) (b1 := (b, 0)) (b2 := (c, 0)) (b3 := (m, 0)) (f0 := fp' 0) (f1 := b :: (fa ++ g)) (f2 := [c]) (f3 := [m]) ?_ ?_ ?_ ?_ ?_ ?_ ?_ ?_ ?_ ?_, by simp, fun y => ?_⟩
    · exact okO.ren eT (n := 0) rfl g0 rfl
    · refine ⟨b, es, clk, [⟨.int .i64 i, .agg #[.chan (some c), .map (some m)], bn⟩], ea ++ eb, fa ++ g, rfl, rfl, n3, k4, ?_, ⟨_, bn, rfl, h2, .agg (.cons (.chan (z := 0) rfl) (.cons (.map (z := 0) rfl) .nil))⟩, j1.join j3, k8, k9, k10⟩
      exact k5.trans List.perm_middle
    · refine ⟨c, _, s', r', rfl, rfl, h5, (vS_line _).symm, fun x hx => ?_⟩
      obtain ⟨t, ht, rfl⟩ := List.mem_map.1 hx
      have := h7 t ht
      simpa [okS, rowT, rwA] using this
    · refine ⟨m, _, rfl, rfl, h6, (mkE_line _).symm, fun x hx => ?_⟩
      unfold entT at hx
      obtain ⟨p, hp, rfl⟩ := List.mem_map.1 hx
      have hp' : p.1 ∈ lineOf s.th i := by
        obtain ⟨q1, q2⟩ := p
        exact (List.mem_zipIdx hp).2.2 ▸ List.getElem_mem _
      have := h7 _ hp'
      simpa [okE, okS, okR, rowE, rwA] using this
    · exact fun y h0 h1 => hdj y h0 (hsub y h1)
    · intro y h0 h1; simp at h1; subst h1; exact hdj y h0 (by simp)
    · intro y h0 h1; simp at h1; subst h1; exact hdj y h0 (by simp)
    · intro y h0 h1; simp at h1; exact (n2 y h0).1 h1
    · intro y h0 h1; simp at h1; exact (n2 y h0).2 h1
    · intro y h0 h1; simp at h0 h1; exact n1 (h0.symm.trans h1)
    · rw [hfp]
      constructor
      · rintro ⟨n, hn⟩
        have hn4 : n < 2 := by
          refine Classical.byContradiction fun h => ?_
          have : (Tr.ofList 0 (unfL s (a ++ slotOf s.th s.each i :: bb)) (.leaf : Tr (AO O))).get n = none := by
            cases hg : (Tr.ofList 0 (unfL s (a ++ slotOf s.th s.each i :: bb)) (.leaf : Tr (AO O))).get n with
            | none => rfl
            | some o => have := ofList_get0 l2 hg; have := (List.getElem?_eq_some_iff.1 this).1; simp at this; omega
          rw [(hs.dom n this).2] at hn; cases hn
        have : n = 0 ∨ n = 1 := by omega
        rcases this with rfl | rfl
        · exact ⟨0, hn⟩
        · rw [k2] at hn
          simp only [List.mem_cons, List.mem_append, List.cons_append, List.nil_append] at hn
          rcases hn with rfl | hn | rfl | rfl | hn
          · exact ⟨1, by simp⟩
          · exact ⟨1, by simp [hn]⟩
          · exact ⟨2, by simp⟩
          · exact ⟨3, by simp⟩
          · exact ⟨1, by simp [hn]⟩
      · rintro ⟨n, hn⟩
        by_cases a0 : n = 0
        · simp [a0] at hn; exact ⟨0, hn⟩
        · by_cases a1 : n = 1
          · simp only [a1, if_true, if_false] at hn
            exact ⟨1, by rw [k2]; exact hsub y (by simpa using hn)⟩
          · by_cases a2 : n = 2
            · simp [a2] at hn; subst hn; exact ⟨1, by rw [k2]; simp⟩
            · by_cases a3 : n = 3
              · simp [a3] at hn; subst hn; exact ⟨1, by rw [k2]; simp⟩
              · simp [a0, a1, a2, a3] at hn
end Go.Tb.W
