/- Searches: the package's methods, proved. -/
import Derived.Test.YtamfmlaipbdpgaaC6
set_option linter.all false
set_option maxRecDepth 100000
namespace Go.Tb.W
open Go Go.Proofs
/-- A search that lies open. -/
structure CInv (s : O) (es : List (Rw × Nat)) (clk : Nat) : Prop where
  ok : okC s
  key : es.Pairwise (fun x y => x.1.i 0 ≠ y.1.i 0)
  brn : es.Pairwise (fun x y => x.2 ≠ y.2)
  old : ∀ e ∈ es, e.2 < clk
  tru : ∀ e ∈ es, e.1.b 1 = true
  pm : (es.map fun e => e.1.i 0).Perm s.ids
theorem CInv.len {s : O} {es : List (Rw × Nat)} {clk : Nat} (h : CInv s es clk) : es.length = s.ids.length := by have := h.pm.length_eq; simpa using this
theorem CInv.ln {s : O} {es : List (Rw × Nat)} {clk : Nat} (h : CInv s es clk) : es.length ≤ 16 := by have := h.len; have := h.ok.ln; have := h.ok.q2; omega
theorem CInv.fl {s : O} {es : List (Rw × Nat)} {clk : Nat} (h : CInv s es clk) : decide ((es.length : Int) ≥ s.q) = fullC s := by rw [h.len]; rfl
def Hc (s : O) (os : List (AO O)) : Prop := ∃ es clk, os = [cO s.m s.w s.q 1 s.rc s.wt s.fr s.ak, mO es clk] ∧ CInv s es clk
def pk : Pk O where
  H := Hc
  z := fun _ => none
  zok := fun o s h => by cases h
theorem mfind_none {k : Int} : ∀ {es : List (Rw × Nat)}, mfind (.int .i64 k) es = none → ∀ e ∈ es, e.1.i 0 ≠ k
  | [], _, e, h => by simp at h
  | a :: l, h, e, he => by
    simp only [mfind] at h
    split at h
    · cases h
    · rename_i hk
      rcases List.mem_cons.1 he with rfl | he
      · simpa [isK] using hk
      · exact mfind_none h e he
theorem mfind_some {k : Int} {e : Rw × Nat} : ∀ {es : List (Rw × Nat)}, mfind (.int .i64 k) es = some e → e ∈ es ∧ e.1.i 0 = k
  | [], h => by simp [mfind] at h
  | a :: l, h => by
    simp only [mfind] at h
    split at h
    · rename_i hk
      cases h
      exact ⟨List.mem_cons_self .., by simpa [isK] using hk⟩
    · obtain ⟨h1, h2⟩ := mfind_some h
      exact ⟨List.mem_cons_of_mem _ h1, h2⟩
theorem mput_new {k : Int} (row : Rw) (clk : Nat) : ∀ {es : List (Rw × Nat)}, (∀ e ∈ es, e.1.i 0 ≠ k) → mput row (.int .i64 k) clk es = es ++ [(row, clk)] ∧ mclk (.int .i64 k) es clk = clk + 1
  | [], _ => ⟨rfl, rfl⟩
  | a :: l, h => by
    have ha : (isK a.1 (.int .i64 k)) = false := by
      have := h a (List.mem_cons_self ..)
      simp [isK, this]
    obtain ⟨h1, h2⟩ := mput_new row clk (fun e he => h e (List.mem_cons_of_mem _ he))
    refine ⟨?_, ?_⟩
    · simp only [mput, ha, h1]; rfl
    · unfold mclk at h2 ⊢
      simp only [mfind, ha]; exact h2
theorem mdel_eq {k : Int} : ∀ {es : List (Rw × Nat)}, es.Pairwise (fun x y => x.1.i 0 ≠ y.1.i 0) → mdel (.int .i64 k) es = es.filter (fun e => !(e.1.i 0 == k))
  | [], _ => rfl
  | a :: l, h => by
    obtain ⟨h1, h2⟩ := List.pairwise_cons.1 h
    have he : isK a.1 (.int .i64 k) = (a.1.i 0 == k) := rfl
    simp only [mdel, he]
    cases hk : a.1.i 0 == k with
    | true =>
      have hk := eq_of_beq hk
      simp only [List.filter_cons, hk, beq_self_eq_true, Bool.not_true]
      refine (List.filter_eq_self.2 fun e hm => ?_).symm
      have := h1 e hm
      simp; omega
    | false =>
      simp only [List.filter_cons, hk, Bool.not_false, if_true]
      rw [mdel_eq h2]
theorem CInv.has {s : O} {es : List (Rw × Nat)} {clk : Nat} (h : CInv s es clk) (id : Int) : (mrow (.int .i64 id) es).b 1 = hasC s id := by
  unfold mrow hasC
  cases hf : mfind (.int .i64 id) es with
  | some e =>
    obtain ⟨h1, h2⟩ := mfind_some hf
    simp only
    rw [h.tru e h1]
    have : id ∈ s.ids := h.pm.mem_iff.1 (List.mem_map.2 ⟨e, h1, h2⟩)
    simp [this]
  | none =>
    simp only
    have : id ∉ s.ids := fun hm => by
      obtain ⟨e, he, hk⟩ := List.mem_map.1 (h.pm.mem_iff.2 hm)
      exact mfind_none hf e he hk
    simp [this, zrw]
theorem insI_perm (id : Int) (l : List Int) : (insI id l).Perm (id :: l) := by
  unfold insI
  exact List.perm_middle.trans ((List.filter_append_perm (fun x => decide (x < id)) l).cons id)
theorem insI_so {id : Int} {l : List Int} (h : l.Pairwise (fun x y => x < y)) (hn : id ∉ l) : (insI id l).Pairwise (fun x y => x < y) := by
  unfold insI
  refine List.pairwise_append.2 ⟨h.sublist (List.filter_sublist ..), List.pairwise_cons.2 ⟨fun y hy => ?_, h.sublist (List.filter_sublist ..)⟩, fun x hx y hy => ?_⟩
  · obtain ⟨h1, h2⟩ := List.mem_filter.1 hy
    simp at h2
    have : y ≠ id := fun e => hn (e ▸ h1)
    omega
  · obtain ⟨_, h2⟩ := List.mem_filter.1 hx
    simp at h2
    rcases List.mem_cons.1 hy with rfl | hy
    · exact h2
    · obtain ⟨_, h3⟩ := List.mem_filter.1 hy
      simp at h3; omega
theorem found0 {s : O} {id : Int} (h : foundE s id = 0) : 0 ≤ id ∧ hasC s id = false ∧ fullC s = false := by
  unfold foundE at h
  split at h
  · cases h
  · split at h
    · cases h
    · split at h
      · cases h
      · refine ⟨by omega, ?_, ?_⟩ <;> simp_all
theorem foundS_ok {s : O} {id : Int} (h : okC s) (hr : id ≤ 9223372036854775807) : okC (foundS s id) := by
  unfold foundS
  split
  · rename_i he
    obtain ⟨h1, h2, h3⟩ := found0 he
    have hn : id ∉ s.ids := by simpa [hasC] using h2
    have hp := insI_perm id s.ids
    refine { h with so := insI_so h.so hn, nn := fun x hx => ?_, ln := ?_ }
    · rcases List.mem_cons.1 (hp.mem_iff.1 hx) with rfl | hx
      · exact ⟨h1, hr⟩
      · exact h.nn x hx
    · have := hp.length_eq
      have := of_decide_eq_false h3
      show ((insI id s.ids).length : Int) ≤ s.q
      simp at *; omega
  · exact h
theorem CInv.found {s : O} {es : List (Rw × Nat)} {clk : Nat} (h : CInv s es clk) {id : Int} (hr : id ≤ 9223372036854775807) (he : foundE s id = 0) :
    CInv (foundS s id) (mput (rwA [.int .i64 id, .bool true]) (.int .i64 id) clk es) (mclk (.int .i64 id) es clk) := by
  obtain ⟨h1, h2, h3⟩ := found0 he
  have hn : id ∉ s.ids := by simpa [hasC] using h2
  have hes : ∀ e ∈ es, e.1.i 0 ≠ id := fun e hm hk => hn (h.pm.mem_iff.1 (List.mem_map.2 ⟨e, hm, hk⟩))
  obtain ⟨e1, e2⟩ := mput_new (rwA [.int .i64 id, .bool true]) clk hes
  rw [e1, e2]
  have hS : (foundS s id).ids = insI id s.ids := by unfold foundS; rw [if_pos he]
  refine ⟨foundS_ok h.ok hr, ?_, ?_, fun e hm => ?_, fun e hm => ?_, ?_⟩
  · refine List.pairwise_append.2 ⟨h.key, List.pairwise_singleton .., fun x hx y hy => ?_⟩
    simp at hy; subst hy
    exact hes x hx
  · refine List.pairwise_append.2 ⟨h.brn, List.pairwise_singleton .., fun x hx y hy => ?_⟩
    simp at hy; subst hy
    have := h.old x hx
    show x.2 ≠ clk
    omega
  · rcases List.mem_append.1 hm with hm | hm
    · have := h.old e hm; omega
    · simp at hm; subst hm; show clk < clk + 1; omega
  · rcases List.mem_append.1 hm with hm | hm
    · exact h.tru e hm
    · simp at hm; subst hm; rfl
  · rw [hS, List.map_append]
    refine (List.Perm.append_right _ h.pm).trans ?_
    exact (List.perm_append_singleton _ _).trans (insI_perm id s.ids).symm
theorem lostS_ok {s : O} {id : Int} (h : okC s) : okC (lostS s id) := by
  unfold lostS
  split
  · have := h.w1; have := h.w2; have := h.m1
    refine { h with r1 := by show (1 : Int) ≤ 1; omega, r2 := h.m1, t1 := by show s.w ≤ s.w; omega, t2 := by show s.w ≤ 64 * s.w; omega, so := h.so.sublist (List.filter_sublist ..), nn := fun x hx => h.nn x (List.mem_filter.1 hx).1, ln := ?_ }
    have := List.length_filter_le (fun x => !(x == id)) s.ids
    have := h.ln
    show (((s.ids.filter _).length : Nat) : Int) ≤ s.q
    omega
  · exact h
theorem CInv.lost {s : O} {es : List (Rw × Nat)} {clk : Nat} (h : CInv s es clk) {id : Int} (he : hasC s id = true) : CInv (lostS s id) (mdel (.int .i64 id) es) clk := by
  rw [mdel_eq h.key]
  have hS : (lostS s id).ids = s.ids.filter (fun x => !(x == id)) := by unfold lostS; rw [if_pos he]
  refine ⟨lostS_ok h.ok, h.key.sublist (List.filter_sublist ..), h.brn.sublist (List.filter_sublist ..), fun e hm => h.old e (List.mem_filter.1 hm).1, fun e hm => h.tru e (List.mem_filter.1 hm).1, ?_⟩
  rw [hS, show (es.filter (fun e => !(e.1.i 0 == id))).map (fun e => e.1.i 0) = (es.map fun e => e.1.i 0).filter (fun x => !(x == id)) by rw [List.filter_map]; rfl]
  exact h.pm.filter _
theorem minI_le (a b : Int) : minI a b ≤ a ∧ minI a b ≤ b := by unfold minI; split <;> omega
theorem minI_ge {a b c : Int} (h1 : c ≤ a) (h2 : c ≤ b) : c ≤ minI a b := by unfold minI; split <;> omega
theorem askS_ok {s : O} {now : Int} (h : okC s) : okC (askS s now) := by
  unfold askS
  split
  · have := h.r1; have := h.m1; have := h.t1; have := h.w1; have := h.t2
    exact { h with r1 := minI_ge (by omega) (by omega), r2 := (minI_le _ _).2, t1 := by show s.w ≤ minI _ _; exact minI_ge (by omega) (by omega), t2 := (minI_le _ _).2 }
  · exact h
theorem new_ok {m w q : Int} (h : badC m w q = false) : okC (newC m w q) := by
  have := of_decide_eq_false h
  exact ⟨by show 1 ≤ m; omega, by show m ≤ 255; omega, by show 1 ≤ w; omega, by show w ≤ 1099511627776; omega, by show 1 ≤ q; omega, by show q ≤ 16; omega, by show (1 : Int) ≤ 1; omega, by show 1 ≤ m; omega, by show w ≤ w; omega, by show w ≤ 64 * w; omega, List.Pairwise.nil, fun x hx => (by cases hx), by show (0 : Int) ≤ q; omega⟩
theorem rg_int {n : Int} {l : List AV} (h : rgs (.int .i64 n :: l) = true) : -9223372036854775808 ≤ n ∧ n ≤ 9223372036854775807 := by
  simp only [rgs, rg, Bool.and_eq_true] at h
  simpa [inK_iff, loK, hiK] using h.1
theorem sorted_srt {l m : List Int} (hp : l.Perm m) (hm : m.Pairwise (fun x y => x < y)) : srt l = m := by
  have tr : ∀ a b c : Int, decide (a ≤ b) = true → decide (b ≤ c) = true → decide (a ≤ c) = true := fun a b c h1 h2 => by simp only [decide_eq_true_eq] at *; omega
  have to : ∀ a b : Int, (decide (a ≤ b) || decide (b ≤ a)) = true := fun a b => by simp only [Bool.or_eq_true, decide_eq_true_eq]; omega
  refine List.Perm.eq_of_pairwise (le := fun a b => decide (a ≤ b) = true) (fun a b _ _ h1 h2 => by simp only [decide_eq_true_eq] at *; omega) (List.pairwise_mergeSort tr to l) (hm.imp fun {a b} h => decide_eq_true (by omega)) ((List.mergeSort_perm l _).trans hp)
variable {I : Interp O} (hI : I.R = pk.R)
theorem isC_spec {hp : Tr (AO O)} {n : Nat} {K : O → Prop} (h : isC hp n K) : Nat.blt n 16777215 = true ∧ ∃ s, asO pk (hp.get n) = some s ∧ K s := by
  unfold isC at h
  split at h
  · rename_i s hb hg; exact ⟨hb, s, by rw [hg]; rfl, h⟩
  · exact h.elim
include hI
theorem k_full : ∀ (args : List AV) (hp : Tr (AO O)) (nx : Nat) (K : AV → Tr (AO O) → Nat → Prop), c_full args hp nx K → ACall I P 21 args hp (fun v hp' => ∃ nx', K v hp' nx') := by
  intro args hp nx K h
  unfold c_full at h; split at h
  · rename_i n
    obtain ⟨hb, s, hg, h⟩ := isC_spec h
    refine own_body hI mix Gm.nil (fn := Try.f21) (by kernel_rfl) (by kernel_rfl) (by kernel_rfl) hg hb [.ptr 0 0] rfl rfl fun os hH hr ho => ?_
    obtain ⟨es, clk, rfl, inv⟩ := hH
    refine (t_full1 I _ _ _ _ _ _ _ _ es clk).mpr ?_
    rw [inv.fl]
    have leaf := fun (hx : es.length ≤ 9223372036854775807) => And.intro hx (show OwnPost pk hp n (fun v hp' => ∃ nx', K v hp' nx') (.bool (fullC s)) (Tr.ofList 0 [cO s.m s.w s.q 1 s.rc s.wt s.fr s.ak, mO es clk] .leaf) from ⟨s, _, [1], rfl, by decide, ⟨es, clk, rfl, inv⟩, .inl ⟨rfl, nx, h⟩⟩)
    have := inv.ln
    exact ⟨⟨leaf (by omega), leaf (by omega)⟩, leaf (by omega)⟩
  · exact h.elim
theorem k_due : ∀ (args : List AV) (hp : Tr (AO O)) (nx : Nat) (K : AV → Tr (AO O) → Nat → Prop), c_due args hp nx K → ACall I P 12 args hp (fun v hp' => ∃ nx', K v hp' nx') := by
  intro args hp nx K h
  unfold c_due at h; split at h
  · rename_i n now
    obtain ⟨hb, s, hg, h⟩ := isC_spec h
    refine own_body hI mix gA2 (fn := Try.f12) (by kernel_rfl) (by kernel_rfl) (by kernel_rfl) hg hb [.ptr 0 0, .int .i64 now] rfl rfl fun os hH hr ho => ?_
    obtain ⟨es, clk, rfl, inv⟩ := hH
    have := inv.ln; have := inv.ok.w1; have := inv.ok.t1
    refine (t_due I _ _ _ _ _ _ _ _ es clk now).mpr ⟨⟨by omega, by omega⟩, ?_⟩
    rw [inv.fl]
    exact ⟨s, _, [1], rfl, by decide, ⟨es, clk, rfl, inv⟩, .inl ⟨rfl, nx, h⟩⟩
  · exact h.elim
theorem k_ask : ∀ (args : List AV) (hp : Tr (AO O)) (nx : Nat) (K : AV → Tr (AO O) → Nat → Prop), c_ask args hp nx K → ACall I P 14 args hp (fun v hp' => ∃ nx', K v hp' nx') := by
  intro args hp nx K h
  unfold c_ask at h; split at h
  · rename_i n now
    obtain ⟨hb, s, hg, h⟩ := isC_spec h
    refine own_body hI mix gA2 (fn := Try.f14) (by kernel_rfl) (by kernel_rfl) (by kernel_rfl) hg hb [.ptr 0 0, .int .i64 now] rfl rfl fun os hH hr ho => ?_
    obtain ⟨es, clk, rfl, inv⟩ := hH
    have h1 := inv.ln; have h2 := inv.ok.w1; have h3 := inv.ok.t1; have h4 := inv.ok.w2; have h5 := inv.ok.t2; have h6 := inv.ok.r1; have h7 := inv.ok.r2; have h8 := inv.ok.m2
    have hnow := rg_int (l := []) (n := now) (by simpa [rgs, rg] using hr)
    refine (t_ask I _ _ _ _ _ _ _ _ es clk now).mpr ⟨⟨by omega, by omega⟩, ?_⟩
    rw [inv.fl]
    have hE : mayE (fullC s) s.wt s.fr s.ak now = askE s now := rfl
    rw [hE, w_id (n := 2 * s.rc) (by omega) (by omega), w_id (n := 2 * s.wt) (by omega) (by omega), w_id (n := 64 * s.w) (by omega) (by omega)]
    refine bsplit_both (fun hx => ?_) (fun hx => ?_)
    · have hx : askE s now ≠ 0 := by simpa using hx
      have e1 : askR s now = 0 := by unfold askR; rw [if_neg hx]
      have e2 : askS s now = s := by unfold askS; rw [if_neg hx]
      rw [e1, e2] at h
      exact ⟨s, _, [1], rfl, by decide, ⟨es, clk, rfl, inv⟩, .inl ⟨rfl, nx, h⟩⟩
    · have hx : askE s now = 0 := by simpa using hx
      have hov : now ≤ 9223372036854775807 - s.wt := by
        have := hx
        unfold askE mayE at this
        split at this
        · cases this
        · split at this
          · cases this
          · split at this
            · cases this
            · omega
      rw [w_id (n := now + s.wt) (by omega) (by omega)]
      have e1 : askR s now = s.rc := by unfold askR; rw [if_pos hx]
      have e2 : askS s now = { s with rc := minI (2 * s.rc) s.m, wt := minI (2 * s.wt) (64 * s.w), fr := now + s.wt, ak := true } := by unfold askS; rw [if_pos hx]
      have inv' : CInv (askS s now) es clk := ⟨askS_ok inv.ok, inv.key, inv.brn, inv.old, inv.tru, by rw [e2]; exact inv.pm⟩
      rw [e2] at inv'
      rw [e1, e2, hx] at h
      have leaf : OwnPost pk hp n (fun v hp' => ∃ nx', K v hp' nx') (.tup [.int .i64 s.rc, .int .i64 0]) (Tr.ofList 0 [cO s.m s.w s.q 1 (minI (2 * s.rc) s.m) (minI (2 * s.wt) (64 * s.w)) (now + s.wt) true, mO es clk] .leaf) :=
        ⟨{ s with rc := minI (2 * s.rc) s.m, wt := minI (2 * s.wt) (64 * s.w), fr := now + s.wt, ak := true }, _, [1], rfl, by decide, ⟨es, clk, rfl, inv'⟩, .inl ⟨rfl, nx, h⟩⟩
      exact ⟨leaf, leaf⟩
  · exact h.elim
theorem k_found : ∀ (args : List AV) (hp : Tr (AO O)) (nx : Nat) (K : AV → Tr (AO O) → Nat → Prop), c_found args hp nx K → ACall I P 16 args hp (fun v hp' => ∃ nx', K v hp' nx') := by
  intro args hp nx K h
  unfold c_found at h; split at h
  · rename_i n id
    obtain ⟨hb, s, hg, h⟩ := isC_spec h
    refine own_body hI mix gA2 (fn := Try.f16) (by kernel_rfl) (by kernel_rfl) (by kernel_rfl) hg hb [.ptr 0 0, .int .i64 id] rfl rfl fun os hH hr ho => ?_
    obtain ⟨es, clk, rfl, inv⟩ := hH
    have h1 := inv.ln
    have hid := rg_int (l := []) (n := id) (by simpa [rgs, rg] using hr)
    refine (t_found I _ _ _ _ _ _ _ _ es clk id).mpr ?_
    rw [inv.fl, inv.has id]
    have stay : ∀ e, e ≠ 0 → foundE s id = e → OwnPost pk hp n (fun v hp' => ∃ nx', K v hp' nx') (.int .i64 e) (Tr.ofList 0 [cO s.m s.w s.q 1 s.rc s.wt s.fr s.ak, mO es clk] .leaf) := fun e he hf => by
      have e2 : foundS s id = s := by unfold foundS; rw [if_neg (by rw [hf]; exact he)]
      rw [e2, hf] at h
      exact ⟨s, _, [1], rfl, by decide, ⟨es, clk, rfl, inv⟩, .inl ⟨rfl, nx, h⟩⟩
    refine bsplit_both (fun ha => stay 1 (by decide) ?_) (fun ha => bsplit_both (fun hb' => stay 11 (by decide) ?_) (fun hb' => ?_))
    · unfold foundE; rw [if_pos (of_decide_eq_true ha)]
    · unfold foundE; rw [if_neg (of_decide_eq_false ha), if_pos hb']
    · have step : fullC s = false → foundE s id = 0 := fun hc => by unfold foundE; rw [if_neg (of_decide_eq_false ha), if_neg (by rw [hb']; decide), if_neg (by rw [hc]; decide)]
      have grow : fullC s = false → OwnPost pk hp n (fun v hp' => ∃ nx', K v hp' nx') (.int .i64 0) (Tr.ofList 0 [cO s.m s.w s.q 1 s.rc s.wt s.fr s.ak, mO (mput (rwA [.int .i64 id, .bool true]) (.int .i64 id) clk es) (mclk (.int .i64 id) es clk)] .leaf) := fun hc => by
        have he := step hc
        have inv' := inv.found hid.2 he
        have e2 : foundS s id = { s with ids := insI id s.ids } := by unfold foundS; rw [if_pos he]
        rw [e2] at inv'
        rw [e2, he] at h
        exact ⟨{ s with ids := insI id s.ids }, _, [1], rfl, by decide, ⟨_, _, rfl, inv'⟩, .inl ⟨rfl, nx, h⟩⟩
      refine ⟨by omega, bsplit_both (fun hc => stay 4 (by decide) ?_) (fun hc => grow hc)⟩
      unfold foundE; rw [if_neg (of_decide_eq_false ha), if_neg (by rw [hb']; decide), if_pos hc]
  · exact h.elim
theorem k_lost : ∀ (args : List AV) (hp : Tr (AO O)) (nx : Nat) (K : AV → Tr (AO O) → Nat → Prop), c_lost args hp nx K → ACall I P 18 args hp (fun v hp' => ∃ nx', K v hp' nx') := by
  intro args hp nx K h
  unfold c_lost at h; split at h
  · rename_i n id
    obtain ⟨hb, s, hg, h⟩ := isC_spec h
    refine own_body hI mix gA2 (fn := Try.f18) (by kernel_rfl) (by kernel_rfl) (by kernel_rfl) hg hb [.ptr 0 0, .int .i64 id] rfl rfl fun os hH hr ho => ?_
    obtain ⟨es, clk, rfl, inv⟩ := hH
    refine (t_lost I _ _ _ _ _ _ _ _ es clk id).mpr ?_
    rw [inv.has id]
    refine bsplit_both (fun ha => ?_) (fun ha => ?_)
    · have ha : hasC s id = false := by simpa using ha
      have e1 : lostE s id = 10 := by unfold lostE; rw [if_neg (by rw [ha]; decide)]
      have e2 : lostS s id = s := by unfold lostS; rw [if_neg (by rw [ha]; decide)]
      rw [e1, e2] at h
      exact ⟨s, _, [1], rfl, by decide, ⟨es, clk, rfl, inv⟩, .inl ⟨rfl, nx, h⟩⟩
    · have ha : hasC s id = true := by simpa using ha
      have e1 : lostE s id = 0 := by unfold lostE; rw [if_pos ha]
      have e2 : lostS s id = { s with ids := s.ids.filter (fun x => !(x == id)), rc := 1, wt := s.w } := by unfold lostS; rw [if_pos ha]
      have inv' := inv.lost ha
      rw [e2] at inv'
      rw [e1, e2] at h
      exact ⟨{ s with ids := s.ids.filter (fun x => !(x == id)), rc := 1, wt := s.w }, _, [1], rfl, by decide, ⟨_, _, rfl, inv'⟩, .inl ⟨rfl, nx, h⟩⟩
  · exact h.elim
theorem k_ids : ∀ (args : List AV) (hp : Tr (AO O)) (nx : Nat) (K : AV → Tr (AO O) → Nat → Prop), c_ids args hp nx K → ACall I P 20 args hp (fun v hp' => ∃ nx', K v hp' nx') := by
  intro args hp nx K h
  unfold c_ids at h; split at h
  · rename_i n
    obtain ⟨hb, s, hg, h⟩ := isC_spec h
    split at h
    · rename_i hnb hfr
      refine own_call hI hg hb [.ptr 0 0] rfl (callable (fn := Try.f20) (by kernel_rfl) (by kernel_rfl) (by kernel_rfl)) fun os hH hpl hlen => ?_
      obtain ⟨es, clk, rfl, inv⟩ := hH
      have h1 := inv.ln
      obtain ⟨k1, k2⟩ := h inv.ok
      refine (a_ids inv.key inv.brn inv.old (by omega)).mono ?_
      rintro v lh (⟨he, rfl, rfl⟩ | ⟨he, c, room, rfl, rfl⟩)
      · have hs : s.ids = [] := List.eq_nil_of_length_eq_zero (by rw [← inv.len, he]; rfl)
        exact ⟨s, _, [1], rfl, by decide, ⟨es, clk, rfl, inv⟩, .inl ⟨rfl, nx, k1 hs⟩⟩
      · have hs : 0 < s.ids.length := by
          rw [← inv.len]; exact List.length_pos_iff.2 he
        rw [sorted_srt inv.pm inv.ok.so, inv.len]
        exact ⟨s, _, [1], rfl, by decide, ⟨es, clk, rfl, inv⟩, .inr ⟨2, nx, _, rfl, rfl, rfl, rfl, hfr, hnb, nx + 1, by
          have := k2 hs c room
          have hne : n ≠ nx := fun e => by subst e; rw [hfr] at hg; cases hg
          show K _ ((nC hp n s).set nx (some (nO (s.ids.map iR) room))) _
          exact this⟩⟩
    · exact h.elim
  · exact h.elim
end Go.Tb.W
