/- Buffers: what was put is taken once, in order; law. -/
import Derived.Test.YtojppaicjioohaaBY3
import Derived.Test.YtojppaicjioohaaBV7
set_option linter.all false
set_option maxRecDepth 100000
set_option maxHeartbeats 0
namespace Go.Tb.W
open Go Go.Proofs
variable {I : Interp O}
theorem k_textsV : ∀ (args : List AV) (hp : Tr (AO O)) (nx : Nat) (K : AV → Tr (AO O) → Nat → Prop), c_textsV args hp nx K → ACall I P 16 args hp (fun v hp' => ∃ nx', K v hp' nx') := by
  intro args hp nx K h
  unfold c_textsV at h; split at h
  · exact ACall.unpin (callable (fn := Try.f16) (by kernel_rfl) (by kernel_rfl) (by kernel_rfl)) h fun s v hv => k_texts _ _ _ _ hv
  · exact h.elim
variable (hI : I.R = pk.R)
include hI
theorem gQ4 : GOk I P (Gm Q4) := Gm.consP (Gm.consP (Gm.consH (Gm.consH (Gm.consH (Gm.consH (Gm.consH (Gm.consH (Gm.consH (Gm.consH (Gm.consH Gm.nil (q_ivsK hI)) (q_takeK hI)) (q_hasK hI)) (k_dropped hI)) (k_size hI)) (q_dropK hI)) (q_putK hI)) (q_newK hI)) k_textsV) k_large) (k_awake hI)
omit hI in
theorem dup {a : Prop} (h : a) : a ∧ a := ⟨h, h⟩
/-- What the law keeps. -/
structure OG (st : Bf) (f : PF) (es : List (Rw × Nat)) (clk i l : Nat) : Prop where
  ok : LOk f es clk st.th
  ln : st.th.length ≤ i
  d0 : 0 ≤ st.dropped
  d1 : st.dropped ≤ i
  i1 : i ≤ 100
omit hI in
theorem seen_add {seen : List Nat} {b x : Nat} (h : (seen ++ [b]).contains x = true) : seen.contains x = true ∨ x = b := by
  simp at h ⊢; exact h
theorem l_once (e s : Int) (l c : Nat) (q : Bool) (ob : Obj) (xs : List Rw) (hxs : xs.length = l) :
    ACall I P 4 [.int .u8 e, .int .u8 s, .slq 0 l c q] (Tr.ofList 0 [.out ob aS xs] .leaf) (fun v _ => v = .bool true) := by
  refine ocall mix (gQ4 hI) (fn := Try.f4) (by kernel_rfl) (by kernel_rfl) (by kernel_rfl) [.out ob aS xs] _ rfl rfl (fun hr ho => ?_)
  simp only [rgs, rg, Bool.and_eq_true, Nat.ble_eq] at hr
  obtain ⟨he, hs, ⟨hlc, hc⟩, _⟩ := hr
  obtain ⟨E1, E2⟩ := u8r he
  obtain ⟨S1, S2⟩ := u8r hs
  refine (t_lonce I (fun v _ _ => v = .bool true) e s l c q ob xs).mpr ?_
  generalize hE : IntKind.i64.wrap (IntKind.i64.wrap (e.tmod 64) + 1) = E at *
  generalize hS : IntKind.i64.wrap (IntKind.i64.wrap (s.tmod 64) + 1) = S at *
  have hb : badB E S = false := decide_eq_false (by omega)
  refine ⟨fun h => (by rw [hb] at h; cases h), fun _ s0 hs0 hok => ?_⟩
  have hth0 : s0.th = [] ∧ s0.dropped = 0 := by subst hs0; exact ⟨rfl, rfl⟩
  refine ALoop.invg (ps := [(1, 1), (2, 2), (3, 3)]) (ts := [2, 7, 9, 10]) (nx := 4) (fun x : Bf × PF × List (Rw × Nat) × Nat × Nat => j_on l c q ob xs x.1 x.2.1 x.2.2.1 x.2.2.2.1 (x.2.2.2.2 : Nat)) (fun x => OG x.1 x.2.1 x.2.2.1 x.2.2.2.1 x.2.2.2.2 l) (fun x => 100 - x.2.2.2.2) ?_ (by kernel_rfl) (s0, fun _ => .off, [], 0, 0) (by kernel_rfl)
    ⟨by show LOk _ [] 0 s0.th; rw [hth0.1]; exact LOk.nil _, by show s0.th.length ≤ 0; rw [hth0.1]; exact Nat.le_refl _, by show 0 ≤ s0.dropped; omega, by show s0.dropped ≤ _; omega, Nat.zero_le _⟩
  rintro ⟨st, f, es, clk, i⟩ g
  replace g : OG st f es clk i l := g
  simp only
  have hd0 := g.d0
  have hd1 := g.d1
  have hln := g.ln
  have hi1 := g.i1
  have hk := g.ok
  -- the last loop
  have last : ∀ s0 : St O, gcOk 1 [(1, 1), (2, 2), (3, 3), (4, 4)] [7, 113] s0 = true → gc 1 [(1, 1), (2, 2), (3, 3), (4, 4)] [7, 113] 5 s0 = j_oe ob xs st f es clk clk [] clk none →
      ALoop I 1 (cd Try.f4 [true, true, true, true, true, true, false, true, false, false]) (acode I P (Gm Q4) (adraw P (Gm Q4)) 1 (cd Try.f4 [true, true, true, true, true, true, false, true, false, false])) (ablock 5 (athen (cd Try.f4 [true, true, true, true, true, true, true]) (fun s => acode I P (Gm Q4) (adraw P (Gm Q4)) 1 (cd Try.f4 [true, true, true, true, true, true, true]) s (kret P Try.f4 (fun v _ _ => v = .bool true))) (kret P Try.f4 (fun v _ _ => v = .bool true)))) s0 := fun s0 h0 e0 => by
    refine ALoop.invg (ps := [(1, 1), (2, 2), (3, 3), (4, 4)]) (ts := [7, 113]) (nx := 5) (fun x : Bf × PF × List Nat × Option (Rw × Nat) => j_oe ob xs x.1 x.2.1 es clk clk x.2.2.1 clk x.2.2.2) (fun x => LOk x.2.1 (mleft es x.2.2.1) clk x.1.th) (fun x => (mleft es x.2.2.1).length) ?_ h0 (st, f, [], none) e0 (by
      show LOk f (mleft es []) clk st.th
      have : mleft es [] = es := by unfold mleft; exact List.filter_eq_self.2 (fun e _ => by simp)
      rw [this]; exact hk)
    rintro ⟨sv, fv, seen, cur⟩ hg
    replace hg : LOk fv (mleft es seen) clk sv.th := hg
    simp only
    have hgo : (Nat.blt 4 16777215 && mgoes es seen clk) = true := by rw [mgoes_all hk.old]; rfl
    refine (t_oeA I _ (fun _ => True) _ ob xs sv fv es clk clk seen clk cur).mpr (must_mk hgo ⟨fun hm => ?_, fun x b hx => ?_⟩)
    · have hall := mover_nil hm hk.old
      have hth : sv.th = [] := by
        cases hsv : sv.th with
        | nil => rfl
        | cons p r =>
          obtain ⟨a, ha, _⟩ := hg.has p (by rw [hsv]; exact List.mem_cons_self ..)
          obtain ⟨a1, a2⟩ := mleft_mem ha
          rw [hall a a1] at a2; cases a2
      refine bs_t (by rw [hth]; rfl) fun _ L hL => ?_
      rw [hth] at hL
      have hL : L = [] := by simpa [srt, keysOf] using hL
      exact ⟨fun _ => rfl, fun h => by rw [hL] at h; simp at h⟩
    · have hpin := hg.pin _ hx
      simp only at hpin
      have fin : ∀ sv' fv', sv' = takeS sv (x.i 0) → (∀ a ∈ mleft es seen, a.1.i 0 ≠ x.i 0 → fv' (a.1.p 1 0).pred = fv (a.1.p 1 0).pred) → ∀ s0 : St O, s0 = j_oe ob xs sv' fv' es clk clk (seen ++ [b]) clk (some (x, b)) → ∃ y : Bf × PF × List Nat × Option (Rw × Nat), LOk y.2.1 (mleft es y.2.2.1) clk y.1.th ∧ (mleft es y.2.2.1).length < (mleft es seen).length ∧ s0 = j_oe ob xs y.1 y.2.1 es clk clk y.2.2.1 clk y.2.2.2 :=
        fun sv' fv' h1 h2 s0 h0 => ⟨(sv', fv', seen ++ [b], some (x, b)), by rw [h1]; exact hg.left hx hk.brn hk.key h2, mleft_lt hx, h0⟩
      have hnz := hpin.nz
      refine must_mk (Nat.beq_refl _) ⟨matB_mem hk.brn (mleft_mem hx).1, fun L s6 h1 h2 => ⟨fun hn => ?_, fun _ c7 r8 => ?_⟩⟩
      · exact absurd (h1.symm.trans hn) hpin.ne
      · refine bs_f (beq_no hnz) (must_mk (by rw [hpin.on, hpin.z]; simp) ⟨⟨by simp, ?_, ?_⟩, ?_⟩)
        · show x.p 1 2 ≤ _
          rw [hpin.xs, hpin.ln]; simp
        · show strsOf _ _ = strsOf (fv (x.p 1 0).pred).xs (x.p 1 2)
          rw [hpin.xs, hpin.ln, strs_rowT, strs_rowT]; exact h1
        · exact fin _ _ h2 (hg.stay hx rfl rfl) _ rfl
  refine (t_onA I _ _ l c q ob xs st f es clk (i : Nat)).mpr (bsplit_both (fun hx => bsplit_both (fun hy => ?_) (fun hy => last _ (by kernel_rfl) (by kernel_rfl))) (fun hx => last _ (by kernel_rfl) (by kernel_rfl)))
  have hx := of_decide_eq_true hx
  have hy := of_decide_eq_true hy
  have hi : i < 100 := by omega
  have e3 : IntKind.i64.wrap ((i : Int) + 1) = ((i + 1 : Nat) : Int) := by rw [w_id (by omega) (by omega)]; omega
  rw [e3]
  have hix : i < xs.length := by omega
  refine must_mk (decide_eq_true ⟨by omega, hx⟩) (xget_mk (v := xs[i]) (by rw [Int.toNat_natCast]; exact List.getElem?_eq_getElem hix) (bsplit_both (fun _ => rfl) (fun _ => ?_)))
  have fin : ∀ st' f' es' clk', OG st' f' es' clk' (i + 1) l → ∀ s0 : St O, s0 = j_on l c q ob xs st' f' es' clk' ((i + 1 : Nat) : Int) → ∃ y : Bf × PF × List (Rw × Nat) × Nat × Nat, OG y.1 y.2.1 y.2.2.1 y.2.2.2.1 y.2.2.2.2 l ∧ 100 - y.2.2.2.2 < 100 - i ∧ s0 = j_on l c q ob xs y.1 y.2.1 y.2.2.1 y.2.2.2.1 (y.2.2.2.2 : Nat) :=
    fun st' f' es' clk' h s0 h0 => ⟨(st', f', es', clk', i + 1), h, by show 100 - (i + 1) < 100 - i; omega, h0⟩
  have stayG : OG st f es clk (i + 1) l := ⟨hk, by omega, hd0, by omega, by omega⟩
  generalize hX : xs[i] = X at *
  have ek : ∀ j : Nat, encS X (0 + 1) (Sh.i IntKind.i64) = .int .i64 (X.i 1) := fun _ => rfl
  refine bsplit_both (fun _ => ⟨⟨hd0, by omega⟩, fun e1 s2 h1 h2 => ?_⟩) (fun _ => bsplit_both (fun _ => ?_) (fun _ => bsplit_both (fun _ => ?_) (fun _ => fin _ _ _ _ stayG _ rfl)))
  -- Put
  · have hp := put_cases st (X.i 1) (X.s 2)
    have h1 : e1 = putC st (X.i 1) (X.s 2) := h1
    have h2 : s2 = putS st (X.i 1) (X.s 2) := h2
    refine bsplit_both (fun h0 => dup ?_) (fun h0 => ?_)
    · have h0 := eq_of_beq h0
      have hs2 : s2 = { st with th := st.th ++ [(X.i 1, X.s 2)] } := by
        rw [h2]; unfold putS; rw [if_pos (by rw [← h1, h0])]
      have gput : ∀ f' es' clk', LOk f' es' clk' (st.th ++ [(X.i 1, X.s 2)]) → OG s2 f' es' clk' (i + 1) l := fun f' es' clk' h => by
        rw [hs2]; exact ⟨h, by simp; omega, hd0, by show st.dropped ≤ _; omega, by omega⟩
      have hll : (lineOf st.th (X.i 1)).length ≤ 100 := by have := line_len st.th (X.i 1); omega
      rcases hk.row (X.i 1) with ⟨r0, r1, r2⟩ | ⟨a, ha, hae, hak, pin⟩
      · refine bs_t (by show Nat.beq ((mrow (.int .i64 (X.i 1)) es).p 1 0) 0 = true; rw [r0]; rfl) ⟨by decide, fun c' q1 q2 => ⟨rfl, fun b z hoff => ?_⟩⟩
        exact fin _ _ _ _ (gput _ _ _ (hk.put (b := b) (z := z) (l := 0 + 1) (c := c') (cap := c' * 1) (xs := [] ++ (rwA [.str (X.s 2)] :: [])) hoff (fun _ _ _ => rfl) (by rw [r1]; rfl) (by rw [r1]; rfl) (Nat.le_refl _))) _ rfl
      · have e4 : (mrow (.int .i64 (X.i 1)) es).p 1 2 = (lineOf st.th (X.i 1)).length := pin.ln
        have e5 := pin.xs
        have e6 := pin.cp
        have e7 := pin.z
        refine bs_f (beq_no pin.nz) (must_mk (by show ((f ((mrow (.int .i64 (X.i 1)) es).p 1 0).pred).on && Nat.beq (f ((mrow (.int .i64 (X.i 1)) es).p 1 0).pred).z ((mrow (.int .i64 (X.i 1)) es).p 1 1)) = true; rw [pin.on, e7]; simp) (must_mk (by
          show (Nat.ble ((mrow (.int .i64 (X.i 1)) es).p 1 2) (f ((mrow (.int .i64 (X.i 1)) es).p 1 0).pred).xs.length && Nat.ble ((mrow (.int .i64 (X.i 1)) es).p 1 3 * 1) (f ((mrow (.int .i64 (X.i 1)) es).p 1 0).pred).cap && Nat.blt (5 + 1) 16777215) = true
          rw [e5, e4]; simp only [Bool.and_eq_true, Nat.ble_eq, List.length_map]; exact ⟨⟨Nat.le_refl _, e6⟩, rfl⟩) ⟨?_, fun c' q1 q2 => ⟨rfl, fun b z hoff => ?_⟩⟩))
        · show (mrow (.int .i64 (X.i 1)) es).p 1 2 + 1 ≤ _
          rw [e4]; omega
        · have hst := hk.stay ha hak (b := (mrow (.int .i64 (X.i 1)) es).p 1 0) (by rw [hae])
          exact fin _ _ _ _ (gput _ _ _ (hk.put (b := b) (z := z) (l := (mrow (.int .i64 (X.i 1)) es).p 1 2 + 1) (c := c') (cap := c' * 1) (xs := List.take ((mrow (.int .i64 (X.i 1)) es).p 1 2) (f ((mrow (.int .i64 (X.i 1)) es).p 1 0).pred).xs ++ (rwA [.str (X.s 2)] :: [])) hoff hst (by rw [e4, e5]; exact map_snoc _ _) (by rw [e4]) (Nat.le_refl _))) _ rfl
    · have h0 := ne_of_beq_false h0
      refine fin _ _ _ _ ?_ _ rfl
      rcases hp with ⟨h, e, _⟩ | ⟨h, e, _⟩ | ⟨h, e, _⟩ | ⟨h, e, _⟩
      · rw [h2, e]; exact stayG
      · rw [h2, e]; exact stayG
      · rw [h2, e]; exact ⟨hk, by show st.th.length ≤ _; omega, by show 0 ≤ st.dropped + 1; omega, by show st.dropped + 1 ≤ _; omega, by omega⟩
      · exact absurd (h1.trans h) h0
  -- Take
  · have gtake : ∀ s' f' es', s' = takeS st (X.i 1) → LOk f' es' clk (st.th.filter (fun p => !decide (p.1 = X.i 1))) → OG s' f' es' clk (i + 1) l := fun s' f' es' e h => by
      have := line_len st.th (X.i 1)
      rw [e]; exact ⟨h, by show (st.th.filter _).length ≤ _; omega, hd0, by show st.dropped ≤ _; omega, by omega⟩
    rcases hk.row (X.i 1) with ⟨r0, r1, r2⟩ | ⟨a, ha, hae, hak, pin⟩
    · have z0 : Nat.beq ((mrow (encS X (0 + 1) (Sh.i IntKind.i64)) es).p 1 0) 0 = true := by show Nat.beq ((mrow (.int .i64 (X.i 1)) es).p 1 0) 0 = true; rw [r0]; rfl
      have gd := hk.del (f0 := f) (X.i 1) (fun _ _ _ => rfl)
      refine ⟨fun L s' h1 h2 => ⟨fun _ => ⟨rfl, bs_t z0 (fin _ _ _ _ (gtake s' _ _ h2 gd) _ rfl)⟩, fun hp => ?_⟩, fun L s' h1 h2 => ⟨fun _ => bs_t z0 (fin _ _ _ _ (gtake s' _ _ h2 gd) _ rfl), fun hp => ?_⟩⟩
      · have h1 : L = lineOf st.th (X.i 1) := h1
        rw [h1, r1] at hp; simp at hp
      · have h1 : L = lineOf st.th (X.i 1) := h1
        rw [h1, r1] at hp; simp at hp
    · have z0 : Nat.beq ((mrow (encS X (0 + 1) (Sh.i IntKind.i64)) es).p 1 0) 0 = false := beq_no pin.nz
      have z1 : ((f ((mrow (encS X (0 + 1) (Sh.i IntKind.i64)) es).p 1 0).pred).on && Nat.beq (f ((mrow (encS X (0 + 1) (Sh.i IntKind.i64)) es).p 1 0).pred).z ((mrow (encS X (0 + 1) (Sh.i IntKind.i64)) es).p 1 1)) = true := by
        show ((f ((mrow (.int .i64 (X.i 1)) es).p 1 0).pred).on && Nat.beq (f ((mrow (.int .i64 (X.i 1)) es).p 1 0).pred).z ((mrow (.int .i64 (X.i 1)) es).p 1 1)) = true
        rw [pin.on, pin.z]; simp
      have hst := hk.stay ha hak (b := (mrow (.int .i64 (X.i 1)) es).p 1 0) (by rw [hae])
      have gd := hk.del (X.i 1) hst
      have hxs := pin.xs
      have hl2 := pin.ln
      have same : ∀ L, L = lineOf st.th (X.i 1) → (L.length ≤ (L.map rowT).length) ∧ ((mrow (encS X (0 + 1) (Sh.i IntKind.i64)) es).p 1 2 ≤ (f ((mrow (encS X (0 + 1) (Sh.i IntKind.i64)) es).p 1 0).pred).xs.length) ∧ strsOf (L.map rowT) L.length = strsOf (f ((mrow (encS X (0 + 1) (Sh.i IntKind.i64)) es).p 1 0).pred).xs ((mrow (encS X (0 + 1) (Sh.i IntKind.i64)) es).p 1 2) := fun L h => by
        refine ⟨by simp, ?_, ?_⟩
        · show (mrow (.int .i64 (X.i 1)) es).p 1 2 ≤ (f ((mrow (.int .i64 (X.i 1)) es).p 1 0).pred).xs.length
          rw [hxs, hl2]; simp
        · show _ = strsOf (f ((mrow (.int .i64 (X.i 1)) es).p 1 0).pred).xs ((mrow (.int .i64 (X.i 1)) es).p 1 2)
          rw [hxs, hl2, strs_rowT, strs_rowT]; exact h
      refine ⟨fun L s' h1 h2 => ⟨fun hn => absurd ((show L = lineOf st.th (X.i 1) from h1).symm.trans hn) pin.ne, fun _ c7 r8 => ⟨rfl, bs_f z0 (must_mk z1 ⟨same L h1, fin _ _ _ _ (gtake s' _ _ h2 gd) _ rfl⟩)⟩⟩,
        fun L s' h1 h2 => ⟨fun hn => absurd ((show L = lineOf st.th (X.i 1) from h1).symm.trans hn) pin.ne, fun _ c7 r8 => bs_f z0 (must_mk z1 ⟨same L h1, fin _ _ _ _ (gtake s' _ _ h2 gd) _ rfl⟩)⟩⟩
  -- Drop
  · refine ALoop.invg (ps := [(1, 1), (2, 2), (3, 3), (4, 4), (5, 5)]) (ts := [2, 7, 9, 10, 11, 12, 90]) (nx := 6) (fun y : Bf × List (Rw × Nat) × Int × List Nat × Option (Rw × Nat) => j_od l c q ob xs st f y.2.1 clk (i : Nat) X y.2.2.1 clk y.2.2.2.1 clk y.2.2.2.2)
      (fun y => LOk f y.2.1 clk y.1.th ∧ (dropS y.1 (X.i 1) = dropS st (X.i 1) ∧ dropN st (X.i 1) = dropN y.1 (X.i 1) + y.2.2.1) ∧ 0 ≤ y.2.2.1 ∧ ∀ a ∈ y.2.1, y.2.2.2.1.contains a.2 = true → ¬ a.1.i 0 < X.i 1) (fun y => (mleft y.2.1 y.2.2.2.1).length) ?_ (by kernel_rfl) (st, es, 0, [], none) (by kernel_rfl) ⟨hk, ⟨rfl, (Int.add_zero _).symm⟩, Int.le_refl _, fun a _ h => by simp at h⟩
    rintro ⟨sv, ev, n, seen, cur⟩ ⟨w1, ⟨w2, w3⟩, w4, w5⟩
    simp only at w1 w2 w3 w4 w5 ⊢
    have hgo : (Nat.blt 5 16777215 && mgoes ev seen clk) = true := by rw [mgoes_all w1.old]; rfl
    have hdn : dropN st (X.i 1) ≤ 100 := by
      unfold dropN
      have := List.length_filter_le (fun p : Int × ByteArray => decide (p.1 < X.i 1)) st.th
      omega
    refine (t_odA I _ _ _ l c q ob xs st f ev clk (i : Nat) X n clk seen clk cur).mpr (must_mk hgo ⟨fun hm => fun e0 s1 h1 h2 => ?_, fun x b hx' => ?_⟩)
    · have hall := mover_nil hm w1.old
      have hge : ∀ p ∈ sv.th, X.i 1 ≤ p.1 := fun p hp => by
        obtain ⟨a, ha, hp⟩ := w1.has p hp
        have := w5 a ha (hall a ha)
        omega
      obtain ⟨u1, u2⟩ := drop_all hge
      have hn : e0 = n := by rw [h1, w3, u2]; omega
      have hs1 : s1 = sv := by rw [h2, ← w2, u1]
      refine bs_f (by rw [hn]; simp) ?_
      rw [e3]
      have hd : s1.dropped = st.dropped := by rw [h2]; rfl
      have hl1 : s1.th.length ≤ st.th.length := by rw [h2]; exact List.length_filter_le _ _
      exact fin _ _ _ _ ⟨by rw [hs1]; exact w1, by omega, by omega, by omega, by omega⟩ _ rfl
    · obtain ⟨m1, m2⟩ := mleft_mem hx'
      have hpin := w1.pin _ m1
      simp only at hpin
      refine must_mk (Nat.beq_refl _) ⟨matB_mem w1.brn m1, bsplit_both (fun hlt => ?_) (fun hlt => ?_)⟩
      · have hlt : x.i 0 < X.i 1 := of_decide_eq_true hlt
        obtain ⟨d1, d2⟩ := drop_take sv hlt
        have hln' : x.p 1 2 = (lineOf sv.th (x.i 0)).length := hpin.ln
        have h0 : 0 ≤ dropN (takeS sv (x.i 0)) (X.i 1) := by unfold dropN; omega
        have wn : IntKind.i64.wrap (n + ((x.p 1 2 : Nat) : Int)) = n + ((x.p 1 2 : Nat) : Int) := w_id (by omega) (by omega)
        refine ⟨(takeS sv (x.i 0), mdel (.int .i64 (x.i 0)) ev, n + ((x.p 1 2 : Nat) : Int), seen ++ [b], some (x, b)), ⟨w1.del (x.i 0) (fun _ _ _ => rfl), ⟨d1.trans w2, ?_⟩, ?_, fun a ha hs => ?_⟩, ?_, ?_⟩
        · show dropN st (X.i 1) = dropN (takeS sv (x.i 0)) (X.i 1) + (n + ((x.p 1 2 : Nat) : Int)); omega
        · show 0 ≤ n + ((x.p 1 2 : Nat) : Int); omega
        · have ha1 := (mdel_sub _ _).subset ha
          rcases seen_add hs with hs | hs
          · exact w5 a ha1 hs
          · have := pw_inj w1.brn a ha1 (x, b) m1 hs
            exact absurd (by rw [this]) (mdel_key w1.key a ha)
        · show (mleft (mdel (.int .i64 (x.i 0)) ev) (seen ++ [b])).length < (mleft ev seen).length
          have h3 : (mleft (mdel (.int .i64 (x.i 0)) ev) (seen ++ [b])).length ≤ (mleft ev (seen ++ [b])).length := ((mdel_sub _ ev).filter _).length_le
          have h4 := mleft_lt hx'
          exact Nat.lt_of_le_of_lt h3 h4
        · show _ = j_od l c q ob xs st f (mdel (.int .i64 (x.i 0)) ev) clk (i : Nat) X (n + ((x.p 1 2 : Nat) : Int)) clk (seen ++ [b]) clk (some (x, b))
          conv => rhs; rw [← wn]
          rfl
      · have hlt : ¬ x.i 0 < X.i 1 := of_decide_eq_false hlt
        refine ⟨(sv, ev, n, seen ++ [b], some (x, b)), ⟨w1, ⟨w2, w3⟩, w4, fun a ha hs => ?_⟩, mleft_lt hx', rfl⟩
        rcases seen_add hs with hs | hs
        · exact w5 a ha hs
        · have := pw_inj w1.brn a ha (x, b) m1 hs
          rw [this]; exact hlt
end Go.Tb.W
