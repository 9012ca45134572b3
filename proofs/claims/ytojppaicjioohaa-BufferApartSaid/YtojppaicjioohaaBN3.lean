/- Buffers: a full interval has just as many things as may be; law. -/
import Derived.Test.YtojppaicjioohaaBQ
import Derived.Test.YtojppaicjioohaaBM
set_option linter.all false
set_option maxRecDepth 100000
set_option maxHeartbeats 0
namespace Go.Tb.W
open Go Go.Proofs
/-- What the law keeps: what came first; its room; the buffer. -/
structure FG (F : List ByteArray) (E : Int) (d rm : Nat) (st : Bf) (i : Nat) : Prop where
  th : st.th = F.map fun t => (3, t)
  e : st.each = E
  s : st.room = 2
  d0 : 0 ≤ st.dropped
  d1 : st.dropped ≤ i
  ln : (F.length : Int) ≤ E
  cp : d * 1 ≤ rm
theorem keys3 {th : Th} {ks : List Int} (hn : ks.Nodup) (h : ∀ k, lineOf th k ≠ [] ↔ k ∈ ks) : (keysOf th).length = ks.length := keys_len_of hn fun k => (h k).symm
theorem FG.line {F : List ByteArray} {E : Int} {d rm : Nat} {st : Bf} {i : Nat} (g : FG F E d rm st i) (k : Int) : lineOf st.th k = if 3 = k then F else [] := by rw [g.th, line_map]
theorem map_snoc (F : List ByteArray) (t : ByteArray) : (F.map rowT).take F.length ++ (rwA [.str t] :: []) = (F ++ [t]).map rowT := by
  rw [List.take_of_length_le (by simp), List.map_append]; rfl
variable {I : Interp O} (hI : I.R = pk.R)
include hI
theorem l_full (e : Int) (l c : Nat) (q : Bool) (ob : Obj) (xs : List Rw) (hxs : xs.length = l) :
    ACall I P 6 [.int .u8 e, .slq 0 l c q] (Tr.ofList 0 [.out ob [.s] xs] .leaf) (fun v _ => v = .bool true) := by
  refine ocall mix (gQ2 hI) (fn := Try.f6) (by kernel_rfl) (by kernel_rfl) (by kernel_rfl) [.out ob [.s] xs] _ rfl rfl (fun hr ho => ?_)
  simp only [rgs, rg, Bool.and_eq_true, Nat.ble_eq] at hr
  obtain ⟨he, ⟨hlc, hc⟩, _⟩ := hr
  obtain ⟨E1, E2⟩ := u8r he
  refine (t_lfull I (fun v _ _ => v = .bool true) e l c q ob xs).mpr ?_
  generalize hE : IntKind.i64.wrap (IntKind.i64.wrap (e.tmod 64) + 1) = E at *
  have hb : badB E 2 = false := decide_eq_false (by omega)
  refine ⟨fun h => (by rw [hb] at h; cases h), fun _ s0 hs0 hok => bsplit_both (fun _ => rfl) (fun hl => ?_)⟩
  have hl : (l : Int) ≤ 100 := by have := of_decide_eq_false hl; omega
  refine ALoop.weak (Weak.asRows (n := 3) (l := 0) (sh := [.s]) (xs := []) rfl rfl rfl rfl) ?_
  refine ALoop.start [(1, 1), (2, 2), (3, 3)] [5, 6, 8, 9, 34, 35, 36] 4 (j_fl l c q ob xs E s0 [] 0 0 0 [] 0 0) (by kernel_rfl) (by kernel_rfl) ?_
  refine ALoop.invjL (pss := [[(1, 1), (2, 2), (3, 3)], [(1, 1), (2, 2), (4, 3)], [(1, 1), (2, 2), (5, 3)], [(1, 1), (2, 2), (6, 3)]]) (ts := [5, 6, 8, 9, 34, 35, 36]) (nx := 4) (fun x : List ByteArray × Nat × Nat × Bf × Nat => j_fl l c q ob xs E x.2.2.2.1 (entT x.1) x.1.length x.1.length x.2.1 (x.1.map rowT) x.2.2.1 (x.2.2.2.2 : Nat)) (fun x => FG x.1 E x.2.1 x.2.2.1 x.2.2.2.1 x.2.2.2.2 ∧ x.2.2.2.2 ≤ l) (fun x => l - x.2.2.2.2) ?_ ([], 0, 0, s0, 0) ⟨by subst hs0; exact ⟨rfl, rfl, rfl, Int.le_refl _, Int.le_refl _, by simp; omega, Nat.le_refl _⟩, Nat.zero_le _⟩
  rintro ⟨F, d, rm, st, i⟩ ⟨g, hil⟩
  replace g : FG F E d rm st i := g
  replace hil : i ≤ l := hil
  simp only
  have hd0 := g.d0
  have hd1 := g.d1
  have hln := g.ln
  have hcp := g.cp
  have hl3 : lineOf st.th 3 = F := by rw [g.line]; simp
  have fin : ∀ F' d' rm' st', FG F' E d' rm' st' (i + 1) → i < l → ∀ s0 : St O, s0 = j_fl l c q ob xs E st' (entT F') F'.length F'.length d' (F'.map rowT) rm' ((i + 1 : Nat) : Int) → ∃ y : List ByteArray × Nat × Nat × Bf × Nat, (FG y.1 E y.2.1 y.2.2.1 y.2.2.2.1 y.2.2.2.2 ∧ y.2.2.2.2 ≤ l) ∧ l - y.2.2.2.2 < l - i ∧ s0 = j_fl l c q ob xs E y.2.2.2.1 (entT y.1) y.1.length y.1.length y.2.1 (y.1.map rowT) y.2.2.1 (y.2.2.2.2 : Nat) :=
    fun F' d' rm' st' h hi s0 h0 => ⟨(F', d', rm', st', i + 1), ⟨h, hi⟩, by show l - (i + 1) < l - i; omega, h0⟩
  refine (t_flA I _ _ l c q ob xs E st (entT F) F.length F.length d (F.map rowT) rm (i : Nat)).mpr (bsplit_both (fun hx => ?_) (fun hx => ?_))
  · have hx := of_decide_eq_true hx
    have hix : i < xs.length := by omega
    have e3 : IntKind.i64.wrap ((i : Int) + 1) = ((i + 1 : Nat) : Int) := by rw [w_id (by omega) (by omega)]; omega
    rw [e3]
    refine must_mk (decide_eq_true ⟨by omega, hx⟩) (xget_mk (v := xs[i]) (by rw [Int.toNat_natCast]; exact List.getElem?_eq_getElem hix) (bsplit_both (fun _ => rfl) (fun _ => ⟨⟨hd0, by omega⟩, fun e1 s' h1 h2 => ?_⟩)))
    obtain ⟨t, ht⟩ : ∃ t, (xs[i]).s 0 = t := ⟨_, rfl⟩
    have hen : encS (xs[i]) 0 Sh.s = .str t := by show AV.str _ = _; rw [ht]
    rw [hen, ht, ent_row]
    rw [ht] at h1 h2
    cases hh : hasT F t with
    | true =>
      refine bs_f rfl ?_
      obtain ⟨p1, p2⟩ := put_twice (s := st) (i := 3) (t := t) (by decide) (by rw [hl3]; exact hh)
      rw [p2] at h2
      subst h2
      exact fin F d rm s' ⟨g.th, g.e, g.s, hd0, by omega, hln, hcp⟩ (by omega) _ rfl
    | false =>
      refine bs_t rfl (bsplit_both (fun hy => ?_) (fun hy => ?_))
      · have hy := of_decide_eq_true hy
        obtain ⟨p1, p2⟩ := put_ok (s := st) (i := 3) (t := t) (by decide) (by rw [hl3]; exact hh) (by
          rintro ⟨h3, h4⟩
          rw [hl3] at h3
          have : st.th = [] := by rw [g.th, h3]; rfl
          rw [this, g.s] at h4
          simp [keysOf] at h4) (by rw [hl3, g.e]; exact hy)
        rw [p2] at h2
        have hm : (F.length.ble (F.map rowT).length && (d * [Sh.s].length).ble rm && Nat.blt 3 16777215) = true := by
          simp [Nat.ble_eq]; omega
        refine must_mk hm ⟨by omega, fun c' q1 q2 => ?_⟩
        obtain ⟨m1, m2⟩ := ent_put hh
        have m1 : mput (rwA [(.str t), (.bool true)]) (.str t) F.length (entT F) = entT (F ++ [t]) := m1
        have e2 : F.length + 1 = (F ++ [t]).length := by simp
        rw [map_snoc, m1, m2, e2]
        refine fin (F ++ [t]) c' (c' * 1) s' ⟨?_, ?_, ?_, ?_, ?_, ?_, Nat.le_refl _⟩ (by omega) _ rfl
        · rw [h2]; simp [g.th]
        · rw [h2]; exact g.e
        · rw [h2]; exact g.s
        · rw [h2]; exact hd0
        · rw [h2]; simp only; omega
        · simp; omega
      · have hy := of_decide_eq_false hy
        obtain ⟨p1, p2⟩ := put_many (s := st) (i := 3) (t := t) (by decide) (by rw [hl3]; exact hh) (.inr (by rw [hl3, g.e]; omega))
        rw [p2] at h2
        refine fin F d rm s' ⟨?_, ?_, ?_, ?_, ?_, hln, hcp⟩ (by omega) _ rfl
        · rw [h2]; exact g.th
        · rw [h2]; exact g.e
        · rw [h2]; exact g.s
        · rw [h2]; simp only; omega
        · rw [h2]; simp only; omega
  · have hkF : (keysOf st.th).length = if F = [] then 0 else 1 := by
      split
      · rename_i h; rw [g.th, h]; rfl
      · rename_i h
        exact keys3 (ks := [3]) (by simp) fun k => by
          rw [g.line]
          by_cases e : 3 = k
          · subst e; simp [h]
          · simp [e]; exact fun h => e h.symm
    refine ⟨⟨hd0, by omega⟩, fun e4 s5 h1 h2 => ?_⟩
    obtain ⟨p1, p2⟩ := put_ok (s := st) (i := 4) (t := ByteArray.mk #[120]) (by decide) (by rw [g.line]; rfl) (by
      rintro ⟨_, h⟩
      rw [hkF, g.s] at h
      split at h <;> simp at h) (by rw [g.line, g.e]; simp; omega)
    rw [p1] at h1; rw [p2] at h2
    subst h1
    refine bs_f rfl ?_
    have l5 : ∀ k, lineOf s5.th k = if 3 = k then F else if 4 = k then [ByteArray.mk #[120]] else [] := fun k => by
      rw [h2]; simp only [line_snoc, g.line]
      by_cases a : 3 = k
      · subst a; simp
      · by_cases b : 4 = k <;> simp [a, b]
    have s5e : s5.each = E ∧ s5.room = 2 ∧ s5.dropped = st.dropped := by rw [h2]; exact ⟨g.e, g.s, rfl⟩
    clear p1 p2 h2
    obtain ⟨s5e, s5r, s5d⟩ := s5e
    refine bsplit_both (fun hn => ?_) (fun hn => ?_)
    · have hn := of_decide_eq_true hn
      have hF : F ≠ [] := fun e => by rw [e] at hn; simp at hn
      have k5 : (keysOf s5.th).length = 2 := keys3 (ks := [3, 4]) (by simp) fun k => by
        rw [l5]
        by_cases a : 3 = k
        · subst a; simp [hF]
        · by_cases b : 4 = k
          · subst b; simp
          · simp [a, b]; exact ⟨fun h => a h.symm, fun h => b h.symm⟩
      refine ⟨⟨by omega, by omega⟩, fun e6 s7 h1 h2 => ?_⟩
      obtain ⟨p1, p2⟩ := put_many (s := s5) (i := 5) (t := ByteArray.mk #[121]) (by decide) (by rw [l5]; rfl) (.inl ⟨by rw [l5]; rfl, by rw [k5, s5r]; rfl⟩)
      rw [p1] at h1; rw [p2] at h2
      subst h1; subst h2
      refine bs_f rfl fun L8 s9 h1 h2 => ?_
      have hL : L8 = F := by rw [h1]; show lineOf s5.th 3 = F; rw [l5]; simp
      have l9 : ∀ k, lineOf s9.th k = if 4 = k then [ByteArray.mk #[120]] else [] := fun k => by
        rw [h2]
        show lineOf (s5.th.filter _) k = _
        rw [line_take, l5]
        by_cases a : 3 = k
        · subst a; simp
        · rw [if_neg (fun h : k = 3 => a h.symm), if_neg a]
      have k9 : (keysOf s9.th).length = 1 := keys3 (ks := [4]) (by simp) fun k => by
        rw [l9]
        by_cases b : 4 = k
        · subst b; simp
        · simp [b]; exact fun h => b h.symm
      have s9e : s9.each = E ∧ s9.room = 2 ∧ s9.dropped = st.dropped + 1 := by rw [h2]; exact ⟨s5e, s5r, by show s5.dropped + 1 = _; rw [s5d]⟩
      obtain ⟨s9e, s9r, s9d⟩ := s9e
      have last : putC s9 5 (ByteArray.mk #[121]) = 0 := (put_ok (s := s9) (i := 5) (t := ByteArray.mk #[121]) (by decide) (by rw [l9]; rfl) (by rw [k9, s9r]; rintro ⟨_, h⟩; cases h) (by rw [l9, s9e]; simp; omega)).1
      refine ⟨fun e => absurd (hL ▸ e) hF, fun _ c2 rm2 => ⟨⟨by simp, by simp, ?_⟩, ⟨by omega, by omega⟩, fun e14 s15 h3 h4 => ?_⟩⟩
      · rw [hL, strs_rowT]
      · rw [h3, last]; rfl
    · have hF : F = [] := by
        have := of_decide_eq_false hn
        exact List.eq_nil_of_length_eq_zero (by omega)
      intro L16 s17 h1 h2
      have hL : L16 = [] := by rw [h1, l5]; simp [hF]
      have l9 : ∀ k, lineOf s17.th k = if 4 = k then [ByteArray.mk #[120]] else [] := fun k => by
        rw [h2]
        show lineOf (s5.th.filter _) k = _
        rw [line_take, l5]
        by_cases a : 3 = k
        · subst a; simp
        · rw [if_neg (fun h : k = 3 => a h.symm), if_neg a]
      have k9 : (keysOf s17.th).length = 1 := keys3 (ks := [4]) (by simp) fun k => by
        rw [l9]
        by_cases b : 4 = k
        · subst b; simp
        · simp [b]; exact fun h => b h.symm
      have s9e : s17.each = E ∧ s17.room = 2 ∧ s17.dropped = st.dropped := by rw [h2]; exact ⟨s5e, s5r, s5d⟩
      obtain ⟨s9e, s9r, s9d⟩ := s9e
      have last : putC s17 5 (ByteArray.mk #[121]) = 0 := (put_ok (s := s17) (i := 5) (t := ByteArray.mk #[121]) (by decide) (by rw [l9]; rfl) (by rw [k9, s9r]; rintro ⟨_, h⟩; cases h) (by rw [l9, s9e]; simp; omega)).1
      refine ⟨fun _ => ⟨by rw [hF]; rfl, ⟨by omega, by omega⟩, fun e18 s19 h3 h4 => ?_⟩, fun h => by rw [hL] at h; simp at h⟩
      rw [h3, last]; rfl
end Go.Tb.W
