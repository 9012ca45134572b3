/- Buffers: there are never more than may be; law. -/
import Derived.Test.YtojppaicjioohaaBQ
import Derived.Test.YtojppaicjioohaaBM
set_option linter.all false
set_option maxRecDepth 100000
set_option maxHeartbeats 0
namespace Go.Tb.W
open Go Go.Proofs
/-- What the law keeps. -/
structure RG (st : Bf) (E S : Int) (i : Nat) : Prop where
  ok : okB st
  e : st.each = E
  s : st.room = S
  d0 : 0 ≤ st.dropped
  d1 : st.dropped ≤ i
  il : i ≤ 100
theorem nil_th {st : Bf} (h : srt (keysOf st.th) = []) : st.th = [] := by
  have hl : (srt (keysOf st.th)).length = (keysOf st.th).length := List.length_mergeSort _
  rw [h] at hl
  cases ht : st.th with
  | nil => rfl
  | cons p l =>
    have : p.1 ∈ keysOf st.th := mem_keys.2 ⟨p, by rw [ht]; exact List.mem_cons_self .., rfl⟩
    rw [List.eq_nil_of_length_eq_zero (show (keysOf st.th).length = 0 by simpa using hl.symm)] at this
    cases this
theorem RG.tail {st : Bf} {E S : Int} {i : Nat} (g : RG st E S i) {L : List Int} (hL : L = srt (keysOf st.th)) :
    decide ((0 : Int) > S) = false ∧ decide ((L.length : Int) > S) = false ∧ (L = [] → decide ((st.th.length : Int) > IntKind.i64.wrap (0 * E)) = false) ∧ decide ((st.th.length : Int) > IntKind.i64.wrap ((L.length : Int) * E)) = false ∧ decide ((st.th.length : Int) < (L.length : Int)) = false := by
  have hl : L.length = (keysOf st.th).length := by rw [hL]; exact List.length_mergeSort _
  have h1 := g.ok.ks
  have h2 := g.ok.r1
  have h3 := g.ok.cnt
  have h4 := keys_le st.th
  have h5 := g.ok.e1
  have h6 := g.ok.e2
  have h7 := g.ok.r2
  have hs := g.s
  have he := g.e
  rw [hs] at h1 h2 h7
  rw [he] at h3 h5 h6
  refine ⟨decide_eq_false (by omega), decide_eq_false (by rw [hl]; omega), fun e => decide_eq_false ?_, decide_eq_false ?_, decide_eq_false (by rw [hl]; omega)⟩
  · have : st.th = [] := nil_th (by rw [← hL]; exact e)
    rw [this, Int.zero_mul]
    decide
  · rw [hl]
    have hm : ((keysOf st.th).length : Int) * E ≤ 64 * 64 := Int.mul_le_mul (by omega) h6 (by omega) (by omega)
    have hm0 : 0 ≤ ((keysOf st.th).length : Int) * E := Int.mul_nonneg (by omega) (by omega)
    rw [w_id (by omega) (by omega)]; omega
theorem RG.put {st : Bf} {E S : Int} {i : Nat} (g : RG st E S i) (hi : i < 100) (k : Int) (t : ByteArray) : RG (putS st k t) E S (i + 1) := by
  have h := put_each st k t
  have h0 := g.d0
  have h1 := g.d1
  refine ⟨g.ok.put k t, h.1.trans g.e, h.2.trans g.s, ?_, ?_, by omega⟩ <;>
    rcases put_cases st k t with ⟨_, e, _⟩ | ⟨_, e, _⟩ | ⟨_, e, _⟩ | ⟨_, e, _⟩ <;> rw [e] <;> (try simp only) <;> omega
theorem RG.sub {st : Bf} {E S : Int} {i : Nat} (g : RG st E S i) (hi : i < 100) {th' : Th} (hs : th'.Sublist st.th) : RG { st with th := th' } E S (i + 1) := by
  have h1 := g.d1
  exact ⟨g.ok.sub hs, g.e, g.s, g.d0, by simp only; omega, by omega⟩
theorem RG.same {st : Bf} {E S : Int} {i : Nat} (g : RG st E S i) (hi : i < 100) : RG st E S (i + 1) := by
  have h1 := g.d1
  exact ⟨g.ok, g.e, g.s, g.d0, by omega, by omega⟩
variable {I : Interp O} (hI : I.R = pk.R)
include hI
theorem l_room (e s : Int) (l c : Nat) (q : Bool) (ob : Obj) (xs : List Rw) (hxs : xs.length = l) :
    ACall I P 5 [.int .u8 e, .int .u8 s, .slq 0 l c q] (Tr.ofList 0 [.out ob aS xs] .leaf) (fun v _ => v = .bool true) := by
  refine ocall mix (gQ2 hI) (fn := Try.f5) (by kernel_rfl) (by kernel_rfl) (by kernel_rfl) [.out ob aS xs] _ rfl rfl (fun hr ho => ?_)
  simp only [rgs, rg, Bool.and_eq_true, Nat.ble_eq] at hr
  obtain ⟨he, hs, ⟨hlc, hc⟩, _⟩ := hr
  obtain ⟨E1, E2⟩ := u8r he
  obtain ⟨S1, S2⟩ := u8r hs
  refine (t_lroom I (fun v _ _ => v = .bool true) e s l c q ob xs).mpr ?_
  generalize hE : IntKind.i64.wrap (IntKind.i64.wrap (e.tmod 64) + 1) = E at *
  generalize hS : IntKind.i64.wrap (IntKind.i64.wrap (s.tmod 64) + 1) = S at *
  have hb : badB E S = false := decide_eq_false (by omega)
  refine ⟨fun h => (by rw [hb] at h; cases h), fun _ s0 hs0 hok => ?_⟩
  refine ALoop.start [(1, 1)] [2, 7, 8, 9, 11] 2 (j_rm l c q ob xs E S s0 0) (by kernel_rfl) (by kernel_rfl) ?_
  refine ALoop.invj (ps := [(1, 1)]) (ts := [2, 7, 8, 9, 11]) (nx := 2) (fun x : Bf × Nat => j_rm l c q ob xs E S x.1 (x.2 : Nat)) (fun x => RG x.1 E S x.2) (fun x => 100 - x.2) ?_ (s0, 0) (by subst hs0; exact ⟨hok, rfl, rfl, Int.le_refl _, Int.le_refl _, by omega⟩)
  rintro ⟨st, i⟩ g
  replace g : RG st E S i := g
  simp only
  have hd0 := g.d0
  have hd1 := g.d1
  have hil := g.il
  have hcn := g.ok.cnt2
  have fin : ∀ st' : Bf, RG st' E S (i + 1) → i < 100 → ∀ s0 : St O, s0 = j_rm l c q ob xs E S st' ((i + 1 : Nat) : Int) → ∃ y : Bf × Nat, RG y.1 E S y.2 ∧ 100 - y.2 < 100 - i ∧ s0 = j_rm l c q ob xs E S y.1 (y.2 : Nat) :=
    fun st' h hi s0 h0 => ⟨(st', i + 1), h, by show 100 - (i + 1) < 100 - i; omega, h0⟩
  refine (t_rmA I _ _ l c q ob xs E S st (i : Nat)).mpr (bsplit_both (fun hx => bsplit_both (fun hy => ?_) (fun hy => rfl)) (fun hx => rfl))
  have hx := of_decide_eq_true hx
  have hy := of_decide_eq_true hy
  have hi : i < 100 := by omega
  have e3 : IntKind.i64.wrap ((i : Int) + 1) = ((i + 1 : Nat) : Int) := by rw [w_id (by omega) (by omega)]; omega
  rw [e3]
  have hix : i < xs.length := by omega
  refine must_mk (decide_eq_true ⟨by omega, hx⟩) (xget_mk (v := xs[i]) (by rw [Int.toNat_natCast]; exact List.getElem?_eq_getElem hix) (bsplit_both (fun _ => rfl) (fun _ => ?_)))
  generalize (xs[i]).i 0 = kd
  generalize (xs[i]).i (0 + 1) = k
  generalize (xs[i]).s (0 + 1 + 1) = t
  have wd : IntKind.i64.wrap (st.dropped + 1) = st.dropped + 1 := w_id (by omega) (by omega)
  have wl : IntKind.i64.wrap ((st.th.length : Int) + 1) = (st.th.length : Int) + 1 := w_id (by omega) (by omega)
  rw [wd, wl]
  refine bsplit_both (fun _ => ?_) (fun _ => bsplit_both (fun _ => ?_) (fun _ => bsplit_both (fun _ => ?_) (fun _ => ?_)))
  · refine ⟨⟨hd0, by omega⟩, fun e1 s' h1 h2 => ?_⟩
    have g' := g.put hi k t
    rw [← h2] at g'
    have hp := put_cases st k t
    rw [← h1, ← h2] at hp
    by_cases h0 : e1 = 0
    · subst h0
      obtain ⟨h, _⟩ | ⟨h, _⟩ | ⟨h, _⟩ | ⟨_, hs', _⟩ := hp
      · cases h
      · cases h
      · cases h
      have hlen : (s'.th.length : Int) = (st.th.length : Int) + 1 := by rw [hs']; simp
      have hdr : s'.dropped = st.dropped := by rw [hs']
      refine bs_t rfl (bs_f (by rw [hlen]; simp) (bs_f rfl (bs_f ?_ fun b hb' => bs_t rfl (bs_f ?_ fun hok' L hL => ?_))))
      · rw [hdr]
        have : (st.dropped == st.dropped + 1) = false := by simp; omega
        rw [this]; rfl
      · have : b = true := by rw [hb', h2]; exact (has_put st k t).2 (.inl h1.symm)
        rw [this]; rfl
      · obtain ⟨t1, t2, t3, t4, t5⟩ := g'.tail hL
        exact ⟨fun e => bs_f t1 (bs_f (t3 e) (fin s' g' hi _ rfl)), fun _ c rm => bs_f t2 (bs_f t4 (bs_f t5 (fin s' g' hi _ rfl)))⟩
    · have hlen : (s'.th.length : Int) = (st.th.length : Int) := by
        obtain ⟨_, hs', _⟩ | ⟨_, hs', _⟩ | ⟨_, hs', _⟩ | ⟨h, _⟩ := hp
        · rw [hs']
        · rw [hs']
        · rw [hs']
        · exact absurd h h0
      have hdr : (e1 == 4) = (s'.dropped == st.dropped + 1) := by
        obtain ⟨h, hs', _⟩ | ⟨h, hs', _⟩ | ⟨h, hs', _⟩ | ⟨h, _⟩ := hp
        · rw [hs', h]
          have : (st.dropped == st.dropped + 1) = false := by simp; omega
          rw [this]; rfl
        · rw [hs', h]
          have : (st.dropped == st.dropped + 1) = false := by simp; omega
          rw [this]; rfl
        · rw [hs', h]
          simp
        · exact absurd h h0
      refine bs_f (by simpa using h0) (bs_t (by simpa using h0) (bs_f (by rw [hlen]; simp) (bs_f (by rw [hdr]; cases (s'.dropped == st.dropped + 1) <;> rfl) fun b hb' => bs_f (by simpa using h0) (bs_f ?_ fun hok' L hL => ?_))))
      · have : b = (e1 == 11) := by
          rw [hb']
          obtain ⟨h, hs', hk⟩ | ⟨h, hs', hk⟩ | ⟨h, hs', hk, hh, _⟩ | ⟨h, _⟩ := hp
          · rw [hs', h]
            cases hq : hasT (lineOf st.th k) t with
            | false => rfl
            | true =>
              have := g.ok.ps _ (mem_line.1 (hasT_iff.1 hq))
              simp only at this; omega
          · rw [hs', h, hk]; rfl
          · rw [hs', h]; exact hh
          · exact absurd h h0
        rw [this]; cases (e1 == 11) <;> rfl
      · obtain ⟨t1, t2, t3, t4, t5⟩ := g'.tail hL
        exact ⟨fun e => bs_f t1 (bs_f (t3 e) (fin s' g' hi _ rfl)), fun _ c rm => bs_f t2 (bs_f t4 (bs_f t5 (fin s' g' hi _ rfl)))⟩
  · intro L1 s' h1 h2
    have g' : RG s' E S (i + 1) := by rw [h2]; exact g.sub hi (List.filter_sublist ..)
    have hll := line_len st.th k
    have hs' : (s'.th.length : Int) = (st.th.length : Int) - (L1.length : Int) := by
      rw [h2, h1]; show (((st.th.filter (fun p => !decide (p.1 = k))).length : Nat) : Int) = _; omega
    have hdr : s'.dropped = st.dropped := by rw [h2]; rfl
    have wz : IntKind.i64.wrap ((st.th.length : Int) - (L1.length : Int)) = (st.th.length : Int) - (L1.length : Int) := by
      have : L1.length ≤ st.th.length := by rw [h1]; omega
      exact w_id (by omega) (by omega)
    refine ⟨fun e => bs_f ?_ (bs_f (by rw [hdr]; simp) fun hok' L hL => ?_), fun _ c rm => bs_f ?_ (bs_f (by rw [hdr]; simp) fun hok' L hL => ?_)⟩
    · subst e
      simp only [List.length_nil, Int.natCast_zero] at hs' wz
      show (IntKind.i64.wrap ((st.th.length : Int) - 0) != _) = false
      rw [wz, hs']; simp
    · obtain ⟨t1, t2, t3, t4, t5⟩ := g'.tail hL
      exact ⟨fun e => bs_f t1 (bs_f (t3 e) (fin s' g' hi _ rfl)), fun _ c rm => bs_f t2 (bs_f t4 (bs_f t5 (fin s' g' hi _ rfl)))⟩
    · rw [wz, hs']; simp
    · obtain ⟨t1, t2, t3, t4, t5⟩ := g'.tail hL
      exact ⟨fun e => bs_f t1 (bs_f (t3 e) (fin s' g' hi _ rfl)), fun _ c rm => bs_f t2 (bs_f t4 (bs_f t5 (fin s' g' hi _ rfl)))⟩
  · intro e1 s' h1 h2
    have g' : RG s' E S (i + 1) := by rw [h2]; exact g.sub hi (List.filter_sublist ..)
    have hll := drop_len st.th k
    have hs' : (s'.th.length : Int) = (st.th.length : Int) - e1 := by
      rw [h2, h1]; unfold dropN dropS; simp only; omega
    have hdr : s'.dropped = st.dropped := by rw [h2]; rfl
    have he1 : e1 = ((st.th.filter (fun p => decide (p.1 < k))).length : Nat) := h1
    have wz : IntKind.i64.wrap ((st.th.length : Int) - e1) = (st.th.length : Int) - e1 := by
      exact w_id (by omega) (by omega)
    refine bs_f (by rw [wz, hs']; simp) (bs_f (by rw [hdr]; simp) fun hok' L hL => ?_)
    obtain ⟨t1, t2, t3, t4, t5⟩ := g'.tail hL
    exact ⟨fun e => bs_f t1 (bs_f (t3 e) (fin s' g' hi _ rfl)), fun _ c rm => bs_f t2 (bs_f t4 (bs_f t5 (fin s' g' hi _ rfl)))⟩
  · intro hok' L hL
    have g' := g.same hi
    obtain ⟨t1, t2, t3, t4, t5⟩ := g'.tail hL
    exact ⟨fun e => bs_f t1 (bs_f (t3 e) (fin st g' hi _ rfl)), fun _ c rm => bs_f t2 (bs_f t4 (bs_f t5 (fin st g' hi _ rfl)))⟩
end Go.Tb.W
