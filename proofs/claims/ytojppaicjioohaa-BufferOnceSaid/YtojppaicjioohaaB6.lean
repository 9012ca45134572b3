/- Buffers: Take and Drop, proved of the package. -/
import Derived.Test.YtojppaicjioohaaB5
set_option linter.all false
set_option maxRecDepth 100000
namespace Go.Tb.W
open Go Go.Proofs
abbrev IQ : Interp O := pkI pk
variable {I : Interp O}
theorem take_loop {each room size dropped : Int} {hid : List Slot} {cap : Nat} {line : List ByteArray} {es : List (Rw × Nat)} {clk : Nat} {K : AV → Tr (AO O) → Nat → Prop} (hne : line ≠ []) (h0 : 0 ≤ size) (hsz : (line.length : Int) ≤ size) (hmx : size ≤ 1000000)
    (h2 : ∀ c rm, K (.sl 5 0 line.length c) (j_tkB each room (size - (line.length : Int)) dropped hid cap [] es clk line.length c (line.map rowT) rm).hp 6) :
    ALoop I 4 (cd Try.f17 [true, true, true, true, true, false, false]) (acode I P (Gm N0) (adraw P (Gm N0)) 4 (cd Try.f17 [true, true, true, true, true, false, false])) (ablock 0 (kret P Try.f17 (K))) (j_tkA each room size dropped hid cap (line.map rowT) es clk) := by
  cases line with
  | nil => exact absurd rfl hne
  | cons t0 l0 =>
  have hln : ((t0 :: l0).length : Int) = (l0.length : Int) + 1 := by simp
  refine ALoop.stepg [(4, 4), (6, 5)] [0, 5, 7] 6 ?_
  refine (t_tkA I _ _ each room size dropped hid cap ((t0 :: l0).map rowT) es clk).mpr ⟨fun e => by simp at e, fun x0 rest e => ⟨by decide, fun c' q1 q2 => ?_⟩⟩
  obtain ⟨rfl, rfl⟩ := List.cons.inj (show rowT t0 :: l0.map rowT = x0 :: rest from e)
  have e4 : IntKind.i64.wrap (size - 1) = size - (([t0] : List ByteArray).length : Int) := by
    rw [w_id (by omega) (by omega)]; rfl
  rw [e4]
  refine ALoop.invj (ps := [(4, 4), (7, 5)]) (ts := [0, 5, 7]) (nx := 6) (fun x : List ByteArray × List ByteArray × Nat × Nat => j_tkB each room (size - (x.1.length : Int)) dropped hid cap (x.2.1.map rowT) es clk x.1.length x.2.2.1 (x.1.map rowT) x.2.2.2) (fun x => (t0 :: l0 = x.1 ++ x.2.1 ∧ x.1 ≠ []) ∧ x.2.2.1 * 1 ≤ x.2.2.2) (fun x => x.2.1.length) ?_ ([t0], l0, c', c' * 1) ⟨⟨rfl, by simp⟩, Nat.le_refl _⟩
  · rintro ⟨pre, rest, c, rm⟩ ⟨⟨g1, g2⟩, g4⟩
    simp only at g1 g2 g4 ⊢
    have hl : (t0 :: l0).length = pre.length + rest.length := by rw [g1, List.length_append]
    have hm : (pre.length.ble (pre.map rowT).length && (c * [Sh.s].length).ble rm && Nat.blt 5 16777215) = true := by
      simp [Nat.ble_eq]; omega
    refine (t_tkB I _ _ each room _ dropped hid cap _ es clk pre.length c (pre.map rowT) rm).mpr ⟨fun e => ?_, fun x0 r1 e => must_mk hm ⟨by omega, fun c2 q3 q4 => ?_⟩⟩
    · have : rest = [] := List.map_eq_nil_iff.1 e
      subst this
      have hp : pre = t0 :: l0 := by rw [g1]; simp
      subst hp
      exact h2 c rm
    · cases rest with
      | nil => cases e
      | cons t1 r =>
        obtain ⟨rfl, rfl⟩ := List.cons.inj (show rowT t1 :: r.map rowT = x0 :: r1 from e)
        refine ⟨(pre ++ [t1], r, c2, c2 * 1), ⟨⟨by rw [g1]; simp, by simp⟩, Nat.le_refl _⟩, by show r.length < (t1 :: r).length; simp, ?_⟩
        have e1 : (pre.map rowT).take pre.length = pre.map rowT := List.take_of_length_le (by simp)
        have e2 : (pre ++ [t1]).length = pre.length + 1 := by simp
        have e3 : (pre ++ [t1]).map rowT = pre.map rowT ++ [rowT t1] := by simp
        have e4 : IntKind.i64.wrap (size - (pre.length : Int) - 1) = size - ((pre.length + 1 : Nat) : Int) := by
          simp only [List.length_cons] at hl hsz
          rw [w_id (by omega) (by omega)]; omega
        simp only [e1, e2, e3, e4]
        rfl
variable (hI : I.R = pk.R)
include hI
theorem k_take : ∀ (args : List AV) (hp : Tr (AO O)) (nx : Nat) (K : AV → Tr (AO O) → Nat → Prop), c_take args hp nx K → ACall I P 17 args hp (fun v hp' => ∃ nx', K v hp' nx') := by
  intro args hp nx K h
  unfold c_take at h; split at h
  · rename_i n i
    obtain ⟨hb, s, hg, _, h⟩ := isB_spec h
    split at h
    · rename_i hnb hfr
      obtain ⟨h1, h2⟩ := h
      refine own_bodyF hI mix Gm.nil (fn := Try.f17) (by kernel_rfl) (by kernel_rfl) (by kernel_rfl) (fun _ _ _ h => R_foc i h) hg hb [.ptr 0 0, .int .i64 i] rfl rfl fun os hH hr ho => ?_
      obtain ⟨hok, ⟨hi, hid, hS, rfl⟩ | ⟨hi, hid, hS, rfl⟩⟩ := hH
      · have h1 := h1 hi
        rw [take_none hi] at h1
        exact (t_takeA I _ s.each s.room s.th.length s.dropped i hid).mpr (must_mk (by rw [kt3, hS.no hi]; rfl) ⟨s, _, [1], rfl, by decide, ⟨hok, .inl ⟨hid, hS, rfl⟩⟩, .inl ⟨rfl, nx, h1⟩⟩)
      · have h2 := h2 (List.length_pos_iff.2 hi)
        have hc := hok.cnt2
        have hll := line_len s.th i
        refine (t_takeP I _ s.each s.room s.th.length s.dropped i hid _ _ _ _).mpr (must_mk (by rw [kt3, decide_eq_true rfl]; rfl) (must_mk (by rw [kt3, decide_eq_true rfl]; rfl) ?_))
        refine ALoop.start [(4, 4)] [0, 5, 7] 5 (j_tkA s.each s.room s.th.length s.dropped hid s.each.toNat ((lineOf s.th i).map rowT) (entT (lineOf s.th i)) (lineOf s.th i).length) (by kernel_rfl) (by kernel_rfl) ?_
        refine take_loop hi (by omega) (by omega) (by omega) fun c rm => ?_
        have e : (s.th.length : Int) - ((lineOf s.th i).length : Int) = ((takeS s i).th.length : Nat) := by
          show _ = (((s.th.filter (fun p => !decide (p.1 = i))).length : Nat) : Int)
          omega
        rw [e]
        exact ⟨takeS s i, _, [1], rfl, by decide, ⟨hok.take i, .inl ⟨hid, hS.rest, rfl⟩⟩, .inr ⟨5, nx, _, rfl, rfl, rfl, rfl, hfr, hnb, nx + 1, h2 c rm⟩⟩
    · exact h.elim
  · exact h.elim
theorem gA1 : GOk I P (Gm A1) := Gm.consH (Gm.consH Gm.nil (k_ivs hI)) (k_take hI)
omit hI in
theorem drop_all {s : Bf} {b : Int} (h : ∀ p ∈ s.th, b ≤ p.1) : dropS s b = s ∧ dropN s b = 0 := by
  unfold dropS dropN
  rw [List.filter_eq_self.2 (fun p hp => by have := h p hp; simp; omega), List.filter_eq_nil_iff.2 (fun p hp => by have := h p hp; simp; omega)]
  exact ⟨rfl, rfl⟩
omit hI in
theorem drop_take (s : Bf) {b k : Int} (hk : k < b) : dropS (takeS s k) b = dropS s b ∧ dropN s b = dropN (takeS s k) b + ((lineOf s.th k).length : Int) := by
  unfold dropS dropN takeS
  simp only
  have e1 : (s.th.filter (fun p => !decide (p.1 = k))).filter (fun p => !decide (p.1 < b)) = s.th.filter (fun p => !decide (p.1 < b)) := by
    rw [List.filter_filter]
    refine List.filter_congr fun x hx => ?_
    by_cases e : x.1 < b
    · simp [e]
    · have : x.1 ≠ k := fun h => e (h ▸ hk)
      simp [e, this]
  refine ⟨by rw [e1], ?_⟩
  have h1 := drop_len s.th b
  have h2 := drop_len (s.th.filter (fun p => !decide (p.1 = k))) b
  have h3 := line_len s.th k
  rw [e1] at h2
  omega
omit hI in
theorem drop_loop {s : Bf} (hok : okB s) {b : Int} {c rm : Nat} {K : AV → Tr (AO O) → Nat → Prop}
    (hK : ∀ c rm : Nat, K (.int .i64 (dropN s b)) (.node (.node .leaf (some (nO ((srt (keysOf s.th)).map rowI) rm)) .leaf) (some (.own (dropS s b))) .leaf) 2) :
    ALoop I 1 (cd Try.f19 [true, true, false, true, false, false]) (acode I P (Gm A1) (adraw P (Gm A1)) 1 (cd Try.f19 [true, true, false, true, false, false])) (ablock 0 (athen (cd Try.f19 [true, true, true]) (fun s => acode I P (Gm A1) (adraw P (Gm A1)) 1 (cd Try.f19 [true, true, true]) s (kret P Try.f19 (K))) (kret P Try.f19 (K)))) (j_drB s b 0 (keysOf s.th).length c ((srt (keysOf s.th)).map rowI) rm 0) := by
  have hperm : (srt (keysOf s.th)).Perm (keysOf s.th) := List.mergeSort_perm _ _
  have hlen : (srt (keysOf s.th)).length = (keysOf s.th).length := hperm.length_eq
  have hks := hok.ks
  have hr2 := hok.r2
  have hcn := hok.cnt2
  generalize hL : srt (keysOf s.th) = L at *
  have e0 : j_drB s b 0 (keysOf s.th).length c (L.map rowI) rm 0 = j_drB s b (dropN s b - dropN s b) (keysOf s.th).length c (L.map rowI) rm ((0 : Nat) : Int) := by rw [Int.sub_self]; rfl
  rw [e0]
  refine ALoop.invj (ps := [(1, 1)]) (ts := [0, 1, 5, 9, 10, 11]) (nx := 2) (fun x : Bf × Nat => j_drB x.1 b (dropN s b - dropN x.1 b) (keysOf s.th).length c (L.map rowI) rm (x.2 : Nat)) (fun x => (x.2 ≤ (keysOf s.th).length ∧ dropS x.1 b = dropS s b) ∧ (0 ≤ dropN x.1 b ∧ dropN x.1 b ≤ dropN s b) ∧ ∀ p ∈ x.1.th, p.1 ∈ L.drop x.2 ∨ b ≤ p.1) (fun x => (keysOf s.th).length - x.2) ?_ (s, 0) ⟨⟨Nat.zero_le _, rfl⟩, ⟨by unfold dropN; omega, Int.le_refl _⟩, fun p hp => .inl ((hperm.mem_iff).2 (mem_keys.2 ⟨p, hp, rfl⟩))⟩
  · rintro ⟨t, i⟩ ⟨⟨g1, g2⟩, ⟨g5, g6⟩, g3⟩
    simp only at g1 g2 g3 g5 g6 ⊢
    have hdn : dropN s b ≤ 1000000 := by
      unfold dropN
      have := List.length_filter_le (fun p : Int × ByteArray => decide (p.1 < b)) s.th
      omega
    refine (t_drB I _ _ t b _ (keysOf s.th).length c (L.map rowI) rm (i : Nat)).mpr (bsplit_both (fun hx => ?_) (fun hx => ?_))
    · have hx := of_decide_eq_true hx
      have hi : i < L.length := by omega
      have ei : IntKind.i64.wrap ((i : Int) + 1) = ((i + 1 : Nat) : Int) := by rw [w_id (by omega) (by omega)]; omega
      rw [ei]
      refine must_mk (decide_eq_true ⟨by omega, hx⟩) (xget_mk (v := rowI (L[i])) (by rw [Int.toNat_natCast, List.getElem?_map, List.getElem?_eq_getElem hi]; rfl) ?_)
      show bsplit (decide (L[i] < b)) _
      refine bsplit_both (fun hy => ?_) (fun hy => ?_)
      · have hy := of_decide_eq_true hy
        obtain ⟨d1, d2⟩ := drop_take t hy
        have rest : ∀ p ∈ (takeS t (L[i])).th, p.1 ∈ L.drop (i + 1) ∨ b ≤ p.1 := fun p hp => by
          obtain ⟨q1, q2⟩ := List.mem_filter.1 hp
          have q2 : p.1 ≠ L[i] := by simpa using q2
          rcases g3 p q1 with h | h
          · rw [List.drop_eq_getElem_cons hi] at h
            rcases List.mem_cons.1 h with h | h
            · exact absurd h q2
            · exact .inl h
          · exact .inr h
        have hz : 0 ≤ dropN (takeS t (L[i])) b := by unfold dropN; omega
        refine ⟨fun e => ⟨(takeS t (L[i]), i + 1), ⟨⟨by omega, d1.trans g2⟩, ⟨hz, ?_⟩, rest⟩, by show (keysOf s.th).length - (i + 1) < (keysOf s.th).length - i; omega, ?_⟩, fun e c1 rm2 => ⟨(takeS t (L[i]), i + 1), ⟨⟨by omega, d1.trans g2⟩, ⟨hz, ?_⟩, rest⟩, by show (keysOf s.th).length - (i + 1) < (keysOf s.th).length - i; omega, ?_⟩⟩
        · show dropN (takeS t (L[i])) b ≤ dropN s b
          omega
        · have e : lineOf t.th (L[i]) = [] := e
          have e5 : IntKind.i64.wrap (dropN s b - dropN t b + 0) = dropN s b - dropN (takeS t (L[i])) b := by
            rw [e] at d2; simp at d2
            rw [w_id (by omega) (by omega)]; omega
          rw [e5]; rfl
        · show dropN (takeS t (L[i])) b ≤ dropN s b
          omega
        · have e5 : IntKind.i64.wrap (dropN s b - dropN t b + ((lineOf t.th ((rowI (L[i])).i 0)).length : Int)) = dropN s b - dropN (takeS t (L[i])) b := by
            show IntKind.i64.wrap (dropN s b - dropN t b + ((lineOf t.th (L[i])).length : Int)) = _
            rw [w_id (by omega) (by omega)]; omega
          rw [e5]; rfl
      · have hy := of_decide_eq_false hy
        refine ⟨(t, i + 1), ⟨⟨by omega, g2⟩, ⟨g5, g6⟩, fun p hp => ?_⟩, by show (keysOf s.th).length - (i + 1) < (keysOf s.th).length - i; omega, rfl⟩
        rcases g3 p hp with h | h
        · rw [List.drop_eq_getElem_cons hi] at h
          rcases List.mem_cons.1 h with h | h
          · exact .inr (by omega)
          · exact .inl h
        · exact .inr h
    · have hx := of_decide_eq_false hx
      have : L.drop i = [] := List.drop_eq_nil_of_le (by omega)
      rw [this] at g3
      obtain ⟨q1, q2⟩ := drop_all (s := t) (b := b) (fun p hp => (g3 p hp).resolve_left (by simp))
      rw [q1] at g2
      rw [q2, g2]
      simp only [Int.sub_zero]
      exact hK c rm
theorem k_drop : ∀ (args : List AV) (hp : Tr (AO O)) (nx : Nat) (K : AV → Tr (AO O) → Nat → Prop), c_drop args hp nx K → ACall I P 19 args hp (fun v hp' => ∃ nx', K v hp' nx') := by
  intro args hp nx K h
  unfold c_drop at h; split at h
  · rename_i n b
    obtain ⟨hb, s, _, hg, h⟩ := isB_spec h
    have fin : ∀ (lh : Tr (AO O)), lh.get 0 = some (.own (dropS s b)) → AllBack hp [n] K (.int .i64 (dropN s b)) lh := fun lh h0 => by
      refine ⟨[], nx, uniq1 hb, trivial, ?_, rfl, ?_⟩
      · simp [pairs, nmAll, h0, nmO]
      · show K _ (sets _ [(0, n)] hp) nx
        simp only [sets, h0]
        exact h
    refine hcallG mix (gA1 hI) (fn := Try.f19) (by kernel_rfl) (by kernel_rfl) (by kernel_rfl) [n] [.own s] [.ptr 0 0, .int .i64 b] rfl (uniq1 hb) rfl ⟨hg, trivial⟩ rfl rfl (fun hr ho => (t_drop I _ s b).mpr ?_)
    intro hok
    refine ⟨fun e => ?_, fun e c rm => ?_⟩
    · refine ALoop.start [] [0, 1, 5, 9, 10, 11] 1 (j_drA s b) (by kernel_rfl) (by kernel_rfl) ?_
      refine ALoop.stepg [] [0, 1, 5, 9, 10, 11] 1 ((t_drA I _ _ s b).mpr ?_)
      obtain ⟨q1, q2⟩ := drop_all (s := s) (b := b) (fun p hp => by rw [e] at hp; cases hp)
      have := fin (.node .leaf (some (.own s)) .leaf) (by rw [q1]; rfl)
      rw [q2] at this
      exact this
    · refine ALoop.start [(1, 1)] [0, 1, 5, 9, 10, 11] 2 (j_drB s b 0 (keysOf s.th).length c ((srt (keysOf s.th)).map rowI) rm 0) (by kernel_rfl) (by kernel_rfl) ?_
      exact drop_loop hok fun c rm => fin _ rfl
  · exact h.elim
theorem gB1 : GOk I P (Gm B1) := Gm.consH (Gm.consH (Gm.consH (Gm.consH (Gm.consH (Gm.consH (gA1 hI) (k_has hI)) (k_dropped hI)) (k_size hI)) (k_drop hI)) (k_put hI)) (k_new hI)
end Go.Tb.W
