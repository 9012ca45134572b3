/- Buffers: intervals that have something rise; law. -/
import Derived.Test.YtojppaicjioohaaBN2
import Derived.Test.YtojppaicjioohaaBO
set_option linter.all false
set_option maxRecDepth 100000
set_option maxHeartbeats 0
namespace Go.Tb.W
open Go Go.Proofs
def keysM (es : List (Rw × Nat)) : List Int := es.map fun e => e.1.i 0
theorem isK_int (x : Rw) (k : Int) : isK x (.int .i64 k) = decide (x.i 0 = k) := by
  show (x.i 0 == k) = _
  by_cases h : x.i 0 = k
  · rw [decide_eq_true h]; simpa using h
  · rw [decide_eq_false h]; simpa using h
theorem mrow_int {k : Int} : ∀ {es : List (Rw × Nat)}, (∀ e ∈ es, e.1.b 1 = true) → (mrow (.int .i64 k) es).b 1 = decide (k ∈ keysM es)
  | [], _ => rfl
  | e :: es, h => by
    have hk := isK_int e.1 k
    have ih := mrow_int (k := k) (es := es) (fun e he => h e (List.mem_cons_of_mem _ he))
    unfold mrow at ih ⊢
    show (match (match isK e.1 (.int .i64 k) with | true => some e | false => mfind (.int .i64 k) es) with | some e => e.1 | none => zrw).b 1 = _
    rw [hk]
    by_cases e1 : e.1.i 0 = k
    · rw [decide_eq_true e1]
      simp only
      rw [h e (List.mem_cons_self ..), decide_eq_true]
      rw [← e1]; exact List.mem_cons_self ..
    · rw [decide_eq_false e1]
      simp only
      refine Eq.trans ih ?_
      refine decide_eq_decide.2 ?_
      show _ ↔ k ∈ e.1.i 0 :: keysM es
      rw [List.mem_cons]
      exact ⟨.inr, fun h => h.resolve_left (fun h => e1 h.symm)⟩
theorem mdel_int {k : Int} : ∀ (es : List (Rw × Nat)), keysM (mdel (.int .i64 k) es) = (keysM es).erase k
  | [] => rfl
  | e :: es => by
    have hk := isK_int e.1 k
    show keysM (match isK e.1 (.int .i64 k) with | true => es | false => e :: mdel (.int .i64 k) es) = (e.1.i 0 :: keysM es).erase k
    rw [hk, List.erase_cons]
    by_cases e1 : e.1.i 0 = k
    · rw [decide_eq_true e1, if_pos (by simpa using e1)]
    · rw [decide_eq_false e1, if_neg (by simpa using e1)]
      show e.1.i 0 :: keysM _ = _
      rw [mdel_int es]
theorem mput_int {k : Int} {row : Rw} {clk : Nat} : ∀ {es : List (Rw × Nat)}, k ∉ keysM es → mput row (.int .i64 k) clk es = es ++ [(row, clk)]
  | [], _ => rfl
  | e :: es, h => by
    have hk := isK_int e.1 k
    have e1 : e.1.i 0 ≠ k := fun e1 => h (by rw [← e1]; exact List.mem_cons_self ..)
    show (match isK e.1 (.int .i64 k) with | true => (row, e.2) :: es | false => e :: mput row (.int .i64 k) clk es) = _
    rw [hk, decide_eq_false e1]
    simp only
    rw [mput_int (fun h' => h (List.mem_cons_of_mem _ h'))]; rfl
/-- What the law keeps. -/
structure SG (st : Bf) (es : List (Rw × Nat)) (i : Nat) : Prop where
  r : RG st 1 64 i
  p : (keysM es).Perm (keysOf st.th)
  b : ∀ e ∈ es, e.1.b 1 = true
theorem SG.has {st : Bf} {es : List (Rw × Nat)} {i : Nat} (g : SG st es i) (k : Int) : (mrow (.int .i64 k) es).b 1 = decide (k ∈ keysOf st.th) := by
  rw [mrow_int g.b]; exact decide_eq_decide.2 g.p.mem_iff
theorem SG.take {st : Bf} {es : List (Rw × Nat)} {i : Nat} (g : SG st es i) (hi : i < 100) (k : Int) : SG (takeS st k) (mdel (.int .i64 k) es) (i + 1) := by
  refine ⟨g.r.sub hi (List.filter_sublist ..), ?_, fun e he => g.b e (mdel_mem he)⟩
  rw [mdel_int]
  refine (g.p.erase k).trans ?_
  rw [keys_nd.erase_eq_filter]
  refine List.Perm.trans (List.Perm.of_eq (List.filter_congr fun x hx => ?_)) (keys_take st.th k).symm
  by_cases h : x = k <;> simp [h]
theorem SG.put {st : Bf} {es : List (Rw × Nat)} {i : Nat} (g : SG st es i) (hi : i < 100) {k : Int} {t : ByteArray} (h0 : putC st k t = 0) (hk : k ∉ keysOf st.th) (clk : Nat) : SG (putS st k t) (mput (rwA [.int .i64 k, .bool true]) (.int .i64 k) clk es) (i + 1) := by
  have hkm : k ∉ keysM es := fun h => hk (g.p.mem_iff.1 h)
  rw [mput_int hkm]
  refine ⟨g.r.put hi k t, ?_, fun e he => ?_⟩
  · have hl : lineOf st.th k = [] := by
      refine Classical.byContradiction fun h => hk (key_line.2 h)
    have e : (putS st k t).th = st.th ++ [(k, t)] := by unfold putS; rw [if_pos h0]
    rw [e]
    show (List.map _ (es ++ [_])).Perm _
    rw [List.map_append]
    refine (List.perm_append_comm).trans ?_
    refine List.Perm.trans (g.p.cons k) (keys_of (List.nodup_cons.2 ⟨hk, keys_nd⟩) fun j => ?_)
    rw [List.mem_cons, line_snoc, key_line]
    by_cases e : k = j
    · simp [e]
    · rw [if_neg e]
      exact ⟨fun h => h.resolve_left (fun h => e h.symm), .inr⟩
  · rcases List.mem_append.1 he with he | he
    · exact g.b e he
    · simp at he; subst he; rfl
theorem SG.same {st : Bf} {es : List (Rw × Nat)} {i : Nat} (g : SG st es i) (hi : i < 100) {k : Int} {t : ByteArray} (h0 : putC st k t ≠ 0) : SG (putS st k t) es (i + 1) := by
  refine ⟨g.r.put hi k t, ?_, g.b⟩
  have e : (putS st k t).th = st.th := by unfold putS; rw [if_neg h0]; split <;> rfl
  rw [e]; exact g.p
theorem SG.len {st : Bf} {es : List (Rw × Nat)} {i : Nat} (g : SG st es i) : es.length = (keysOf st.th).length ∧ st.th.length = (keysOf st.th).length := by
  have h1 := g.p.length_eq
  have h2 := g.r.ok.cnt
  have h3 := keys_le st.th
  rw [g.r.e] at h2
  unfold keysM at h1
  simp at h1
  omega
theorem srt_rises {th : Th} {j : Nat} {L : List Int} (hL : L = srt (keysOf th)) (h : j + 1 < L.length) : L[j] < L[j + 1] := by
  have hs : L.Pairwise (fun x y => x ≤ y) := by
    rw [hL]
    have := List.pairwise_mergeSort (le := fun x y : Int => decide (x ≤ y)) (fun a b c h1 h2 => decide_eq_true (Int.le_trans (of_decide_eq_true h1) (of_decide_eq_true h2))) (fun a b => by simp; omega) (keysOf th)
    exact this.imp fun {a b} h => of_decide_eq_true h
  have hn : L.Nodup := by rw [hL]; exact (List.mergeSort_perm _ _).nodup_iff.2 keys_nd
  have h1 := List.pairwise_iff_getElem.1 hs j (j + 1) (by omega) h (by omega)
  have h2 := List.pairwise_iff_getElem.1 hn j (j + 1) (by omega) h (by omega)
  omega
theorem srt_mem {th : Th} {k : Int} : k ∈ srt (keysOf th) ↔ k ∈ keysOf th := (List.mergeSort_perm _ _).mem_iff
variable {I : Interp O}
theorem rise_loop {ob : Obj} {xs : List Rw} {st : Bf} {es : List (Rw × Nat)} {clk i : Nat} (g : SG st es i) {L : List Int} (hL : L = srt (keysOf st.th)) (c rm : Nat) :
    ALoop I 1 (cd Try.f9 [true, true, true, true, true, true, true, false, true, false, false]) (acode I P (Gm Q2) (adraw P (Gm Q2)) 1 (cd Try.f9 [true, true, true, true, true, true, true, false, true, false, false])) (ablock 2 (athen (cd Try.f9 [true, true, true, true, true, true, true, true]) (fun s => acode I P (Gm Q2) (adraw P (Gm Q2)) 1 (cd Try.f9 [true, true, true, true, true, true, true, true]) s (kret P Try.f9 (fun v _ _ => v = .bool true))) (kret P Try.f9 (fun v _ _ => v = .bool true)))) (j_rt ob xs st es clk L.length c (L.map rowI) rm 0) := by
  have hl : L.length = (keysOf st.th).length := by rw [hL]; exact List.length_mergeSort _
  obtain ⟨g1, g2⟩ := g.len
  have hks := g.r.ok.ks
  rw [g.r.s] at hks
  refine ALoop.invj (ps := [(1, 1), (2, 2), (3, 3)]) (ts := [3, 5, 8, 52, 53]) (nx := 4) (fun k : Nat => j_rt ob xs st es clk L.length c (L.map rowI) rm (k : Nat)) (fun k => k ≤ L.length) (fun k => L.length - k) ?_ 0 (Nat.zero_le _)
  intro k hk
  refine (t_rtA I (fun v _ _ => v = .bool true) (fun _ => True) _ ob xs st es clk L.length c (L.map rowI) rm (k : Nat)).mpr (bsplit_both (fun hx => ?_) (fun hx => ⟨by omega, bs_t (by rw [g1, hl]; simp) ⟨by omega, ?_⟩⟩))
  · have hx := of_decide_eq_true hx
    have hkl : k < L.length := by omega
    have e3 : IntKind.i64.wrap ((k : Int) + 1) = ((k + 1 : Nat) : Int) := by rw [w_id (by omega) (by omega)]; omega
    rw [e3]
    have hb' : decide ((0 : Int) ≤ (k : Int) ∧ (k : Int) < (L.length : Int)) = true := decide_eq_true ⟨by omega, hx⟩
    have hget : (L.map rowI)[((k : Nat) : Int).toNat]? = some (rowI (L[k])) := by rw [Int.toNat_natCast, List.getElem?_map, List.getElem?_eq_getElem hkl]; rfl
    have hin : (mrow (encS (rowI (L[k])) 0 (Sh.i IntKind.i64)) es).b 1 = true := by
      show (mrow (.int .i64 (L[k])) es).b 1 = true
      rw [g.has]
      exact decide_eq_true (srt_mem.1 (hL ▸ List.getElem_mem hkl))
    refine bsplit_both (fun hp => ?_) (fun hp => must_mk hb' (xget_mk hget (bs_f (by rw [hin]; rfl) ⟨k + 1, hkl, by omega, rfl⟩)))
    have hp := of_decide_eq_true hp
    have e4 : IntKind.i64.wrap ((k : Int) - 1) = ((k - 1 : Nat) : Int) := by rw [w_id (by omega) (by omega)]; omega
    rw [e4]
    have hkl1 : k - 1 < L.length := by omega
    have hget1 : (L.map rowI)[((k - 1 : Nat) : Int).toNat]? = some (rowI (L[k - 1])) := by rw [Int.toNat_natCast, List.getElem?_map, List.getElem?_eq_getElem hkl1]; rfl
    have hlt : L[k - 1] < L[k] := by
      have := srt_rises hL (j := k - 1) (by omega)
      simpa only [show k - 1 + 1 = k by omega] using this
    refine must_mk (decide_eq_true ⟨by omega, by omega⟩) (must_mk hb' (xget_mk hget1 (xget_mk hget (bs_f (decide_eq_false (by show ¬ (L[k - 1] ≥ L[k]); omega)) (must_mk hb' (xget_mk hget (bs_f (by rw [hin]; rfl) ⟨k + 1, hkl, by omega, rfl⟩)))))))
  · show AV.bool ((st.th.length : Int) == (es.length : Int)) = .bool true
    rw [g1, g2]; simp
theorem rise_nil {ob : Obj} {xs : List Rw} {st : Bf} {es : List (Rw × Nat)} {clk i : Nat} (g : SG st es i) {L : List Int} (hL : L = srt (keysOf st.th)) (h0 : L = []) :
    ALoop I 1 (cd Try.f9 [true, true, true, true, true, true, true, false, true, false, false]) (acode I P (Gm Q2) (adraw P (Gm Q2)) 1 (cd Try.f9 [true, true, true, true, true, true, true, false, true, false, false])) (ablock 2 (athen (cd Try.f9 [true, true, true, true, true, true, true, true]) (fun s => acode I P (Gm Q2) (adraw P (Gm Q2)) 1 (cd Try.f9 [true, true, true, true, true, true, true, true]) s (kret P Try.f9 (fun v _ _ => v = .bool true))) (kret P Try.f9 (fun v _ _ => v = .bool true)))) (j_rt0 ob xs st es clk) := by
  have hl : L.length = (keysOf st.th).length := by rw [hL]; exact List.length_mergeSort _
  obtain ⟨g1, g2⟩ := g.len
  rw [h0] at hl
  have e1 : es.length = 0 := by rw [g1, ← hl]; rfl
  have e2 : st.th.length = 0 := by rw [g2, ← hl]; rfl
  refine ALoop.stepg [(1, 1), (2, 2)] [3, 5, 8, 52, 53] 3 ?_
  refine (t_rt0 I (fun v _ _ => v = .bool true) (fun _ => True) _ ob xs st es clk).mpr ⟨by omega, bs_t (by rw [e1]; rfl) ⟨by omega, ?_⟩⟩
  show AV.bool ((st.th.length : Int) == (es.length : Int)) = .bool true
  rw [e1, e2]; rfl
variable (hI : I.R = pk.R)
include hI
theorem l_rises (l c : Nat) (q : Bool) (ob : Obj) (xs : List Rw) (hxs : xs.length = l) :
    ACall I P 9 [.slq 0 l c q] (Tr.ofList 0 [.out ob [.i .u8] xs] .leaf) (fun v _ => v = .bool true) := by
  refine ocall mix (gQ2 hI) (fn := Try.f9) (by kernel_rfl) (by kernel_rfl) (by kernel_rfl) [.out ob [.i .u8] xs] _ rfl rfl (fun hr ho => ?_)
  simp only [rgs, rg, Bool.and_eq_true, Nat.ble_eq] at hr
  obtain ⟨⟨hlc, hc⟩, _⟩ := hr
  refine (t_krises I (fun v _ _ => v = .bool true) l c q ob xs).mpr ⟨fun h => absurd h (by decide), fun _ s0 hs0 hok => ?_⟩
  refine ALoop.start [(1, 1), (2, 2)] [0, 3, 5, 6] 3 (j_rs l c q ob xs s0 [] 0 0) (by kernel_rfl) (by kernel_rfl) ?_
  refine ALoop.invj (ps := [(1, 1), (2, 2)]) (ts := [0, 3, 5, 6]) (nx := 3) (fun x : Bf × List (Rw × Nat) × Nat × Nat => j_rs l c q ob xs x.1 x.2.1 x.2.2.1 (x.2.2.2 : Nat)) (fun x => SG x.1 x.2.1 x.2.2.2) (fun x => 100 - x.2.2.2) ?_ (s0, [], 0, 0) (by subst hs0; exact ⟨⟨hok, rfl, rfl, Int.le_refl _, Int.le_refl _, by decide⟩, List.Perm.refl _, fun e he => (by cases he)⟩)
  rintro ⟨st, es, clk, i⟩ g
  replace g : SG st es i := g
  simp only
  have hd0 := g.r.d0
  have hd1 := g.r.d1
  have hil := g.r.il
  have fin : ∀ st' es' clk', SG st' es' (i + 1) → i < 100 → ∀ s0 : St O, s0 = j_rs l c q ob xs st' es' clk' ((i + 1 : Nat) : Int) → ∃ y : Bf × List (Rw × Nat) × Nat × Nat, SG y.1 y.2.1 y.2.2.2 ∧ 100 - y.2.2.2 < 100 - i ∧ s0 = j_rs l c q ob xs y.1 y.2.1 y.2.2.1 (y.2.2.2 : Nat) :=
    fun st' es' clk' h hi s0 h0 => ⟨(st', es', clk', i + 1), h, by show 100 - (i + 1) < 100 - i; omega, h0⟩
  refine (t_rsB I _ _ l c q ob xs st es clk (i : Nat)).mpr (bsplit_both (fun hx => bsplit_both (fun hy => ?_) (fun hy hok' L hL => ?_)) (fun hx hok' L hL => ?_))
  · have hx := of_decide_eq_true hx
    have hy := of_decide_eq_true hy
    have hi : i < 100 := by omega
    have hix : i < xs.length := by omega
    have e3 : IntKind.i64.wrap ((i : Int) + 1) = ((i + 1 : Nat) : Int) := by rw [w_id (by omega) (by omega)]; omega
    rw [e3]
    refine must_mk (decide_eq_true ⟨by omega, hx⟩) (xget_mk (v := xs[i]) (by rw [Int.toNat_natCast]; exact List.getElem?_eq_getElem hix) ?_)
    generalize IntKind.i64.wrap (IntKind.i64.wrap ((xs[i]).i 0) + 1) = k
    rw [g.has]
    refine bsplit_both (fun hk L1 s2 h1 h2 => ?_) (fun hk => ⟨⟨hd0, by omega⟩, fun e5 s6 h1 h2 => bsplit_both (fun h0 => ?_) (fun h0 => ?_)⟩)
    · rw [h2]
      exact ⟨fun _ => fin _ _ clk (g.take hi k) hi _ rfl, fun _ _ _ => fin _ _ clk (g.take hi k) hi _ rfl⟩
    · have h0 := eq_of_beq h0
      have hk := of_decide_eq_false hk
      rw [h2]
      exact fin _ _ _ (g.put hi (h1 ▸ h0) hk clk) hi _ rfl
    · have h0 := ne_of_beq_false h0
      rw [h2]
      exact fin _ _ clk (g.same hi (fun h => h0 (h1.trans h))) hi _ rfl
  · refine ⟨fun h0 => ?_, fun _ c2 rm => ?_⟩
    · refine ALoop.start [(1, 1), (2, 2)] [3, 5, 8, 52, 53] 3 (j_rt0 ob xs st es clk) (by kernel_rfl) (by kernel_rfl) (rise_nil g hL h0)
    · refine ALoop.start [(1, 1), (2, 2), (3, 3)] [3, 5, 8, 52, 53] 4 (j_rt ob xs st es clk L.length c2 (L.map rowI) rm 0) (by kernel_rfl) (by kernel_rfl) (rise_loop g hL c2 rm)
  · refine ⟨fun h0 => ?_, fun _ c2 rm => ?_⟩
    · refine ALoop.start [(1, 1), (2, 2)] [3, 5, 8, 52, 53] 3 (j_rt0 ob xs st es clk) (by kernel_rfl) (by kernel_rfl) (rise_nil g hL h0)
    · refine ALoop.start [(1, 1), (2, 2), (3, 3)] [3, 5, 8, 52, 53] 4 (j_rt ob xs st es clk L.length c2 (L.map rowI) rm 0) (by kernel_rfl) (by kernel_rfl) (rise_loop g hL c2 rm)
end Go.Tb.W
