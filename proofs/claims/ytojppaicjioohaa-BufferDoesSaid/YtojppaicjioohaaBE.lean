/- Buffers: each answer, and what lies there, are as the document says; law. -/
import Derived.Test.YtojppaicjioohaaBD
set_option linter.all false
set_option maxRecDepth 100000
set_option maxHeartbeats 0
namespace Go.Tb.W
open Go Go.Proofs
variable {I : Interp O}
theorem outR_eq (lo hi : Int) (ys : List Rw) (n : Nat) : outR lo hi (ys.take n) = ((thR ys n).filter (fun p => inI lo hi p.1)).map (·.2) := by
  unfold outR thR
  rw [List.filter_map, List.map_map]; rfl
theorem restR_th (lo hi : Int) (ys : List Rw) (n : Nat) : thR (restR lo hi (ys.take n)) (restR lo hi (ys.take n)).length = (thR ys n).filter (fun p => !inI lo hi p.1) := by
  unfold restR thR
  rw [List.take_of_length_le (Nat.le_refl _), List.map_map, List.filter_map]; rfl
theorem inI_self (i x : Int) : inI i i x = decide (x = i) := by
  unfold inI
  by_cases h : x = i
  · subst h; simp
  · rw [decide_eq_false h]
    by_cases h1 : i ≤ x
    · have : ¬ x ≤ i := by omega
      simp [h1, this]
    · simp [h1]
theorem take_out (ys : List Rw) (n : Nat) (k : Int) : outR k k (ys.take n) = lineOf (thR ys n) k := by
  rw [outR_eq]
  unfold lineOf
  congr 1
  exact List.filter_congr fun p hp => inI_self k p.1
theorem take_rest (ys : List Rw) (n : Nat) (k : Int) : thR (restR k k (ys.take n)) (restR k k (ys.take n)).length = (thR ys n).filter (fun p => !decide (p.1 = k)) := by
  rw [restR_th]
  exact List.filter_congr fun p hp => by rw [inI_self]
theorem inI_drop {b x : Int} (h : 1 ≤ x) : inI 1 (b - 1) x = decide (x < b) := by
  unfold inI
  rw [decide_eq_true h, Bool.true_and]
  exact decide_eq_decide.2 ⟨fun h => by omega, fun h => by omega⟩
theorem drop_out {ys : List Rw} {n : Nat} {b : Int} (h : ∀ p ∈ thR ys n, 1 ≤ p.1) : (outR 1 (b - 1) (ys.take n)).length = ((thR ys n).filter (fun p => decide (p.1 < b))).length := by
  rw [outR_eq, List.length_map]
  congr 1
  exact List.filter_congr fun p hp => inI_drop (h p hp)
theorem drop_rest {ys : List Rw} {n : Nat} {b : Int} (h : ∀ p ∈ thR ys n, 1 ≤ p.1) : thR (restR 1 (b - 1) (ys.take n)) (restR 1 (b - 1) (ys.take n)).length = (thR ys n).filter (fun p => !decide (p.1 < b)) := by
  rw [restR_th]
  exact List.filter_congr fun p hp => by rw [inI_drop (h p hp)]
theorem DG.put {st : Bf} {e s d : Int} {i : Nat} (g : DG st e s d i) (hi : i < 100) (k : Int) (t : ByteArray) : DG (putS st k t) e s (putS st k t).dropped (i + 1) := by
  have h := put_each st k t
  have h0 := g.d0
  have h1 := g.d1
  have h2 := g.hd
  have h3 := g.ln
  refine ⟨g.ok.put k t, h.1.trans g.he, h.2.trans g.hs, rfl, ?_, ?_, ?_, by omega⟩ <;>
    rcases put_cases st k t with ⟨_, e, _⟩ | ⟨_, e, _⟩ | ⟨_, e, _⟩ | ⟨_, e, _⟩ <;> rw [e] <;> (try simp only [List.length_append, List.length_cons, List.length_nil]) <;> omega
theorem DG.sub {st : Bf} {e s d : Int} {i : Nat} (g : DG st e s d i) (hi : i < 100) {th' : Th} (hs : th'.Sublist st.th) : DG { st with th := th' } e s d (i + 1) := by
  have h1 := g.d1
  have h3 := g.ln
  have := hs.length_le
  exact ⟨g.ok.sub hs, g.he, g.hs, g.hd, g.d0, by omega, by show th'.length ≤ i + 1; omega, by omega⟩
theorem DG.same {st : Bf} {e s d : Int} {i : Nat} (g : DG st e s d i) (hi : i < 100) : DG st e s d (i + 1) := g.sub hi (List.Sublist.refl _)
theorem DG.eta {st : Bf} {e s d : Int} {i : Nat} (g : DG st e s d i) {th : Th} (h : st.th = th) : (⟨e, s, th, d⟩ : Bf) = st := by
  obtain ⟨e', s', th', d'⟩ := st
  have h1 := g.he; have h2 := g.hs; have h3 := g.hd
  simp only at h1 h2 h3 h
  subst h1; subst h2; subst h3; subst h; rfl
theorem put0 {st : Bf} {k : Int} {t : ByteArray} (h : putC st k t = 0) : putS st k t = { st with th := st.th ++ [(k, t)] } := by unfold putS; rw [if_pos h]
theorem put1 {st : Bf} {k : Int} {t : ByteArray} (h : putC st k t ≠ 0) : (putS st k t).th = st.th := by unfold putS; rw [if_neg h]; split <;> rfl
abbrev Dα : Type := Bf × Int × Nat × Option (Nat × Nat × List Rw × Nat)
noncomputable abbrev Dj (l c : Nat) (q : Bool) (ob : Obj) (xs : List Rw) (e s : Int) (x : Dα) : St O := match x.2.2.2 with
  | none => j_dA l c q ob xs x.1 e s x.2.1 (x.2.2.1 : Nat)
  | some y => j_dB l c q ob xs x.1 e s x.2.1 y.1 y.2.1 y.2.2.1 y.2.2.2 (x.2.2.1 : Nat)
def Dg (e s : Int) (x : Dα) : Prop := DG x.1 e s x.2.1 x.2.2.1 ∧ match x.2.2.2 with
  | none => x.1.th = []
  | some y => x.1.th = thR y.2.2.1 y.1 ∧ y.1 ≤ y.2.2.1.length
variable (hI : I.R = pk.R)
include hI
theorem l_does (each slots : Int) (l c : Nat) (q : Bool) (ob : Obj) (xs : List Rw) (hxs : xs.length = l) :
    ACall I P 3 [.int .i64 each, .int .i64 slots, .slq 0 l c q] (Tr.ofList 0 [.out ob aS3 xs] .leaf) (fun v _ => v = .bool true) := by
  refine ocall mix (gQ3 hI) (fn := Try.f3) (by kernel_rfl) (by kernel_rfl) (by kernel_rfl) [.out ob aS3 xs] _ rfl rfl (fun hr ho => ?_)
  simp only [rgs, rg, Bool.and_eq_true, Nat.ble_eq] at hr
  obtain ⟨_, _, ⟨hlc, hc⟩, _⟩ := hr
  refine (t_ldoes I (fun v _ _ => v = .bool true) each slots l c q ob xs).mpr ⟨fun hb => ⟨fun _ => ?_, fun h => (by rw [hb] at h; cases h)⟩, fun hb s0 hs0 hok => ⟨fun h => (by rw [hb] at h; cases h), fun _ => ?_⟩⟩
  · refine ALoop.start [] [2, 7, 9, 11] 1 (j_d0 l c q ob xs) (by kernel_rfl) (by kernel_rfl) ?_
    exact ALoop.stepg [] [2, 7, 9, 11] 1 ((t_ld0 I _ _ l c q ob xs).mpr (bsplit_both (fun _ => rfl) (fun _ => rfl)))
  refine ALoop.start [(1, 1), (2, 2)] [2, 7, 9, 11] 4 (j_dA l c q ob xs s0 each slots 0 0) (by kernel_rfl) (by kernel_rfl) ?_
  refine ALoop.invjL (pss := [[(1, 1), (2, 2)], [(1, 1), (2, 2), (3, 3)], [(1, 1), (2, 2), (4, 3)], [(1, 1), (2, 2), (5, 3)], [(1, 1), (2, 2), (6, 3)], [(1, 1), (2, 2), (7, 3)], [(1, 1), (2, 2), (8, 3)], [(1, 1), (2, 2), (9, 3)], [(1, 1), (2, 2), (10, 3)], [(1, 1), (2, 2), (11, 3)], [(1, 1), (2, 2), (12, 3)]]) (ts := [2, 7, 9, 11]) (nx := 4) (Dj l c q ob xs each slots) (Dg each slots) (fun x => 100 - x.2.2.1) ?_ (s0, 0, 0, none) (by subst hs0; exact ⟨⟨hok, rfl, rfl, rfl, Int.le_refl _, Int.le_refl _, Nat.le_refl _, Nat.zero_le _⟩, rfl⟩)
  rintro ⟨st, d, i, o⟩ ⟨g, hk⟩
  replace g : DG st each slots d i := g
  have hd0 := g.d0
  have hd1 := g.d1
  have hil := g.il
  have hln := g.ln
  have hhd := g.hd
  have hsl := g.ok.r1
  rw [g.hs] at hsl
  have hks := g.ok.ks
  rw [g.hs] at hks
  have finA : ∀ st' d', DG st' each slots d' (i + 1) → st'.th = [] → i < 100 → ∃ y, Dg each slots y ∧ 100 - y.2.2.1 < 100 - i ∧ j_dA l c q ob xs st' each slots d' ((i + 1 : Nat) : Int) = Dj l c q ob xs each slots y :=
    fun st' d' h h0 hi => ⟨(st', d', i + 1, none), ⟨h, h0⟩, by show 100 - (i + 1) < 100 - i; omega, rfl⟩
  have finB : ∀ st' d' n' g' ys' rm', DG st' each slots d' (i + 1) → st'.th = thR ys' n' → n' ≤ ys'.length → i < 100 → ∃ y, Dg each slots y ∧ 100 - y.2.2.1 < 100 - i ∧ j_dB l c q ob xs st' each slots d' n' g' ys' rm' ((i + 1 : Nat) : Int) = Dj l c q ob xs each slots y :=
    fun st' d' n' g' ys' rm' h h0 h1 hi => ⟨(st', d', i + 1, some (n', g', ys', rm')), ⟨h, h0, h1⟩, by show 100 - (i + 1) < 100 - i; omega, rfl⟩
  cases o with
  | none =>
    have hA : st.th = [] := hk
    clear hk
    have eta := g.eta hA
    refine (t_ldA I _ _ l c q ob xs st each slots d (i : Nat)).mpr (bsplit_both (fun hx => bsplit_both (fun hy => ?_) (fun hy => rfl)) (fun hx => rfl))
    have hx : (i : Int) < (l : Int) := of_decide_eq_true hx
    have hy : (i : Int) < 100 := of_decide_eq_true hy
    have hi : i < 100 := by omega
    have hix : i < xs.length := by omega
    refine must_mk (decide_eq_true ⟨by omega, hx⟩) (xget_mk (v := xs[i]) (by rw [Int.toNat_natCast]; exact List.getElem?_eq_getElem hix) (bsplit_both (fun _ => rfl) (fun _ => ?_)))
    refine bsplit_both (fun _ => ?_) (fun _ => bsplit_both (fun _ => ?_) (fun _ => bsplit_both (fun _ => ?_) (fun _ => ?_)))
    · refine ⟨⟨by omega, by omega⟩, fun e1 s2 h1 h2 => ⟨rfl, rfl, ⟨⟨by omega, by omega⟩, by omega⟩, fun rc rs h3 h4 => ⟨fun h0 c5 r6 => ?_, fun h0 => ?_⟩⟩⟩
      · rw [eta, ← h1] at h3
        have hz : e1 = 0 := by omega
        refine bs_f (by simp [hz]) ?_
        have g' := g.put hi ((xs[i]).i (0 + 1)) ((xs[i]).s (0 + 1 + 1))
        have e0 := put0 (h1 ▸ hz : putC st ((xs[i]).i (0 + 1)) ((xs[i]).s (0 + 1 + 1)) = 0)
        rw [← h2] at g' e0
        have hd' : s2.dropped = d := by rw [e0]; exact hhd
        rw [hd'] at g'
        have ht : s2.th = thR [mkT ((xs[i]).i (0 + 1)) ((xs[i]).s (0 + 1 + 1))] 1 := by rw [e0]; show st.th ++ _ = _; rw [hA]; rfl
        exact ASeq.start [(1, 1), (2, 2), (4, 3), (5, 4)] [2, 7, 9, 11, 12] 5 (j_cB l c q ob xs s2 each slots d 1 c5 [mkT ((xs[i]).i (0 + 1)) ((xs[i]).s (0 + 1 + 1))] r6 ((xs[i]).i 0) ((xs[i]).i 1) ((xs[i]).s 2) (i : Nat)) (by kernel_rfl) (by kernel_rfl) (does_cutB g' ht (by simp) (finB s2 d 1 c5 _ r6 g' ht (by simp) hi))
      · rw [eta, ← h1] at h3
        rw [eta, ← h2] at h4
        subst h4
        refine bs_f (by simp [h3]) ?_
        have g' := g.put hi ((xs[i]).i (0 + 1)) ((xs[i]).s (0 + 1 + 1))
        have ht := put1 (fun h => h0 (h3.trans (h1.trans h)) : putC st ((xs[i]).i (0 + 1)) ((xs[i]).s (0 + 1 + 1)) ≠ 0)
        rw [← h2] at g' ht
        rw [hA] at ht
        exact ASeq.start [(1, 1), (2, 2), (4, 3)] [2, 7, 9, 11, 12] 5 (j_cA l c q ob xs rs each slots rs.dropped ((xs[i]).i 0) ((xs[i]).i 1) ((xs[i]).s 2) (i : Nat)) (by kernel_rfl) (by kernel_rfl) (does_cutA g' ht (finA rs rs.dropped g' ht hi))
    · intro L7 s8 h1 h2
      have hL : L7 = [] := by rw [h1, hA]; rfl
      have g' : DG s8 each slots d (i + 1) := by rw [h2]; exact g.sub hi (List.filter_sublist ..)
      have ht : s8.th = thR ([] : List Rw) 0 := by rw [h2]; show st.th.filter _ = _; rw [hA]; rfl
      refine ⟨fun _ => ⟨rfl, fun c9 r10 c11 r12 => ⟨rfl, ?_⟩⟩, fun h => by rw [hL] at h; simp at h⟩
      exact ASeq.start [(1, 1), (2, 2), (4, 3), (6, 4)] [2, 7, 9, 11, 12] 5 (j_cB l c q ob xs s8 each slots d 0 c11 [] r12 ((xs[i]).i 0) ((xs[i]).i 1) ((xs[i]).s 2) (i : Nat)) (by kernel_rfl) (by kernel_rfl) (does_cutB g' ht (by simp) (finB s8 d 0 c11 _ r12 g' ht (by simp) hi))
    · intro e19 s20 h1 h2
      have g' : DG s20 each slots d (i + 1) := by rw [h2]; exact g.sub hi (List.filter_sublist ..)
      have he : e19 = 0 := by rw [h1]; unfold dropN; rw [hA]; rfl
      have ht : s20.th = [] := by rw [h2]; show st.th.filter _ = _; rw [hA]; rfl
      refine ⟨rfl, fun _ => bs_f (by simp [he]) ?_, fun _ c21 r22 => bs_f (by simp [he]) ?_⟩
      · exact ASeq.start [(1, 1), (2, 2), (4, 3)] [2, 7, 9, 11, 12] 5 (j_cA l c q ob xs s20 each slots d ((xs[i]).i 0) ((xs[i]).i 1) ((xs[i]).s 2) (i : Nat)) (by kernel_rfl) (by kernel_rfl) (does_cutA g' ht (finA s20 d g' ht hi))
      · exact ASeq.start [(1, 1), (2, 2), (4, 3), (5, 4)] [2, 7, 9, 11, 12] 5 (j_cB l c q ob xs s20 each slots d 0 c21 [] r22 ((xs[i]).i 0) ((xs[i]).i 1) ((xs[i]).s 2) (i : Nat)) (by kernel_rfl) (by kernel_rfl) (does_cutB g' ht (by simp) (finB s20 d 0 c21 _ r22 g' ht (by simp) hi))
    · have g' := g.same hi
      exact ASeq.start [(1, 1), (2, 2), (4, 3)] [2, 7, 9, 11, 12] 5 (j_cA l c q ob xs st each slots d ((xs[i]).i 0) ((xs[i]).i 1) ((xs[i]).s 2) (i : Nat)) (by kernel_rfl) (by kernel_rfl) (does_cutA g' hA (finA st d g' hA hi))
  | some y =>
    obtain ⟨n, gg, ys, rm⟩ := y
    obtain ⟨hB, hn⟩ : st.th = thR ys n ∧ n ≤ ys.length := hk
    have eta := g.eta hB
    have hth : st.th.length = n := by rw [hB]; exact thR_len hn
    have hn2 : n ≤ ys.length ∧ n ≤ 1000 := ⟨hn, by omega⟩
    have hps : ∀ p ∈ thR ys n, 1 ≤ p.1 := fun p hp => g.ok.ps p (by rw [hB]; exact hp)
    rw [hB] at hks
    refine (t_ldB I _ _ l c q ob xs st each slots d n gg ys rm (i : Nat)).mpr (bsplit_both (fun hx => bsplit_both (fun hy => ?_) (fun hy => rfl)) (fun hx => rfl))
    have hx : (i : Int) < (l : Int) := of_decide_eq_true hx
    have hy : (i : Int) < 100 := of_decide_eq_true hy
    have hi : i < 100 := by omega
    have hix : i < xs.length := by omega
    refine must_mk (decide_eq_true ⟨by omega, hx⟩) (xget_mk (v := xs[i]) (by rw [Int.toNat_natCast]; exact List.getElem?_eq_getElem hix) (bsplit_both (fun _ => rfl) (fun _ => ?_)))
    refine bsplit_both (fun _ => ?_) (fun _ => bsplit_both (fun _ => ?_) (fun _ => bsplit_both (fun _ => ?_) (fun _ => ?_)))
    · refine ⟨⟨by omega, by omega⟩, fun e1 s2 h1 h2 => ⟨rfl, rfl, hn2, ⟨⟨by omega, by omega⟩, hks⟩, fun rc rs h3 h4 => ⟨fun h0 c5 r6 => ?_, fun h0 => ?_⟩⟩⟩
      · rw [eta, ← h1] at h3
        have hz : e1 = 0 := by omega
        refine bs_f (by simp [hz]) ?_
        have g' := g.put hi ((xs[i]).i (0 + 1)) ((xs[i]).s (0 + 1 + 1))
        have e0 := put0 (h1 ▸ hz : putC st ((xs[i]).i (0 + 1)) ((xs[i]).s (0 + 1 + 1)) = 0)
        rw [← h2] at g' e0
        have hd' : s2.dropped = d := by rw [e0]; exact hhd
        rw [hd'] at g'
        have hlen : (ys.take n ++ [mkT ((xs[i]).i (0 + 1)) ((xs[i]).s (0 + 1 + 1))]).length = n + 1 := by simp; omega
        have ht : s2.th = thR (ys.take n ++ [mkT ((xs[i]).i (0 + 1)) ((xs[i]).s (0 + 1 + 1))]) (n + 1) := by
          rw [e0]; show st.th ++ _ = _
          rw [hB]
          unfold thR
          rw [List.take_of_length_le (l := ys.take n ++ [mkT ((xs[i]).i (0 + 1)) ((xs[i]).s (0 + 1 + 1))]) (by omega), List.map_append]; rfl
        exact ASeq.start [(1, 1), (2, 2), (4, 3), (5, 4)] [2, 7, 9, 11, 12] 5 (j_cB l c q ob xs s2 each slots d (n + 1) c5 (ys.take n ++ [mkT ((xs[i]).i (0 + 1)) ((xs[i]).s (0 + 1 + 1))]) r6 ((xs[i]).i 0) ((xs[i]).i 1) ((xs[i]).s 2) (i : Nat)) (by kernel_rfl) (by kernel_rfl) (does_cutB g' ht (by omega) (finB s2 d (n + 1) c5 _ r6 g' ht (by omega) hi))
      · rw [eta, ← h1] at h3
        rw [eta, ← h2] at h4
        subst h4
        refine bs_f (by simp [h3]) ?_
        have g' := g.put hi ((xs[i]).i (0 + 1)) ((xs[i]).s (0 + 1 + 1))
        have ht := put1 (fun h => h0 (h3.trans (h1.trans h)) : putC st ((xs[i]).i (0 + 1)) ((xs[i]).s (0 + 1 + 1)) ≠ 0)
        rw [← h2] at g' ht
        rw [hB] at ht
        exact ASeq.start [(1, 1), (2, 2), (4, 3), (3, 4)] [2, 7, 9, 11, 12] 5 (j_cB l c q ob xs rs each slots rs.dropped n gg ys rm ((xs[i]).i 0) ((xs[i]).i 1) ((xs[i]).s 2) (i : Nat)) (by kernel_rfl) (by kernel_rfl) (does_cutB g' ht hn (finB rs rs.dropped n gg ys rm g' ht hn hi))
    · intro L7 s8 h1 h2
      have g' : DG s8 each slots d (i + 1) := by rw [h2]; exact g.sub hi (List.filter_sublist ..)
      have key : ∀ (T : List ByteArray) (zs : List Rw), T = outR ((xs[i]).i (0 + 1)) ((xs[i]).i (0 + 1)) (ys.take n) → zs = restR ((xs[i]).i (0 + 1)) ((xs[i]).i (0 + 1)) (ys.take n) → T = L7 ∧ s8.th = thR zs zs.length := fun T zs hT hz => by
        refine ⟨by rw [hT, take_out, h1, hB], ?_⟩
        rw [hz, take_rest, h2, ← hB]; rfl
      refine ⟨fun h0 => ⟨rfl, hn2, fun T zs hT hz c1 r1 c2 r2 => ?_⟩, fun h0 cc rr => ⟨rfl, hn2, fun T zs hT hz c1 r1 c2 r2 => ?_⟩⟩
      · obtain ⟨k1, k2⟩ := key T zs hT hz
        refine ⟨by rw [k1, h0]; rfl, ?_⟩
        exact ASeq.start [(1, 1), (2, 2), (4, 3), (6, 4)] [2, 7, 9, 11, 12] 5 (j_cB l c q ob xs s8 each slots d zs.length c2 zs r2 ((xs[i]).i 0) ((xs[i]).i 1) ((xs[i]).s 2) (i : Nat)) (by kernel_rfl) (by kernel_rfl) (does_cutB g' k2 (Nat.le_refl _) (finB s8 d _ c2 _ r2 g' k2 (Nat.le_refl _) hi))
      · obtain ⟨k1, k2⟩ := key T zs hT hz
        refine ⟨⟨by simp, by simp, by rw [k1]⟩, ?_⟩
        exact ASeq.start [(1, 1), (2, 2), (4, 3), (7, 4)] [2, 7, 9, 11, 12] 5 (j_cB l c q ob xs s8 each slots d zs.length c2 zs r2 ((xs[i]).i 0) ((xs[i]).i 1) ((xs[i]).s 2) (i : Nat)) (by kernel_rfl) (by kernel_rfl) (does_cutB g' k2 (Nat.le_refl _) (finB s8 d _ c2 _ r2 g' k2 (Nat.le_refl _) hi))
    · intro e23 s24 h1 h2
      have g' : DG s24 each slots d (i + 1) := by rw [h2]; exact g.sub hi (List.filter_sublist ..)
      refine ⟨rfl, hn2, fun hb1 => ?_, fun hb1 T zs hT hz c2 r2 => ?_⟩
      · obtain ⟨q1, q2⟩ := drop_all (s := st) (b := (xs[i]).i (0 + 1)) (fun p hp => by have := g.ok.ps p hp; omega)
        rw [q2] at h1
        rw [q1] at h2
        subst h2
        refine bs_f (by simp [h1]) ?_
        exact ASeq.start [(1, 1), (2, 2), (4, 3), (3, 4)] [2, 7, 9, 11, 12] 5 (j_cB l c q ob xs s24 each slots d n gg ys rm ((xs[i]).i 0) ((xs[i]).i 1) ((xs[i]).s 2) (i : Nat)) (by kernel_rfl) (by kernel_rfl) (does_cutB g' hB hn (finB s24 d n gg ys rm g' hB hn hi))
      · have k1 : (e23 : Int) = (T.length : Nat) := by rw [h1, hT, drop_out hps, ← hB]; rfl
        have k2 : s24.th = thR zs zs.length := by rw [hz, drop_rest hps, h2, ← hB]; rfl
        refine bs_f (by rw [k1]; simp) ?_
        exact ASeq.start [(1, 1), (2, 2), (4, 3), (5, 4)] [2, 7, 9, 11, 12] 5 (j_cB l c q ob xs s24 each slots d zs.length c2 zs r2 ((xs[i]).i 0) ((xs[i]).i 1) ((xs[i]).s 2) (i : Nat)) (by kernel_rfl) (by kernel_rfl) (does_cutB g' k2 (Nat.le_refl _) (finB s24 d _ c2 _ r2 g' k2 (Nat.le_refl _) hi))
    · have g' := g.same hi
      exact ASeq.start [(1, 1), (2, 2), (4, 3), (3, 4)] [2, 7, 9, 11, 12] 5 (j_cB l c q ob xs st each slots d n gg ys rm ((xs[i]).i 0) ((xs[i]).i 1) ((xs[i]).s 2) (i : Nat)) (by kernel_rfl) (by kernel_rfl) (does_cutB g' hB hn (finB st d n gg ys rm g' hB hn hi))
end Go.Tb.W
