/- Claims: what is agreed on, proved. -/
import Derived.Test.YtnljoapmieepeaaKE
set_option linter.all false
set_option maxRecDepth 100000
set_option maxHeartbeats 4000000
namespace Go.Tb.W
open Go Go.Proofs
variable {I : Interp O}
theorem k_agreeC : ∀ (args : List AV) (hp : Tr (AO O)) (nx : Nat) (K : AV → Tr (AO O) → Nat → Prop), c_agreeC args hp nx K → ACall I P 10 args hp (fun v hp' => ∃ nx', K v hp' nx') := by
  intro args hp nx K h
  unfold c_agreeC at h; split at h
  · rename_i v
    rcases slC_spec h with ⟨rfl, h6, hk⟩ | ⟨n, l, c, rfl, hb, ⟨xs, room, hg, hl, h6, hk⟩ | ⟨ob, xs, hg, hl, h6, hk⟩⟩
    · refine hcallG mix gA6 (fn := Try.f10) (by kernel_rfl) (by kernel_rfl) (by kernel_rfl) [] [] [.nils] rfl rfl rfl trivial rfl rfl (fun hr ho => (t_agreeN I _).mpr ⟨(okM_of (xs := []) (fun x h => (by cases h)) (by decide)).1, fun _ => ?_, fun h => absurd rfl h⟩)
      refine ALoop.start [(0, 0)] [2, 3, 4, 6, 7, 8, 21, 22, 23] 1 (j_agN [] 0) (by kernel_rfl) (by kernel_rfl) ?_
      refine ALoop.stepg [(0, 0)] [2, 3, 4, 6, 7, 8, 21, 22, 23] 1 ?_
      exact (t_agN I _ _ [] 0).mpr ⟨by decide, ⟨[], nx, rfl, trivial, rfl, rfl, hk⟩⟩
    · refine hcallG mix gA6 (fn := Try.f10) (by kernel_rfl) (by kernel_rfl) (by kernel_rfl) [n] [cO xs room] [.sl 0 0 l c] rfl (uniq1 hb) rfl ⟨hg, trivial⟩ rfl rfl (fun hr ho => (t_agreeR I _ l c room xs).mpr ⟨hl, ?_⟩)
      have hlc := rg_lc hr
      have hlen : (xs.take l).length = l := by simp; omega
      generalize hys : xs.take l = ys at hk h6 hlen
      have out : ∀ lo hi vo e, agLo ys = lo → agHi ys = hi → agVo ys = vo → agE ys = e → K (.tup [.int .i64 lo, .int .i64 hi, .int .i64 vo, .int .i64 e]) (hp.set n (some (cO xs room))) nx := fun lo hi vo e h1 h2 h3 h4 => by
        subst h1; subst h2; subst h3; subst h4
        exact hk
      have outE : ∀ e, e ≠ 0 → agE ys = e → K (.tup [.int .i64 0, .int .i64 0, .int .i64 0, .int .i64 e]) (hp.set n (some (cO xs room))) nx := fun e h0 he => out 0 0 0 e (by unfold agLo; rw [if_neg (by rw [he]; exact h0)]) (by unfold agHi; rw [if_neg (by rw [he]; exact h0)]) (by unfold agVo; rw [if_neg (by rw [he]; exact h0)]) he
      refine bsplit_both (fun a1 => ⟨[], nx, uniq1 hb, trivial, rfl, rfl, outE 1 (by decide) ?_⟩) (fun a1 => bsplit_both (fun a2 => absurd (of_decide_eq_true a2) (by omega)) (fun a2 => ⟨hl, ?_⟩))
      · unfold agE; rw [if_pos (of_decide_eq_true a1)]
      · have a1 := of_decide_eq_false a1
        obtain ⟨ok, hel⟩ := okM_of (bad_neg a1) h6
        have hE : agE ys = if 2 * (agM ys).vo ≤ ((lastF ys).1.length : Int) then 10 else 0 := by unfold agE; rw [if_neg a1, if_neg (by omega)]
        have hM : agM ys = agF (edgeF (lastF ys).1) := rfl
        generalize lastF ys = q at ok hel hE hM
        obtain ⟨es, clk⟩ := q
        simp only at ok hel hE hM ⊢
        refine ⟨ok, fun hes => ?_, fun hes d r2 => ?_⟩
        · refine ALoop.start [(1, 1)] [2, 3, 4, 6, 7, 8, 21, 22, 23] 2 (j_agQ (cO xs room) es clk) (by kernel_rfl) (by kernel_rfl) ?_
          refine ALoop.stepg [(1, 1)] [2, 3, 4, 6, 7, 8, 21, 22, 23] 2 ?_
          refine (t_agQ I _ _ xs room es clk).mpr ⟨by omega, ⟨[], nx, uniq1 hb, trivial, rfl, rfl, outE 10 (by decide) ?_⟩⟩
          rw [hE, hM, hes]; rfl
        · obtain ⟨b1, b2⟩ := edge_bd ok.ln ok.bd
          generalize edgeF es = L at b1 b2 hM
          have ab := ag_bd (L := L) (fun p hp => (b2 p hp).1)
          refine ALoop.invg (ps := [(1, 1), (2, 2)]) (ts := [2, 3, 4, 6, 7, 8, 21, 22, 23]) (nx := 3) (fun i : Nat => j_agR (cO xs room) es clk (agF (L.take i)).lo (agF (L.take i)).hi (agF (L.take i)).vo (agF (L.take i)).nw (agF (L.take i)).op L.length d (L.map edg) r2 (i : Nat)) (fun i => i ≤ L.length) (fun i => L.length - i) ?_ (by kernel_rfl) 0 (by kernel_rfl) (Nat.zero_le _)
          intro i hi
          have hb2 := ab i hi
          have hst : ∀ hi2 : i < L.length, agF (L.take (i + 1)) = agS (agF (L.take i)) L[i] := fun hi2 => ag_take hi2
          have hfin : i = L.length → agF (L.take i) = agM ys := fun e => by rw [e, List.take_length, hM]
          generalize agF (L.take i) = s at hb2 hst hfin
          have n1 := hb2.n; have n2 := hb2.v
          refine (t_agR I _ _ l c room xs es clk s.lo s.hi s.vo s.nw s.op L.length d (L.map edg) r2 (i : Nat)).mpr (bsplit_both (fun hx => ?_) (fun hx => ?_))
          · have hx := of_decide_eq_true hx
            have hi2 : i < L.length := by omega
            have hst := hst hi2
            have hpb := b2 _ (List.getElem_mem hi2)
            have hget : (L.map edg)[((i : Nat) : Int).toNat]? = some (edg L[i]) := by rw [Int.toNat_natCast]; exact edg_get hi2
            refine must_mk (decide_eq_true ⟨by omega, hx⟩) (xget_mk hget ?_)
            generalize L[i] = p at hst hpb
            have w1 : IntKind.i64.wrap (s.nw + (edg p).i (0 + 1)) = s.nw + p.2 := w_id (by show _ ≤ s.nw + p.2; omega) (by show s.nw + p.2 ≤ _; omega)
            have w2 : IntKind.i64.wrap ((edg p).i 0 - 1) = p.1 - 1 := w_id (by show _ ≤ p.1 - 1; omega) (by show p.1 - 1 ≤ _; omega)
            have w3 : IntKind.i64.wrap ((i : Int) + 1) = ((i + 1 : Nat) : Int) := by rw [w_id (by omega) (by omega)]; omega
            rw [w1, w2, w3]
            have fin : ∀ s0 : St O, s0 = j_agR (cO xs room) es clk (agF (L.take (i + 1))).lo (agF (L.take (i + 1))).hi (agF (L.take (i + 1))).vo (agF (L.take (i + 1))).nw (agF (L.take (i + 1))).op L.length d (L.map edg) r2 ((i + 1 : Nat) : Int) → ∃ y : Nat, y ≤ L.length ∧ L.length - y < L.length - i ∧ s0 = j_agR (cO xs room) es clk (agF (L.take y)).lo (agF (L.take y)).hi (agF (L.take y)).vo (agF (L.take y)).nw (agF (L.take y)).op L.length d (L.map edg) r2 (y : Nat) := fun s0 h0 => ⟨i + 1, by omega, by omega, h0⟩
            rw [hst] at fin
            have e2 : (edg p).i (0 + 1) = p.2 := rfl
            rcases agS_cases s p with ⟨h1, e⟩ | ⟨h1, h2, e⟩ | ⟨h1, h2, h3, e⟩ | ⟨h1, h2, h3, e⟩ <;> rw [e] at fin
            · exact bs_t (by rw [e2, h1]; rfl) (fin _ rfl)
            · exact bs_f (by rw [e2]; simp [h1]) (bs_t (decide_eq_true h2) (fin _ rfl))
            · exact bs_f (by rw [e2]; simp [h1]) (bs_f (decide_eq_false h2) (bs_t h3 (fin _ rfl)))
            · exact bs_f (by rw [e2]; simp [h1]) (bs_f (decide_eq_false h2) (bs_f h3 (fin _ (by rw [h3]; rfl))))
          · have hx := of_decide_eq_false hx
            have hs := hfin (by omega)
            rw [hs] at n1 n2 ⊢
            rw [w_id (n := 2 * (agM ys).vo) (by omega) (by omega)]
            refine ⟨by omega, bsplit_both (fun hz => ⟨[], nx, uniq1 hb, trivial, rfl, rfl, outE 10 (by decide) ?_⟩) (fun hz => ?_)⟩
            · rw [hE, if_pos (of_decide_eq_true hz)]
            · have h0 : agE ys = 0 := by rw [hE, if_neg (of_decide_eq_false hz)]
              exact ⟨[], nx, uniq1 hb, trivial, rfl, rfl, out _ _ _ 0 (by unfold agLo; rw [if_pos h0]) (by unfold agHi; rw [if_pos h0]) (by unfold agVo; rw [if_pos h0]) h0⟩
    · refine hcallG mix gA6 (fn := Try.f10) (by kernel_rfl) (by kernel_rfl) (by kernel_rfl) [n] [oO ob xs] [.sl 0 0 l c] rfl (uniq1 hb) rfl ⟨hg, trivial⟩ rfl rfl (fun hr ho => (t_agreeO I _ l c ob xs).mpr ⟨hl, ?_⟩)
      have hlc := rg_lc hr
      have hlen : (xs.take l).length = l := by simp; omega
      generalize hys : xs.take l = ys at hk h6 hlen
      have out : ∀ lo hi vo e, agLo ys = lo → agHi ys = hi → agVo ys = vo → agE ys = e → K (.tup [.int .i64 lo, .int .i64 hi, .int .i64 vo, .int .i64 e]) (hp.set n (some (oO ob xs))) nx := fun lo hi vo e h1 h2 h3 h4 => by
        subst h1; subst h2; subst h3; subst h4
        exact hk
      have outE : ∀ e, e ≠ 0 → agE ys = e → K (.tup [.int .i64 0, .int .i64 0, .int .i64 0, .int .i64 e]) (hp.set n (some (oO ob xs))) nx := fun e h0 he => out 0 0 0 e (by unfold agLo; rw [if_neg (by rw [he]; exact h0)]) (by unfold agHi; rw [if_neg (by rw [he]; exact h0)]) (by unfold agVo; rw [if_neg (by rw [he]; exact h0)]) he
      refine bsplit_both (fun a1 => ⟨[], nx, uniq1 hb, trivial, rfl, rfl, outE 1 (by decide) ?_⟩) (fun a1 => bsplit_both (fun a2 => absurd (of_decide_eq_true a2) (by omega)) (fun a2 => ⟨hl, ?_⟩))
      · unfold agE; rw [if_pos (of_decide_eq_true a1)]
      · have a1 := of_decide_eq_false a1
        obtain ⟨ok, hel⟩ := okM_of (bad_neg a1) h6
        have hE : agE ys = if 2 * (agM ys).vo ≤ ((lastF ys).1.length : Int) then 10 else 0 := by unfold agE; rw [if_neg a1, if_neg (by omega)]
        have hM : agM ys = agF (edgeF (lastF ys).1) := rfl
        generalize lastF ys = q at ok hel hE hM
        obtain ⟨es, clk⟩ := q
        simp only at ok hel hE hM ⊢
        refine ⟨ok, fun hes => ?_, fun hes d r2 => ?_⟩
        · refine ALoop.start [(1, 1)] [2, 3, 4, 6, 7, 8, 21, 22, 23] 2 (j_agQ (oO ob xs) es clk) (by kernel_rfl) (by kernel_rfl) ?_
          refine ALoop.stepg [(1, 1)] [2, 3, 4, 6, 7, 8, 21, 22, 23] 2 ?_
          refine (t_agP I _ _ ob xs es clk).mpr ⟨by omega, ⟨[], nx, uniq1 hb, trivial, rfl, rfl, outE 10 (by decide) ?_⟩⟩
          rw [hE, hM, hes]; rfl
        · obtain ⟨b1, b2⟩ := edge_bd ok.ln ok.bd
          generalize edgeF es = L at b1 b2 hM
          have ab := ag_bd (L := L) (fun p hp => (b2 p hp).1)
          refine ALoop.invg (ps := [(1, 1), (2, 2)]) (ts := [2, 3, 4, 6, 7, 8, 21, 22, 23]) (nx := 3) (fun i : Nat => j_agR (oO ob xs) es clk (agF (L.take i)).lo (agF (L.take i)).hi (agF (L.take i)).vo (agF (L.take i)).nw (agF (L.take i)).op L.length d (L.map edg) r2 (i : Nat)) (fun i => i ≤ L.length) (fun i => L.length - i) ?_ (by kernel_rfl) 0 (by kernel_rfl) (Nat.zero_le _)
          intro i hi
          have hb2 := ab i hi
          have hst : ∀ hi2 : i < L.length, agF (L.take (i + 1)) = agS (agF (L.take i)) L[i] := fun hi2 => ag_take hi2
          have hfin : i = L.length → agF (L.take i) = agM ys := fun e => by rw [e, List.take_length, hM]
          generalize agF (L.take i) = s at hb2 hst hfin
          have n1 := hb2.n; have n2 := hb2.v
          refine (t_agO I _ _ ob xs es clk s.lo s.hi s.vo s.nw s.op L.length d (L.map edg) r2 (i : Nat)).mpr (bsplit_both (fun hx => ?_) (fun hx => ?_))
          · have hx := of_decide_eq_true hx
            have hi2 : i < L.length := by omega
            have hst := hst hi2
            have hpb := b2 _ (List.getElem_mem hi2)
            have hget : (L.map edg)[((i : Nat) : Int).toNat]? = some (edg L[i]) := by rw [Int.toNat_natCast]; exact edg_get hi2
            refine must_mk (decide_eq_true ⟨by omega, hx⟩) (xget_mk hget ?_)
            generalize L[i] = p at hst hpb
            have w1 : IntKind.i64.wrap (s.nw + (edg p).i (0 + 1)) = s.nw + p.2 := w_id (by show _ ≤ s.nw + p.2; omega) (by show s.nw + p.2 ≤ _; omega)
            have w2 : IntKind.i64.wrap ((edg p).i 0 - 1) = p.1 - 1 := w_id (by show _ ≤ p.1 - 1; omega) (by show p.1 - 1 ≤ _; omega)
            have w3 : IntKind.i64.wrap ((i : Int) + 1) = ((i + 1 : Nat) : Int) := by rw [w_id (by omega) (by omega)]; omega
            rw [w1, w2, w3]
            have fin : ∀ s0 : St O, s0 = j_agR (oO ob xs) es clk (agF (L.take (i + 1))).lo (agF (L.take (i + 1))).hi (agF (L.take (i + 1))).vo (agF (L.take (i + 1))).nw (agF (L.take (i + 1))).op L.length d (L.map edg) r2 ((i + 1 : Nat) : Int) → ∃ y : Nat, y ≤ L.length ∧ L.length - y < L.length - i ∧ s0 = j_agR (oO ob xs) es clk (agF (L.take y)).lo (agF (L.take y)).hi (agF (L.take y)).vo (agF (L.take y)).nw (agF (L.take y)).op L.length d (L.map edg) r2 (y : Nat) := fun s0 h0 => ⟨i + 1, by omega, by omega, h0⟩
            rw [hst] at fin
            have e2 : (edg p).i (0 + 1) = p.2 := rfl
            rcases agS_cases s p with ⟨h1, e⟩ | ⟨h1, h2, e⟩ | ⟨h1, h2, h3, e⟩ | ⟨h1, h2, h3, e⟩ <;> rw [e] at fin
            · exact bs_t (by rw [e2, h1]; rfl) (fin _ rfl)
            · exact bs_f (by rw [e2]; simp [h1]) (bs_t (decide_eq_true h2) (fin _ rfl))
            · exact bs_f (by rw [e2]; simp [h1]) (bs_f (decide_eq_false h2) (bs_t h3 (fin _ rfl)))
            · exact bs_f (by rw [e2]; simp [h1]) (bs_f (decide_eq_false h2) (bs_f h3 (fin _ (by rw [h3]; rfl))))
          · have hx := of_decide_eq_false hx
            have hs := hfin (by omega)
            rw [hs] at n1 n2 ⊢
            rw [w_id (n := 2 * (agM ys).vo) (by omega) (by omega)]
            refine ⟨by omega, bsplit_both (fun hz => ⟨[], nx, uniq1 hb, trivial, rfl, rfl, outE 10 (by decide) ?_⟩) (fun hz => ?_)⟩
            · rw [hE, if_pos (of_decide_eq_true hz)]
            · have h0 : agE ys = 0 := by rw [hE, if_neg (of_decide_eq_false hz)]
              exact ⟨[], nx, uniq1 hb, trivial, rfl, rfl, out _ _ _ 0 (by unfold agLo; rw [if_pos h0]) (by unfold agHi; rw [if_pos h0]) (by unfold agVo; rw [if_pos h0]) h0⟩
  · exact h.elim
end Go.Tb.W
