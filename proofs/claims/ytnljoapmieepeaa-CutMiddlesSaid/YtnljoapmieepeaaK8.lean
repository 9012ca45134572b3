/- Claims: edges, proved. -/
import Derived.Test.YtnljoapmieepeaaK7
set_option linter.all false
set_option maxRecDepth 100000
set_option maxHeartbeats 4000000
namespace Go.Tb.W
open Go Go.Proofs
variable {I : Interp O}
theorem ne_map (L : List (Int × Int)) : NE (L.map edg) := fun x hx => by
  obtain ⟨p, _, rfl⟩ := List.mem_map.1 hx
  rfl
abbrev Eα : Type := Option (List Nat × Option (Rw × Nat) × List (Int × Int) × Nat × Nat)
noncomputable abbrev Ejd (es : List (Rw × Nat)) (clk : Nat) (x : Eα) : St O := match x with
  | none => j_edA es clk clk [] clk none
  | some y => j_edB es clk clk y.1 clk y.2.1 y.2.2.1.length y.2.2.2.1 (y.2.2.1.map edg) y.2.2.2.2
def Egd (es : List (Rw × Nat)) (x : Eα) : Prop := match x with
  | none => True
  | some y => es ≠ [] ∧ y.2.2.1.Perm (rawE (pickS es y.1)) ∧ y.2.2.2.1 * 2 ≤ y.2.2.2.2
abbrev Mα : Type := Nat × Nat × Nat
noncomputable abbrev Mj (es : List (Rw × Nat)) (clk : Nat) (seen : List Nat) (cur : Option (Rw × Nat)) (L : List (Int × Int)) (c room : Nat) (x : Mα) : St O := match x.1 with
  | 0 => j_meA es clk clk seen clk cur L.length c (L.map edg) room 0
  | i + 1 => j_meB es clk clk seen clk cur L.length c (L.map edg) room ((i + 1 : Nat) : Int) (joinE (L.take (i + 1))).length x.2.1 ((joinE (L.take (i + 1))).map edg) x.2.2
theorem k_edges (hG : GOk I P (Gm A5)) : ∀ (args : List AV) (hp : Tr (AO O)) (nx : Nat) (K : AV → Tr (AO O) → Nat → Prop), c_edges args hp nx K → ACall I P 16 args hp (fun v hp' => ∃ nx', K v hp' nx') := by
  intro args hp nx K h
  unfold c_edges at h; split at h
  · rename_i n
    split at h
    · rename_i es clk hb hg hnb hfr
      obtain ⟨ok, hk1, hk2⟩ := h
      refine hcallG mix hG (fn := Try.f16) (by kernel_rfl) (by kernel_rfl) (by kernel_rfl) [n] [mO es clk] [.map 0] rfl (uniq1 hb) rfl ⟨hg, trivial⟩ rfl rfl (fun hr ho => (t_edges I _ es clk).mpr ?_)
      have hln := ok.ln
      refine ALoop.start [(1, 1)] [3, 11] 3 (j_edA es clk clk [] clk none) (by kernel_rfl) (by kernel_rfl) ?_
      refine ALoop.invjL (pss := [[(1, 1)], [(1, 1), (2, 2)], [(1, 1), (3, 2)], [(1, 1), (4, 2)], [(1, 1), (5, 2)], [(1, 1), (6, 2)], [(1, 1), (7, 2)], [(1, 1), (8, 2)], [(1, 1), (9, 2)]]) (ts := [3, 11]) (nx := 3) (Ejd es clk) (Egd es) (fun x => match x with | none => (mleft es []).length + 1 | some y => (mleft es y.1).length) ?_ none trivial
      rintro (_ | ⟨seen, cur, L, c, room⟩) g
      · refine (t_edA I _ _ es clk clk [] clk none).mpr (must_mk (by rw [mgoes_ok (.inl rfl)]; rfl) ⟨fun hm => ?_, fun x b hx => ?_⟩)
        · have hes : es = [] := by
            cases es with
            | nil => rfl
            | cons a l => have := mover_nil hm ok.old a (List.mem_cons_self ..); simp at this
          refine ALoop.start [(1, 1)] [6, 30, 31, 32] 3 (j_me0 es clk clk [] clk none) (by kernel_rfl) (by kernel_rfl) ?_
          refine ALoop.stepg [(1, 1)] [6, 30, 31, 32] 3 ?_
          exact (t_me0 I _ (fun _ => True) _ es clk clk [] clk none).mpr ⟨[], nx, uniq1 hb, trivial, rfl, rfl, hk1 hes⟩
        · obtain ⟨h1, h2⟩ := mleft_mem hx
          have hbd := ok.bd _ h1
          have hbd : -1152921504606846976 ≤ x.i 2 ∧ x.i 2 ≤ x.i 3 ∧ x.i 3 ≤ 1152921504606846976 := hbd
          refine must_mk (Nat.beq_refl _) ⟨matB_mem ok.brn h1, by omega, fun c' q1 q2 => ⟨some ([b], some (x, b), [(x.i 2, 1), (x.i 3 + 1, -1)], c', c' * 2), ⟨fun e => (by rw [e] at h1; cases h1), ?_, Nat.le_refl _⟩, ?_, ?_⟩⟩
          · have := raw_step (seen := []) (L := []) (e := (x, b)) (by
              have : pickS es [] = [] := List.filter_eq_nil_iff.2 fun _ _ => by simp
              rw [this]; exact List.Perm.refl _) h2 ok.brn h1
            simpa using this
          · have := mleft_lt hx
            show (mleft es [b]).length < (mleft es []).length + 1
            have h3 : (mleft es ([] ++ [b])).length < (mleft es []).length := this
            simp only [List.nil_append] at h3
            omega
          · have e : IntKind.i64.wrap (x.i (1 + 1 + 1) + 1) = x.i 3 + 1 := w_id (by show _ ≤ x.i 3 + 1; omega) (by show x.i 3 + 1 ≤ _; omega)
            show (⟨_, _, _, _⟩ : St O) = _
            simp only [e]
            rfl
      · obtain ⟨hne, hL, hroom⟩ := g
        simp only at hL hroom
        have hlen : L.length ≤ 12 := by
          have := hL.length_eq
          rw [raw_len] at this
          have h2 : (pickS es seen).length ≤ es.length := List.length_filter_le _ _
          omega
        refine (t_edB I _ _ es clk clk seen clk cur L.length c (L.map edg) room).mpr (must_mk (by rw [mgoes_ok (.inr ⟨hne, ok.old⟩)]; rfl) ⟨fun hm => ⟨⟨by simp, by omega, ne_map L⟩, fun ys hys hris => ?_⟩, fun x b hx => ?_⟩)
        · have hall := mover_nil hm ok.old
          rw [pick_all hall] at hL
          obtain ⟨M, rfl, hM⟩ := ys_edg hys
          have hMr := hM.trans hL
          have hMl : M.length = L.length := hM.length_eq
          have hMs : M.Pairwise (fun x y => x.1 ≤ y.1) := ((List.pairwise_map (f := edg) (R := fun x y : Rw => x.i 0 ≤ y.i 0)).1 hris).imp (fun {a b} h => h)
          have hM1 : ∀ p ∈ M, -1 ≤ p.2 ∧ p.2 ≤ 1 := fun p hp => by
            obtain ⟨e, _, h | h⟩ := raw_mem (hMr.mem_iff.1 hp) <;> rw [h] <;> simp
          have hM0 : 0 < M.length := by
            have h3 := hMr.length_eq
            rw [raw_len] at h3
            have : 0 < es.length := List.length_pos_iff.2 hne
            omega
          rw [← hMl]
          refine ALoop.start [(1, 1), (2, 2)] [6, 30, 31, 32] 4 (j_meA es clk clk seen clk cur M.length c (M.map edg) room 0) (by kernel_rfl) (by kernel_rfl) ?_
          refine ALoop.invjL (pss := [[(1, 1), (2, 2)], [(1, 1), (2, 2), (3, 3)], [(1, 1), (2, 2), (4, 3)], [(1, 1), (2, 2), (5, 3)], [(1, 1), (2, 2), (6, 3)], [(1, 1), (2, 2), (7, 3)], [(1, 1), (2, 2), (8, 3)], [(1, 1), (2, 2), (9, 3)]]) (ts := [6, 30, 31, 32]) (nx := 4) (Mj es clk seen cur M c room) (fun x => x.1 ≤ M.length ∧ x.2.1 * 2 ≤ x.2.2) (fun x => M.length - x.1) ?_ (0, 0, 0) ⟨Nat.zero_le _, Nat.le_refl _⟩
          rintro ⟨i, d, r2⟩ ⟨g1, g2⟩
          simp only at g1 g2
          have hget : ∀ j : Nat, (hj : j < M.length) → (M.map edg)[((j : Nat) : Int).toNat]? = some (edg M[j]) := fun j hj => by rw [Int.toNat_natCast]; exact edg_get hj
          cases i with
          | zero =>
            refine (t_meA I _ (fun _ => True) _ es clk clk seen clk cur M.length c (M.map edg) room 0).mpr (bsplit_both (fun hx => ?_) (fun hx => absurd (of_decide_eq_false hx) (by omega)))
            refine must_mk (decide_eq_true ⟨by omega, by omega⟩) (xget_mk (hget 0 hM0) ⟨by omega, fun c' q1 q2 => ⟨(1, c', c' * 2), ⟨by show 1 ≤ M.length; omega, Nat.le_refl _⟩, by show M.length - 1 < M.length - 0; omega, ?_⟩⟩)
            have e1 : joinE (M.take (0 + 1)) = [M[0]] := by
              rw [List.take_succ_eq_append_getElem hM0, join_snoc]; rfl
            show _ = Mj es clk seen cur M c room (0 + 1, c', c' * 2)
            simp only [Mj, e1]
            rw [w_id (n := (0 : Int) + 1) (by omega) (by omega)]
            rfl
          | succ i =>
            obtain ⟨b1, b2⟩ := join_bd M hM1 (i + 1) g1
            have hne2 : joinE (M.take (i + 1)) ≠ [] := by
              rw [List.take_succ_eq_append_getElem (show i < M.length by omega), join_snoc]; exact (put_ne _ _).1
            generalize hO : joinE (M.take (i + 1)) = out at b1 b2 hne2
            have hk0 : 0 < out.length := List.length_pos_iff.2 hne2
            show acode I P (Gm A5) (adraw P (Gm A5)) 1 _ (Mj es clk seen cur M c room (i + 1, d, r2)) _
            simp only [Mj, hO]
            refine (t_meB I _ (fun _ => True) _ es clk clk seen clk cur M.length c (M.map edg) room ((i + 1 : Nat) : Int) out.length d (out.map edg) r2).mpr (bsplit_both (fun hx => ?_) (fun hx => ?_))
            · have hx : ((i + 1 : Nat) : Int) < (M.length : Int) := of_decide_eq_true hx
              have hi : i + 1 < M.length := by omega
              have hstep : joinE (M.take (i + 1 + 1)) = putE out M[i + 1] := by rw [List.take_succ_eq_append_getElem hi, join_snoc, hO]
              have hx1 := hM1 _ (List.getElem_mem hi)
              refine must_mk (decide_eq_true ⟨by omega, hx⟩) (xget_mk (hget (i + 1) hi) (bs_t (decide_eq_true (by omega)) ?_))
              rw [w_id (n := (out.length : Int) - 1) (by omega) (by omega)]
              have et : ((out.length : Int) - 1).toNat = out.length - 1 := by omega
              rw [et]
              have hb' : decide ((0 : Int) ≤ (out.length : Int) - 1 ∧ (out.length : Int) - 1 < (out.length : Int)) = true := decide_eq_true ⟨by omega, by omega⟩
              have hlast : out.getLast? = some (out[out.length - 1]'(by omega)) := by rw [List.getLast?_eq_getElem?]; exact List.getElem?_eq_getElem (by omega)
              have hgl := edg_get (L := out) (i := out.length - 1) (by omega)
              generalize hy : out[out.length - 1]'(by omega) = y at hlast hgl
              have hyb := b2 y (by rw [← hy]; exact List.getElem_mem _)
              refine must_mk hb' (xget_mk hgl (bsplit_both (fun he => ?_) (fun he => ?_)))
              · have he : y.1 = (M[i + 1]).1 := eq_of_beq he
                refine must_mk hb' (xget_mk hgl (must_mk hb' (xget_mk hgl ⟨(i + 1 + 1, d, r2), ⟨by show i + 1 + 1 ≤ M.length; omega, g2⟩, by show M.length - (i + 1 + 1) < M.length - (i + 1); omega, ?_⟩)))
                have hp : putE out M[i + 1] = out.dropLast ++ [(y.1, y.2 + (M[i + 1]).2)] := by unfold putE; rw [hlast]; simp only [he, if_true]
                have hset : (out.map edg).set (out.length - 1) (setI (edg y) 1 (IntKind.i64.wrap (y.2 + (M[i + 1]).2))) = (putE out M[i + 1]).map edg := by
                  rw [hp, w_id (n := y.2 + (M[i + 1]).2) (by omega) (by omega), setI_edg y.1 y.2]
                  have hs := last_split hlast
                  have hdl : out.dropLast.length = out.length - 1 := by simp
                  rw [List.map_append]
                  conv => lhs; rw [hs]
                  rw [List.map_append, List.set_append, if_neg (by simp)]
                  simp
                have hl2 : (putE out M[i + 1]).length = out.length := by rw [hp]; simp; omega
                show _ = Mj es clk seen cur M c room (i + 1 + 1, d, r2)
                simp only [Mj, hstep]
                rw [hl2, ← hset, w_id (n := ((i + 1 : Nat) : Int) + 1) (by omega) (by omega)]
                rfl
              · have he : y.1 ≠ (M[i + 1]).1 := ne_of_beq_false he
                refine must_mk ?_ ⟨by omega, fun c' q1 q2 => ⟨(i + 1 + 1, c', c' * 2), ⟨by show i + 1 + 1 ≤ M.length; omega, Nat.le_refl _⟩, by show M.length - (i + 1 + 1) < M.length - (i + 1); omega, ?_⟩⟩
                · simp [Nat.ble_eq]; exact g2
                · have hp : putE out M[i + 1] = out ++ [M[i + 1]] := by unfold putE; rw [hlast]; simp only [if_neg he]
                  have e1 : List.take out.length (out.map edg) = out.map edg := List.take_of_length_le (by simp)
                  show _ = Mj es clk seen cur M c room (i + 1 + 1, c', c' * 2)
                  simp only [Mj, hstep]
                  rw [hp, e1, List.length_append, List.map_append, w_id (n := ((i + 1 : Nat) : Int) + 1) (by omega) (by omega)]
                  rfl
            · have hx := of_decide_eq_false hx
              have hi : i + 1 = M.length := by omega
              rw [hi, List.take_length, edgeF_of hMr hMs] at hO
              subst hO
              exact ⟨[(3, nx)], nx + 1, uniq2n (uniq1 hb) hfr hnb (by rw [hg]; simp) rfl, ⟨hfr, trivial⟩, rfl, rfl, hk2 hne d r2⟩
        · obtain ⟨h1, h2⟩ := mleft_mem hx
          have hbd : -1152921504606846976 ≤ x.i 2 ∧ x.i 2 ≤ x.i 3 ∧ x.i 3 ≤ 1152921504606846976 := ok.bd _ h1
          refine must_mk (Nat.beq_refl _) ⟨matB_mem ok.brn h1, must_mk (by simp [Nat.ble_eq]; exact hroom) ⟨by omega, fun c' q1 q2 => ⟨some (seen ++ [b], some (x, b), L ++ [(x.i 2, 1), (x.i 3 + 1, -1)], c', c' * 2), ⟨hne, raw_step hL h2 ok.brn h1, Nat.le_refl _⟩, mleft_lt hx, ?_⟩⟩⟩
          have e : IntKind.i64.wrap (x.i (1 + 1 + 1) + 1) = x.i 3 + 1 := w_id (by show _ ≤ x.i 3 + 1; omega) (by show x.i 3 + 1 ≤ _; omega)
          have e1 : List.take L.length (L.map edg) = L.map edg := List.take_of_length_le (by simp)
          show (⟨_, _, _, _⟩ : St O) = Ejd es clk (some (seen ++ [b], some (x, b), L ++ [(x.i 2, 1), (x.i 3 + 1, -1)], c', c' * 2))
          simp only [e, e1, Ejd]
          rw [List.length_append, List.map_append]
          rfl
    · exact h.elim
  · exact h.elim
end Go.Tb.W
