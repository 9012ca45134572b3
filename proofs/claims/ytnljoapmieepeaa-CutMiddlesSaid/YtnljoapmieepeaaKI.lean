/- Claims: whose claims have what is agreed on, proved. -/
import Derived.Test.YtnljoapmieepeaaKG
import Derived.Test.YtnljoapmieepeaaKH
set_option linter.all false
set_option maxRecDepth 100000
set_option maxHeartbeats 1000000
namespace Go.Tb.W
open Go Go.Proofs
variable {I : Interp O}
def c_trueC (args : List AV) (hp : Tr (AO O)) (nx : Nat) (K : AV → Tr (AO O) → Nat → Prop) : Prop := match args with
  | [v] => slC hp v fun xs f => match Nat.blt nx 16777215, hp.get nx with
    | true, none => xs.length ≤ 6 ∧ (agE xs ≠ 0 → K .nils (f hp) nx) ∧ (agE xs = 0 → (trueF xs = [] → K .nils (f hp) nx) ∧ (trueF xs ≠ [] → ∀ c room, K (.sl nx 0 (trueF xs).length c) (f (hp.set nx (some (nO ((trueF xs).map iR) room)))) (nx + 1)))
    | _, _ => False
  | _ => False
noncomputable def Tj (o : AO O) (es : List (Rw × Nat)) (clk : Nat) (lo hi : Int) (L : List Int) (c r1 : Nat) (x : Nat × Nat × Nat) : St O := match (L.take x.1).filter (pK es lo hi) with
  | [] => j_trA o es clk lo hi L.length c (L.map iR) r1 ((x.1 : Nat) : Int)
  | y :: out => j_trB o es clk lo hi L.length c (L.map iR) r1 ((x.1 : Nat) : Int) (y :: out).length x.2.1 ((y :: out).map iR) x.2.2
theorem iR_get {L : List Int} {i : Nat} (h : i < L.length) : (L.map iR)[((i : Nat) : Int).toNat]? = some (iR L[i]) := by
  rw [Int.toNat_natCast, List.getElem?_map, List.getElem?_eq_getElem h]; rfl
theorem filt_step {L : List Int} {i : Nat} (h : i < L.length) (p : Int → Bool) : (L.take (i + 1)).filter p = (L.take i).filter p ++ (if p L[i] = true then [L[i]] else []) := by
  rw [List.take_succ_eq_append_getElem h, List.filter_append]
  congr 1
  by_cases hp : p L[i] = true <;> simp [hp]
theorem okK_of {es : List (Rw × Nat)} {clk : Nat} (h : okM es clk) : okK es clk := ⟨h.key, h.brn, h.old, by have := h.ln; omega⟩
theorem Tj_nil {o : AO O} {es : List (Rw × Nat)} {clk : Nat} {lo hi : Int} {L : List Int} {c r1 : Nat} {x : Nat × Nat × Nat} (h : (L.take x.1).filter (pK es lo hi) = []) : Tj o es clk lo hi L c r1 x = j_trA o es clk lo hi L.length c (L.map iR) r1 ((x.1 : Nat) : Int) := by
  show (match (L.take x.1).filter (pK es lo hi) with | [] => _ | y :: out => _) = _
  rw [h]
theorem Tj_cons {o : AO O} {es : List (Rw × Nat)} {clk : Nat} {lo hi : Int} {L : List Int} {c r1 : Nat} {x : Nat × Nat × Nat} {out : List Int} (h : (L.take x.1).filter (pK es lo hi) = out) (h0 : out ≠ []) : Tj o es clk lo hi L c r1 x = j_trB o es clk lo hi L.length c (L.map iR) r1 ((x.1 : Nat) : Int) out.length x.2.1 (out.map iR) x.2.2 := by
  show (match (L.take x.1).filter (pK es lo hi) with | [] => _ | y :: out => _) = _
  rw [h]
  cases out with
  | nil => exact absurd rfl h0
  | cons a l => rfl
theorem k_trueC : ∀ (args : List AV) (hp : Tr (AO O)) (nx : Nat) (K : AV → Tr (AO O) → Nat → Prop), c_trueC args hp nx K → ACall I P 11 args hp (fun v hp' => ∃ nx', K v hp' nx') := by
  intro args hp nx K h
  unfold c_trueC at h; split at h
  · rename_i v
    rcases slC_spec h with ⟨rfl, hk⟩ | ⟨n, l, c, rfl, hb, ⟨xs, room, hg, hl, hk⟩ | ⟨ob, xs, hg, hl, hk⟩⟩
    · split at hk
      · obtain ⟨_, hk1, _⟩ := hk
        exact hcallG mix gA7 (fn := Try.f11) (by kernel_rfl) (by kernel_rfl) (by kernel_rfl) [] [] [.nils] rfl rfl rfl trivial rfl rfl (fun hr ho => (t_trueN I _).mpr ⟨by decide, ⟨[], nx, rfl, trivial, rfl, rfl, hk1 (by decide)⟩⟩)
      · exact hk.elim
    · split at hk
      · rename_i hnb hfr
        obtain ⟨h6, hk1, hk2⟩ := hk
        refine hcallG mix gA7 (fn := Try.f11) (by kernel_rfl) (by kernel_rfl) (by kernel_rfl) [n] [cO xs room] [.sl 0 0 l c] rfl (uniq1 hb) rfl ⟨hg, trivial⟩ rfl rfl (fun hr ho => (t_trueR I _ l c room xs).mpr ⟨hl, h6, ?_⟩)
        have hlc := rg_lc hr
        generalize hys : xs.take l = ys at hk1 hk2 h6
        refine bsplit_both (fun a1 => ⟨[], nx, uniq1 hb, trivial, rfl, rfl, hk1 (by simpa using a1)⟩) (fun a1 => ⟨hl, ?_⟩)
        have h0 : agE ys = 0 := by simpa using a1
        obtain ⟨hk1, hk2⟩ := hk2 h0
        have hbad : ¬ badI ys ≥ 0 := fun e => by unfold agE at h0; rw [if_pos e] at h0; cases h0
        obtain ⟨ok, hel⟩ := okM_of (bad_neg hbad) h6
        have hT : trueF ys = (srtJ (keyL (lastF ys).1)).filter (pK (lastF ys).1 (agLo ys) (agHi ys)) := (true_filter ok.key _ _).symm
        rw [hT] at hk1 hk2
        generalize agLo ys = lo at hk1 hk2 ⊢
        generalize agHi ys = hi at hk1 hk2 ⊢
        generalize agVo ys = vo at hk1 hk2 ⊢
        generalize agE ys = er at hk1 hk2 ⊢
        generalize lastF ys = q at ok hel hk1 hk2
        obtain ⟨es, clk⟩ := q
        simp only at ok hel hk1 hk2 ⊢
        refine ⟨okK_of ok, fun hes => ?_, fun hes d r1 => ?_⟩
        · refine ALoop.start [(1, 1), (2, 2)] [3, 4, 7, 8, 25, 26, 27] 3 (j_trN (cO xs room) es clk lo hi) (by kernel_rfl) (by kernel_rfl) ?_
          refine ALoop.stepg [(1, 1), (2, 2)] [3, 4, 7, 8, 25, 26, 27] 3 ?_
          exact (t_trNR I _ _ room xs es clk lo hi).mpr ⟨[], nx, uniq1 hb, trivial, rfl, rfl, hk1 (by rw [hes]; rfl)⟩
        · have hLl : (srtJ (keyL es)).length = es.length := by rw [(srtJ_perm _).length_eq]; unfold keyL; simp
          have hln := ok.ln
          rw [← hLl]
          generalize srtJ (keyL es) = L at hLl hk1 hk2
          refine ALoop.start [(1, 1), (2, 2), (3, 3)] [3, 4, 7, 8, 25, 26, 27] 5 (Tj (cO xs room) es clk lo hi L d r1 (0, 0, 0)) (by kernel_rfl) (by kernel_rfl) ?_
          refine ALoop.invjL (pss := [[(1, 1), (2, 2), (3, 3)], [(1, 1), (2, 2), (3, 3), (4, 4)], [(1, 1), (2, 2), (3, 3), (5, 4)], [(1, 1), (2, 2), (3, 3), (6, 4)], [(1, 1), (2, 2), (3, 3), (7, 4)], [(1, 1), (2, 2), (3, 3), (8, 4)], [(1, 1), (2, 2), (3, 3), (9, 4)]]) (ts := [3, 4, 7, 8, 25, 26, 27]) (nx := 5) (Tj (cO xs room) es clk lo hi L d r1) (fun x => x.1 ≤ L.length ∧ x.2.1 ≤ x.2.2) (fun x => L.length - x.1) ?_ (0, 0, 0) ⟨Nat.zero_le _, Nat.le_refl _⟩
          rintro ⟨i, cc, r2⟩ ⟨g1, g2⟩
          simp only at g1 g2
          have key : ∀ (x0 : Rw), x0 = iR (x0.i 0) → mrow (encS x0 0 (.i .i64)) es = mrow (.int .i64 (x0.i 0)) es := fun _ _ => rfl
          have nxt : ∀ (hi' : i < L.length), IntKind.i64.wrap (((i : Nat) : Int) + 1) = (((i + 1 : Nat)) : Int) := fun _ => by rw [w_id (by omega) (by omega)]; omega
          cases hO : (L.take i).filter (pK es lo hi) with
          | nil =>
            rw [Tj_nil (x := (i, cc, r2)) hO]
            refine (t_trAR I _ _ room xs es clk lo hi L.length d (L.map iR) r1 ((i : Nat) : Int)).mpr (bsplit_both (fun hx => ?_) (fun hx => ?_))
            · have hx := of_decide_eq_true hx
              have hi' : i < L.length := by omega
              have hst := filt_step hi' (pK es lo hi)
              rw [hO, List.nil_append] at hst
              refine must_mk (decide_eq_true ⟨by omega, hx⟩) (xget_mk (iR_get hi') (bsplit_both (fun a2 => ?_) (fun a2 => ?_)))
              · refine bsplit_both (fun a3 => ⟨by omega, fun c' q1 q2 => ⟨(i + 1, c', c' * 1), ⟨by show i + 1 ≤ L.length; omega, by show c' ≤ c' * 1; omega⟩, by show L.length - (i + 1) < L.length - i; omega, ?_⟩⟩) (fun a3 => ⟨(i + 1, cc, r2), ⟨by show i + 1 ≤ L.length; omega, g2⟩, by show L.length - (i + 1) < L.length - i; omega, ?_⟩)
                · have hp : pK es lo hi L[i] = true := by unfold pK; exact Bool.and_eq_true_iff.2 ⟨a2, a3⟩
                  rw [if_pos hp] at hst
                  rw [Tj_cons (x := (i + 1, c', c' * 1)) hst (by simp), nxt hi']
                  rfl
                · have hp : pK es lo hi L[i] = false := by
                    unfold pK; exact Bool.and_eq_false_iff.2 (.inr a3)
                  rw [hp, if_neg (by decide)] at hst
                  rw [Tj_nil (x := (i + 1, cc, r2)) hst, nxt hi']
                  rfl
              · refine ⟨(i + 1, cc, r2), ⟨by show i + 1 ≤ L.length; omega, g2⟩, by show L.length - (i + 1) < L.length - i; omega, ?_⟩
                have hp : pK es lo hi L[i] = false := by
                  unfold pK; exact Bool.and_eq_false_iff.2 (.inl a2)
                rw [hp, if_neg (by decide)] at hst
                rw [Tj_nil (x := (i + 1, cc, r2)) hst, nxt hi']
                rfl
            · have hx := of_decide_eq_false hx
              have hi : i = L.length := by omega
              rw [hi, List.take_length] at hO
              exact ⟨[], nx, uniq1 hb, trivial, rfl, rfl, hk1 hO⟩
          | cons y out0 =>
            have hne : y :: out0 ≠ [] := by simp
            generalize y :: out0 = out at hO hne
            rw [Tj_cons (x := (i, cc, r2)) hO hne]
            have hol : out.length ≤ L.length := by rw [← hO]; exact Nat.le_trans (List.length_filter_le _ _) (by simp; omega)
            refine (t_trBR I _ _ room xs es clk lo hi L.length d (L.map iR) r1 ((i : Nat) : Int) out.length cc (out.map iR) r2).mpr (bsplit_both (fun hx => ?_) (fun hx => ?_))
            · have hx := of_decide_eq_true hx
              have hi' : i < L.length := by omega
              have hst := filt_step hi' (pK es lo hi)
              rw [hO] at hst
              refine must_mk (decide_eq_true ⟨by omega, hx⟩) (xget_mk (iR_get hi') (bsplit_both (fun a2 => ?_) (fun a2 => ?_)))
              · refine bsplit_both (fun a3 => must_mk (by simp [Nat.ble_eq]; omega) ⟨by omega, fun c' q1 q2 => ⟨(i + 1, c', c' * 1), ⟨by show i + 1 ≤ L.length; omega, by show c' ≤ c' * 1; omega⟩, by show L.length - (i + 1) < L.length - i; omega, ?_⟩⟩) (fun a3 => ⟨(i + 1, cc, r2), ⟨by show i + 1 ≤ L.length; omega, g2⟩, by show L.length - (i + 1) < L.length - i; omega, ?_⟩)
                · have hp : pK es lo hi L[i] = true := by unfold pK; exact Bool.and_eq_true_iff.2 ⟨a2, a3⟩
                  rw [if_pos hp] at hst
                  rw [Tj_cons (x := (i + 1, c', c' * 1)) hst (by simp), nxt hi', List.take_of_length_le (by simp), List.map_append, List.length_append]
                  rfl
                · have hp : pK es lo hi L[i] = false := by
                    unfold pK; exact Bool.and_eq_false_iff.2 (.inr a3)
                  rw [hp, if_neg (by decide), List.append_nil] at hst
                  rw [Tj_cons (x := (i + 1, cc, r2)) hst hne, nxt hi']
                  rfl
              · refine ⟨(i + 1, cc, r2), ⟨by show i + 1 ≤ L.length; omega, g2⟩, by show L.length - (i + 1) < L.length - i; omega, ?_⟩
                have hp : pK es lo hi L[i] = false := by
                  unfold pK; exact Bool.and_eq_false_iff.2 (.inl a2)
                rw [hp, if_neg (by decide), List.append_nil] at hst
                rw [Tj_cons (x := (i + 1, cc, r2)) hst hne, nxt hi']
                rfl
            · have hx := of_decide_eq_false hx
              have hi : i = L.length := by omega
              rw [hi, List.take_length] at hO
              have hk2 := hk2 (by rw [hO]; exact hne)
              rw [hO] at hk2
              exact ⟨[(4, nx)], nx + 1, uniq2n (uniq1 hb) hfr hnb (by rw [hg]; simp) rfl, ⟨hfr, trivial⟩, rfl, rfl, hk2 cc r2⟩
      · exact hk.elim
    · split at hk
      · rename_i hnb hfr
        obtain ⟨h6, hk1, hk2⟩ := hk
        refine hcallG mix gA7 (fn := Try.f11) (by kernel_rfl) (by kernel_rfl) (by kernel_rfl) [n] [oO ob xs] [.sl 0 0 l c] rfl (uniq1 hb) rfl ⟨hg, trivial⟩ rfl rfl (fun hr ho => (t_trueO I _ l c ob xs).mpr ⟨hl, h6, ?_⟩)
        have hlc := rg_lc hr
        generalize hys : xs.take l = ys at hk1 hk2 h6
        refine bsplit_both (fun a1 => ⟨[], nx, uniq1 hb, trivial, rfl, rfl, hk1 (by simpa using a1)⟩) (fun a1 => ⟨hl, ?_⟩)
        have h0 : agE ys = 0 := by simpa using a1
        obtain ⟨hk1, hk2⟩ := hk2 h0
        have hbad : ¬ badI ys ≥ 0 := fun e => by unfold agE at h0; rw [if_pos e] at h0; cases h0
        obtain ⟨ok, hel⟩ := okM_of (bad_neg hbad) h6
        have hT : trueF ys = (srtJ (keyL (lastF ys).1)).filter (pK (lastF ys).1 (agLo ys) (agHi ys)) := (true_filter ok.key _ _).symm
        rw [hT] at hk1 hk2
        generalize agLo ys = lo at hk1 hk2 ⊢
        generalize agHi ys = hi at hk1 hk2 ⊢
        generalize agVo ys = vo at hk1 hk2 ⊢
        generalize agE ys = er at hk1 hk2 ⊢
        generalize lastF ys = q at ok hel hk1 hk2
        obtain ⟨es, clk⟩ := q
        simp only at ok hel hk1 hk2 ⊢
        refine ⟨okK_of ok, fun hes => ?_, fun hes d r1 => ?_⟩
        · refine ALoop.start [(1, 1), (2, 2)] [3, 4, 7, 8, 25, 26, 27] 3 (j_trN (oO ob xs) es clk lo hi) (by kernel_rfl) (by kernel_rfl) ?_
          refine ALoop.stepg [(1, 1), (2, 2)] [3, 4, 7, 8, 25, 26, 27] 3 ?_
          exact (t_trNO I _ _ ob xs es clk lo hi).mpr ⟨[], nx, uniq1 hb, trivial, rfl, rfl, hk1 (by rw [hes]; rfl)⟩
        · have hLl : (srtJ (keyL es)).length = es.length := by rw [(srtJ_perm _).length_eq]; unfold keyL; simp
          have hln := ok.ln
          rw [← hLl]
          generalize srtJ (keyL es) = L at hLl hk1 hk2
          refine ALoop.start [(1, 1), (2, 2), (3, 3)] [3, 4, 7, 8, 25, 26, 27] 5 (Tj (oO ob xs) es clk lo hi L d r1 (0, 0, 0)) (by kernel_rfl) (by kernel_rfl) ?_
          refine ALoop.invjL (pss := [[(1, 1), (2, 2), (3, 3)], [(1, 1), (2, 2), (3, 3), (4, 4)], [(1, 1), (2, 2), (3, 3), (5, 4)], [(1, 1), (2, 2), (3, 3), (6, 4)], [(1, 1), (2, 2), (3, 3), (7, 4)], [(1, 1), (2, 2), (3, 3), (8, 4)], [(1, 1), (2, 2), (3, 3), (9, 4)]]) (ts := [3, 4, 7, 8, 25, 26, 27]) (nx := 5) (Tj (oO ob xs) es clk lo hi L d r1) (fun x => x.1 ≤ L.length ∧ x.2.1 ≤ x.2.2) (fun x => L.length - x.1) ?_ (0, 0, 0) ⟨Nat.zero_le _, Nat.le_refl _⟩
          rintro ⟨i, cc, r2⟩ ⟨g1, g2⟩
          simp only at g1 g2
          have key : ∀ (x0 : Rw), x0 = iR (x0.i 0) → mrow (encS x0 0 (.i .i64)) es = mrow (.int .i64 (x0.i 0)) es := fun _ _ => rfl
          have nxt : ∀ (hi' : i < L.length), IntKind.i64.wrap (((i : Nat) : Int) + 1) = (((i + 1 : Nat)) : Int) := fun _ => by rw [w_id (by omega) (by omega)]; omega
          cases hO : (L.take i).filter (pK es lo hi) with
          | nil =>
            rw [Tj_nil (x := (i, cc, r2)) hO]
            refine (t_trAO I _ _ ob xs es clk lo hi L.length d (L.map iR) r1 ((i : Nat) : Int)).mpr (bsplit_both (fun hx => ?_) (fun hx => ?_))
            · have hx := of_decide_eq_true hx
              have hi' : i < L.length := by omega
              have hst := filt_step hi' (pK es lo hi)
              rw [hO, List.nil_append] at hst
              refine must_mk (decide_eq_true ⟨by omega, hx⟩) (xget_mk (iR_get hi') (bsplit_both (fun a2 => ?_) (fun a2 => ?_)))
              · refine bsplit_both (fun a3 => ⟨by omega, fun c' q1 q2 => ⟨(i + 1, c', c' * 1), ⟨by show i + 1 ≤ L.length; omega, by show c' ≤ c' * 1; omega⟩, by show L.length - (i + 1) < L.length - i; omega, ?_⟩⟩) (fun a3 => ⟨(i + 1, cc, r2), ⟨by show i + 1 ≤ L.length; omega, g2⟩, by show L.length - (i + 1) < L.length - i; omega, ?_⟩)
                · have hp : pK es lo hi L[i] = true := by unfold pK; exact Bool.and_eq_true_iff.2 ⟨a2, a3⟩
                  rw [if_pos hp] at hst
                  rw [Tj_cons (x := (i + 1, c', c' * 1)) hst (by simp), nxt hi']
                  rfl
                · have hp : pK es lo hi L[i] = false := by
                    unfold pK; exact Bool.and_eq_false_iff.2 (.inr a3)
                  rw [hp, if_neg (by decide)] at hst
                  rw [Tj_nil (x := (i + 1, cc, r2)) hst, nxt hi']
                  rfl
              · refine ⟨(i + 1, cc, r2), ⟨by show i + 1 ≤ L.length; omega, g2⟩, by show L.length - (i + 1) < L.length - i; omega, ?_⟩
                have hp : pK es lo hi L[i] = false := by
                  unfold pK; exact Bool.and_eq_false_iff.2 (.inl a2)
                rw [hp, if_neg (by decide)] at hst
                rw [Tj_nil (x := (i + 1, cc, r2)) hst, nxt hi']
                rfl
            · have hx := of_decide_eq_false hx
              have hi : i = L.length := by omega
              rw [hi, List.take_length] at hO
              exact ⟨[], nx, uniq1 hb, trivial, rfl, rfl, hk1 hO⟩
          | cons y out0 =>
            have hne : y :: out0 ≠ [] := by simp
            generalize y :: out0 = out at hO hne
            rw [Tj_cons (x := (i, cc, r2)) hO hne]
            have hol : out.length ≤ L.length := by rw [← hO]; exact Nat.le_trans (List.length_filter_le _ _) (by simp; omega)
            refine (t_trBO I _ _ ob xs es clk lo hi L.length d (L.map iR) r1 ((i : Nat) : Int) out.length cc (out.map iR) r2).mpr (bsplit_both (fun hx => ?_) (fun hx => ?_))
            · have hx := of_decide_eq_true hx
              have hi' : i < L.length := by omega
              have hst := filt_step hi' (pK es lo hi)
              rw [hO] at hst
              refine must_mk (decide_eq_true ⟨by omega, hx⟩) (xget_mk (iR_get hi') (bsplit_both (fun a2 => ?_) (fun a2 => ?_)))
              · refine bsplit_both (fun a3 => must_mk (by simp [Nat.ble_eq]; omega) ⟨by omega, fun c' q1 q2 => ⟨(i + 1, c', c' * 1), ⟨by show i + 1 ≤ L.length; omega, by show c' ≤ c' * 1; omega⟩, by show L.length - (i + 1) < L.length - i; omega, ?_⟩⟩) (fun a3 => ⟨(i + 1, cc, r2), ⟨by show i + 1 ≤ L.length; omega, g2⟩, by show L.length - (i + 1) < L.length - i; omega, ?_⟩)
                · have hp : pK es lo hi L[i] = true := by unfold pK; exact Bool.and_eq_true_iff.2 ⟨a2, a3⟩
                  rw [if_pos hp] at hst
                  rw [Tj_cons (x := (i + 1, c', c' * 1)) hst (by simp), nxt hi', List.take_of_length_le (by simp), List.map_append, List.length_append]
                  rfl
                · have hp : pK es lo hi L[i] = false := by
                    unfold pK; exact Bool.and_eq_false_iff.2 (.inr a3)
                  rw [hp, if_neg (by decide), List.append_nil] at hst
                  rw [Tj_cons (x := (i + 1, cc, r2)) hst hne, nxt hi']
                  rfl
              · refine ⟨(i + 1, cc, r2), ⟨by show i + 1 ≤ L.length; omega, g2⟩, by show L.length - (i + 1) < L.length - i; omega, ?_⟩
                have hp : pK es lo hi L[i] = false := by
                  unfold pK; exact Bool.and_eq_false_iff.2 (.inl a2)
                rw [hp, if_neg (by decide), List.append_nil] at hst
                rw [Tj_cons (x := (i + 1, cc, r2)) hst hne, nxt hi']
                rfl
            · have hx := of_decide_eq_false hx
              have hi : i = L.length := by omega
              rw [hi, List.take_length] at hO
              have hk2 := hk2 (by rw [hO]; exact hne)
              rw [hO] at hk2
              exact ⟨[(4, nx)], nx + 1, uniq2n (uniq1 hb) hfr hnb (by rw [hg]; simp) rfl, ⟨hfr, trivial⟩, rfl, rfl, hk2 cc r2⟩
      · exact hk.elim
  · exact h.elim
end Go.Tb.W
