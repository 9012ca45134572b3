/- Searches: the document's functions, proved. -/
import Derived.Test.YtamfmlaipbdpgaaCD
import Derived.Test.YtamfmlaipbdpgaaD2
set_option linter.all false
set_option maxRecDepth 100000
set_option maxHeartbeats 2000000
namespace Go.Tb.W
open Go Go.Proofs
variable {I : Interp O}
theorem uniq3 {hp : Tr (AO O)} {n m nx j : Nat} (hu : uniq (pairs 0 [n, m]) = true) (hn : hp.get nx = none) (hb : Nat.blt nx 16777215 = true) (h1 : hp.get n ≠ none) (h2 : hp.get m ≠ none) (hj : lk (pairs 0 [n, m]) j = none) : uniq (pairs 0 [n, m] ++ [(j, nx)]) = true :=
  uniq_new hn hb hu hj fun p hp' => by
    simp [pairs] at hp'
    rcases hp' with rfl | rfl
    · exact h1
    · exact h2
theorem uniq2n {hp : Tr (AO O)} {n nx j : Nat} (hu : uniq (pairs 0 [n]) = true) (hn : hp.get nx = none) (hb : Nat.blt nx 16777215 = true) (h1 : hp.get n ≠ none) (hj : lk (pairs 0 [n]) j = none) : uniq (pairs 0 [n] ++ [(j, nx)]) = true :=
  uniq_new hn hb hu hj fun p hp' => by
    simp [pairs] at hp'
    rcases hp' with rfl
    exact h1
structure Bd (w m t : Int) : Prop where
  t0 : 0 ≤ t
  t1 : t ≤ 1000
  w0 : 1 ≤ w
  w1 : w ≤ 1099511627776
  m0 : 1 ≤ m
  m1 : m ≤ 255
theorem isD_spec {hp : Tr (AO O)} {n nx : Nat} {Kn : Int → Int → Int → Int → Bool → Int → Prop} {K : Int → Int → Int → Int → Bool → Int → Nat → Nat → Nat → List Rw → Nat → Prop} (h : isD hp n nx Kn K) :
    (Nat.blt nx 16777215 = true ∧ hp.get nx = none) ∧
    ((∃ m w q t ak fr g l c xs room, hp.get n = some (dO m w q (.sl g 0 l c) t ak fr) ∧ both n g = true ∧ hp.get g = some (nO xs room) ∧ l ≤ xs.length ∧ l ≤ 1000 ∧ Bd w m t ∧ K m w q t ak fr g l c xs room) ∨
     (∃ m w q t ak fr, hp.get n = some (dO m w q .nils t ak fr) ∧ Nat.blt n 16777215 = true ∧ Bd w m t ∧ Kn m w q t ak fr)) := by
  unfold isD at h
  split at h
  · rename_i m w q g l c t ak fr hg hnb hfr
    split at h
    · rename_i xs room hb hg2
      obtain ⟨⟨a1, a2, a3, a4, a5, a6, a7, a8⟩, h⟩ := h
      exact ⟨⟨hnb, hfr⟩, .inl ⟨m, w, q, t, ak, fr, g, l, c, xs, room, hg, hb, hg2, a1, a2, ⟨a3, a4, a5, a6, a7, a8⟩, h⟩⟩
    · exact h.elim
  · rename_i m w q t ak fr hg hnb hfr
    split at h
    · rename_i hb
      obtain ⟨⟨a3, a4, a5, a6, a7, a8⟩, h⟩ := h
      exact ⟨⟨hnb, hfr⟩, .inr ⟨m, w, q, t, ak, fr, hg, hb, ⟨a3, a4, a5, a6, a7, a8⟩, h⟩⟩
    · exact h.elim
  · exact h.elim
theorem k_dnew : ∀ (args : List AV) (hp : Tr (AO O)) (nx : Nat) (K : AV → Tr (AO O) → Nat → Prop), c_dnew args hp nx K → ACall I P 11 args hp (fun v hp' => ∃ nx', K v hp' nx') := by
  intro args hp nx K h
  unfold c_dnew at h; split at h
  · rename_i m w q
    split at h
    · rename_i hnb hfr
      obtain ⟨h1, h2⟩ := h
      refine hcallG mix Gm.nil (fn := Try.f11) (by kernel_rfl) (by kernel_rfl) (by kernel_rfl) [] [] [.int .i64 m, .int .i64 w, .int .i64 q] rfl rfl rfl trivial rfl rfl (fun hr ho => (t_dnew I _ m w q).mpr ?_)
      have bad : (m < 1 ∨ m > 255 ∨ w < 1 ∨ w > 1099511627776 ∨ q < 1 ∨ q > 16) → AllBack hp [] K (.tup [.nilp, .int .i64 1]) (.leaf : Tr (AO O)) := fun hx => ⟨[], nx, rfl, trivial, rfl, rfl, h1 (decide_eq_true hx)⟩
      refine bsplit_both (fun a1 => bad ?_) (fun a1 => bsplit_both (fun a2 => bad ?_) (fun a2 => bsplit_both (fun a3 => bad ?_) (fun a3 => bsplit_both (fun a4 => bad ?_) (fun a4 => bsplit_both (fun a5 => bad ?_) (fun a5 => bsplit_both (fun a6 => bad ?_) (fun a6 => ?_))))))
      · have := of_decide_eq_true a1; omega
      · have := of_decide_eq_true a2; omega
      · have := of_decide_eq_true a3; omega
      · have := of_decide_eq_true a4; omega
      · have := of_decide_eq_true a5; omega
      · have := of_decide_eq_true a6; omega
      · have a1 := of_decide_eq_false a1; have a2 := of_decide_eq_false a2; have a3 := of_decide_eq_false a3; have a4 := of_decide_eq_false a4; have a5 := of_decide_eq_false a5; have a6 := of_decide_eq_false a6
        have hb : badC m w q = false := decide_eq_false (by omega)
        exact ⟨[(0, nx)], nx + 1, uniq1 hnb, ⟨hfr, trivial⟩, rfl, rfl, h2 hb⟩
    · exact h.elim
  · exact h.elim
theorem wtD_bd {w t : Int} (h1 : 1 ≤ w) (h2 : w ≤ 1099511627776) : 1 ≤ wtD w t ∧ wtD w t ≤ 64 * w := by
  unfold wtD
  have hk : min t.toNat 6 ≤ 6 := Nat.min_le_right _ _
  generalize min t.toNat 6 = k at hk
  have : k = 0 ∨ k = 1 ∨ k = 2 ∨ k = 3 ∨ k = 4 ∨ k = 5 ∨ k = 6 := by omega
  rcases this with rfl | rfl | rfl | rfl | rfl | rfl | rfl <;> simp <;> omega
theorem pow_bd {k : Nat} (hk : k ≤ 6) : (1 : Int) ≤ 2 ^ k ∧ (2 : Int) ^ k ≤ 64 := by
  have : k = 0 ∨ k = 1 ∨ k = 2 ∨ k = 3 ∨ k = 4 ∨ k = 5 ∨ k = 6 := by omega
  rcases this with rfl | rfl | rfl | rfl | rfl | rfl | rfl <;> simp
theorem wtD_at {w t : Int} (ht : 0 ≤ t) {i : Nat} (h1 : (i : Int) ≤ t) (h2 : i ≤ 6) (h : ¬ ((i : Int) < t ∧ (i : Int) < 6)) : wtD w t = w * 2 ^ i := by
  unfold wtD
  have : min t.toNat 6 = i := by omega
  rw [this]
theorem step2 {w : Int} (h1 : 1 ≤ w) (h2 : w ≤ 1099511627776) {i : Nat} (hi : i < 6) : IntKind.i64.wrap (w * 2 ^ i * 2) = w * 2 ^ (i + 1) := by
  have e : w * 2 ^ i * 2 = w * 2 ^ (i + 1) := by rw [Int.pow_succ, Int.mul_assoc]
  obtain ⟨p1, p2⟩ := pow_bd (k := i + 1) (by omega)
  rw [e]
  have a1 : w * 2 ^ (i + 1) ≤ w * 64 := Int.mul_le_mul_of_nonneg_left p2 (by omega)
  have a2 : 0 ≤ w * 2 ^ (i + 1) := Int.mul_nonneg (by omega) (by omega)
  exact w_id (by omega) (by omega)
theorem k_dwaits : ∀ (args : List AV) (hp : Tr (AO O)) (nx : Nat) (K : AV → Tr (AO O) → Nat → Prop), c_dwaits args hp nx K → ACall I P 24 args hp (fun v hp' => ∃ nx', K v hp' nx') := by
  intro args hp nx K h
  unfold c_dwaits at h; split at h
  · rename_i n
    obtain ⟨⟨hnb, hfr⟩, ⟨m, w, q, t, ak, fr, g, l, c, xs, room, hg, hb, hg2, h1, h2, bd, hk⟩ | ⟨m, w, q, t, ak, fr, hg, hb, bd, hk⟩⟩ := isD_spec h
    · obtain ⟨hu, _⟩ := both_iff hb
      refine hcallG mix Gm.nil (fn := Try.f24) (by kernel_rfl) (by kernel_rfl) (by kernel_rfl) [n, g] [dO m w q (.sl 1 0 l c) t ak fr, nO xs room] [.ptr 0 0] rfl hu rfl ⟨hg, hg2, trivial⟩ rfl rfl (fun hr ho => (t_dwaits I _ m w q t fr ak l c room xs).mpr ?_)
      refine ALoop.invg (ps := []) (ts := [0, 3, 4]) (nx := 2) (fun i : Nat => j_dw m w q t fr ak l c room xs (w * 2 ^ i) (i : Nat)) (fun i => (i : Int) ≤ t ∧ i ≤ 6) (fun i => 6 - i) ?_ (by kernel_rfl) 0 (by
        show _ = j_dw m w q t fr ak l c room xs (w * 2 ^ 0) ((0 : Nat) : Int)
        rw [Int.pow_zero, Int.mul_one]; rfl) ⟨bd.t0, Nat.zero_le _⟩
      rintro i ⟨g1, g2⟩
      have out : ¬ ((i : Int) < t ∧ (i : Int) < 6) → AllBack hp [n, g] K (.int .i64 (w * 2 ^ i)) (Tr.ofList 0 [dO m w q (.sl 1 0 l c) t ak fr, nO xs room] .leaf) := fun hx => by
        rw [← wtD_at bd.t0 g1 g2 hx]
        exact ⟨[], nx, hu, trivial, rfl, rfl, hk⟩
      refine (t_dwaitsR I _ _ m w q t fr ak l c room xs (w * 2 ^ i) (i : Nat)).mpr (bsplit_both (fun hx => bsplit_both (fun hy => ?_) (fun hy => out ?_)) (fun hx => out ?_))
      · have hx := of_decide_eq_true hx
        have hy := of_decide_eq_true hy
        refine ⟨i + 1, ⟨by omega, by omega⟩, by omega, ?_⟩
        rw [step2 bd.w0 bd.w1 (by omega), w_id (n := (i : Int) + 1) (by omega) (by omega)]; rfl
      · have hy := of_decide_eq_false hy; omega
      · have hx := of_decide_eq_false hx; omega
    · refine hcallG mix Gm.nil (fn := Try.f24) (by kernel_rfl) (by kernel_rfl) (by kernel_rfl) [n] [dO m w q .nils t ak fr] [.ptr 0 0] rfl (uniq1 hb) rfl ⟨hg, trivial⟩ rfl rfl (fun hr ho => (t_dwaits0 I _ m w q t fr ak).mpr ?_)
      refine ALoop.invg (ps := []) (ts := [0, 3, 4]) (nx := 1) (fun i : Nat => j_dw0 m w q t fr ak (w * 2 ^ i) (i : Nat)) (fun i => (i : Int) ≤ t ∧ i ≤ 6) (fun i => 6 - i) ?_ (by kernel_rfl) 0 (by
        show _ = j_dw0 m w q t fr ak (w * 2 ^ 0) ((0 : Nat) : Int)
        rw [Int.pow_zero, Int.mul_one]; rfl) ⟨bd.t0, Nat.zero_le _⟩
      rintro i ⟨g1, g2⟩
      have out : ¬ ((i : Int) < t ∧ (i : Int) < 6) → AllBack hp [n] K (.int .i64 (w * 2 ^ i)) (Tr.ofList 0 [dO m w q .nils t ak fr] .leaf) := fun hx => by
        rw [← wtD_at bd.t0 g1 g2 hx]
        exact ⟨[], nx, uniq1 hb, trivial, rfl, rfl, hk⟩
      refine (t_dwaits0R I _ _ m w q t fr ak (w * 2 ^ i) (i : Nat)).mpr (bsplit_both (fun hx => bsplit_both (fun hy => ?_) (fun hy => out ?_)) (fun hx => out ?_))
      · have hx := of_decide_eq_true hx
        have hy := of_decide_eq_true hy
        refine ⟨i + 1, ⟨by omega, by omega⟩, by omega, ?_⟩
        rw [step2 bd.w0 bd.w1 (by omega), w_id (n := (i : Int) + 1) (by omega) (by omega)]; rfl
      · have hy := of_decide_eq_false hy; omega
      · have hx := of_decide_eq_false hx; omega
  · exact h.elim
theorem place_hit {id : Int} {L : List Rw} {i : Nat} (hi : i < L.length) (h : (L[i]).i 0 = id) (hb : ∀ j, (hj : j < i) → (L[j]'(by omega)).i 0 ≠ id) : placeD id L = i := by
  unfold placeD
  have : L.findIdx? (fun x => x.i 0 == id) = some i := List.findIdx?_eq_some_iff_getElem.2 ⟨hi, by simpa using h, fun j hj => by simpa using hb j hj⟩
  rw [this]
theorem place_none {id : Int} {L : List Rw} (hb : ∀ x ∈ L, x.i 0 ≠ id) : placeD id L = -1 := by
  unfold placeD
  have : L.findIdx? (fun x => x.i 0 == id) = none := List.findIdx?_eq_none_iff.2 fun x hx => by simpa using hb x hx
  rw [this]
theorem k_dplace : ∀ (args : List AV) (hp : Tr (AO O)) (nx : Nat) (K : AV → Tr (AO O) → Nat → Prop), c_dplace args hp nx K → ACall I P 25 args hp (fun v hp' => ∃ nx', K v hp' nx') := by
  intro args hp nx K h
  unfold c_dplace at h; split at h
  · rename_i n id
    obtain ⟨⟨hnb, hfr⟩, ⟨m, w, q, t, ak, fr, g, l, c, xs, room, hg, hb, hg2, h1, h2, bd, hk⟩ | ⟨m, w, q, t, ak, fr, hg, hb, bd, hk⟩⟩ := isD_spec h
    · obtain ⟨hu, _⟩ := both_iff hb
      refine hcallG mix Gm.nil (fn := Try.f25) (by kernel_rfl) (by kernel_rfl) (by kernel_rfl) [n, g] [dO m w q (.sl 1 0 l c) t ak fr, nO xs room] [.ptr 0 0, .int .i64 id] rfl hu rfl ⟨hg, hg2, trivial⟩ rfl rfl (fun hr ho => (t_dplace I _ m w q t fr ak l c room xs id).mpr ?_)
      have hlen : (xs.take l).length = l := by simp; omega
      refine ALoop.invg (ps := []) (ts := [0, 1, 5]) (nx := 2) (fun i : Nat => j_dp m w q t fr ak l c room xs id (i : Nat)) (fun i => i ≤ l ∧ ∀ j, (h : j < i) → (hx : j < xs.length) → (xs[j]).i 0 ≠ id) (fun i => l - i) ?_ (by kernel_rfl) 0 (by kernel_rfl) ⟨Nat.zero_le _, fun j h => absurd h (Nat.not_lt_zero _)⟩
      rintro i ⟨g1, g2⟩
      have out : ∀ e, placeD id (xs.take l) = e → AllBack hp [n, g] K (.int .i64 e) (Tr.ofList 0 [dO m w q (.sl 1 0 l c) t ak fr, nO xs room] .leaf) := fun e he => by
        subst he
        exact ⟨[], nx, hu, trivial, rfl, rfl, hk⟩
      refine (t_dplaceR I _ _ m w q t fr ak l c room xs id (i : Nat)).mpr (bsplit_both (fun hx => ?_) (fun hx => out _ ?_))
      · have hx := of_decide_eq_true hx
        refine must_mk (decide_eq_true ⟨by omega, hx⟩) (xget_mk (by rw [Int.toNat_natCast]; exact List.getElem?_eq_getElem (show i < xs.length by omega)) (bsplit_both (fun hy => out _ ?_) (fun hy => ⟨i + 1, ⟨by omega, fun j hj hq => ?_⟩, by omega, ?_⟩)))
        · exact place_hit (by omega) (by rw [List.getElem_take]; exact eq_of_beq hy) (fun j hj => by rw [List.getElem_take]; exact g2 j hj (by omega))
        · by_cases e : j = i
          · subst e; exact ne_of_beq_false hy
          · exact g2 j (by omega) hq
        · rw [w_id (n := (i : Int) + 1) (by omega) (by omega)]; rfl
      · have hx := of_decide_eq_false hx
        refine place_none fun x hx' => ?_
        obtain ⟨j, hj, rfl⟩ := List.getElem_of_mem hx'
        rw [List.getElem_take]
        exact g2 j (by omega) (by omega)
    · refine hcallG mix Gm.nil (fn := Try.f25) (by kernel_rfl) (by kernel_rfl) (by kernel_rfl) [n] [dO m w q .nils t ak fr] [.ptr 0 0, .int .i64 id] rfl (uniq1 hb) rfl ⟨hg, trivial⟩ rfl rfl (fun hr ho => (t_dplace0 I _ m w q t fr ak id).mpr ?_)
      refine ALoop.start [] [0, 1, 5] 1 (j_dp0 m w q t fr ak id 0) (by kernel_rfl) (by kernel_rfl) ?_
      refine ALoop.stepg [] [0, 1, 5] 1 ?_
      refine (t_dplace0R I _ _ m w q t fr ak id 0).mpr (bs_f (by decide) ?_)
      exact ⟨[], nx, uniq1 hb, trivial, rfl, rfl, hk⟩
  · exact h.elim
theorem gD1 : GOk I P (Gm D1) := Gm.consH (Gm.consH Gm.nil k_dplace) k_dwaits
theorem rg_int2 {n : Int} {l : List AV} {v : AV} (h : rgs (v :: .int .i64 n :: l) = true) : -9223372036854775808 ≤ n ∧ n ≤ 9223372036854775807 := by
  simp only [rgs, rg, Bool.and_eq_true] at h
  simpa [inK_iff, loK, hiK] using h.2.1
theorem k_dmay : ∀ (args : List AV) (hp : Tr (AO O)) (nx : Nat) (K : AV → Tr (AO O) → Nat → Prop), c_dmay args hp nx K → ACall I P 13 args hp (fun v hp' => ∃ nx', K v hp' nx') := by
  intro args hp nx K h
  unfold c_dmay at h; split at h
  · rename_i n now
    obtain ⟨⟨hnb, hfr⟩, ⟨m, w, q, t, ak, fr, g, l, c, xs, room, hg, hb, hg2, h1, h2, bd, hk⟩ | ⟨m, w, q, t, ak, fr, hg, hb, bd, hk⟩⟩ := isD_spec h
    · obtain ⟨hu, _⟩ := both_iff hb
      refine hcallG mix gD1 (fn := Try.f13) (by kernel_rfl) (by kernel_rfl) (by kernel_rfl) [n, g] [dO m w q (.sl 1 0 l c) t ak fr, nO xs room] [.ptr 0 0, .int .i64 now] rfl hu rfl ⟨hg, hg2, trivial⟩ rfl rfl (fun hr ho => (t_dmay I _ m w q t fr ak l c room xs now).mpr ?_)
      have hnow := rg_int2 hr
      obtain ⟨b1, b2⟩ := wtD_bd (t := t) bd.w0 bd.w1
      have hb' : l ≤ xs.length ∧ l ≤ 1000 ∧ 0 ≤ t ∧ t ≤ 1000 ∧ 1 ≤ w ∧ w ≤ 1099511627776 ∧ 1 ≤ m ∧ m ≤ 255 := ⟨h1, h2, bd.t0, bd.t1, bd.w0, bd.w1, bd.m0, bd.m1⟩
      have hw1 := bd.w1
      have out : ∀ e, mayD l q w t ak fr now = e → AllBack hp [n, g] K (.int .i64 e) (Tr.ofList 0 [dO m w q (.sl 1 0 l c) t ak fr, nO xs room] .leaf) := fun e he => by
        subst he
        exact ⟨[], nx, hu, trivial, rfl, rfl, hk⟩
      clear hk h
      have ovf : now > 0 → (IntKind.i64.wrap (now + wtD w t) < 0 ↔ now > 9223372036854775807 - wtD w t) := fun hp => by rw [w_i64]; omega
      have fin : ((l : Int) < q) → ¬ (ak = true ∧ now < fr) → ∀ (b : Bool), b = decide (now > 9223372036854775807 - wtD w t) → mayD l q w t ak fr now = if b = true then 6 else 0 := fun ha hn b hbb => by
        subst hbb
        unfold mayD mayE
        rw [decide_eq_false (by omega), if_neg (by decide), if_neg hn]
        simp
      unfold mayD at out fin
      constructor <;> refine bsplit_both (fun a1 => out 4 (by unfold mayE; rw [if_pos a1])) (fun a1 => ?_) <;> have a1' := of_decide_eq_false a1 <;>
        refine bsplit_both (fun a2 => bsplit_both (fun a3 => out 15 (by unfold mayE; rw [a1, if_neg (by decide), if_pos ⟨a2, of_decide_eq_true a3⟩])) (fun a3 => ?_)) (fun a2 => ?_)
      all_goals
        have hn : ¬ (ak = true ∧ now < fr) := by
          intro hx
          first
            | exact of_decide_eq_false a3 hx.2
            | (rw [a2] at hx; exact absurd hx.1 (by decide))
        refine bsplit_both (fun a4 => ⟨hb', bsplit_both (fun a5 => out 6 ?_) (fun a5 => out 0 ?_)⟩) (fun a4 => out 0 ?_)
        · exact fin (by omega) hn true (by rw [decide_eq_true ((ovf (of_decide_eq_true a4)).1 (of_decide_eq_true a5))])
        · exact fin (by omega) hn false (by rw [decide_eq_false (fun hh => of_decide_eq_false a5 ((ovf (of_decide_eq_true a4)).2 hh))])
        · have := of_decide_eq_false a4
          exact fin (by omega) hn false (by rw [decide_eq_false (by omega)])
    · refine hcallG mix gD1 (fn := Try.f13) (by kernel_rfl) (by kernel_rfl) (by kernel_rfl) [n] [dO m w q .nils t ak fr] [.ptr 0 0, .int .i64 now] rfl (uniq1 hb) rfl ⟨hg, trivial⟩ rfl rfl (fun hr ho => (t_dmay0 I _ m w q t fr ak now).mpr ?_)
      have hnow := rg_int2 hr
      obtain ⟨b1, b2⟩ := wtD_bd (t := t) bd.w0 bd.w1
      have hb' : 0 ≤ t ∧ t ≤ 1000 ∧ 1 ≤ w ∧ w ≤ 1099511627776 ∧ 1 ≤ m ∧ m ≤ 255 := ⟨bd.t0, bd.t1, bd.w0, bd.w1, bd.m0, bd.m1⟩
      have hw1 := bd.w1
      have out : ∀ e, mayE (decide ((0 : Int) ≥ q)) (wtD w t) fr ak now = e → AllBack hp [n] K (.int .i64 e) (Tr.ofList 0 [dO m w q .nils t ak fr] .leaf) := fun e he => by
        have he : mayD 0 q w t ak fr now = e := he
        subst he
        exact ⟨[], nx, uniq1 hb, trivial, rfl, rfl, hk⟩
      clear hk h
      have ovf : now > 0 → (IntKind.i64.wrap (now + wtD w t) < 0 ↔ now > 9223372036854775807 - wtD w t) := fun hp => by rw [w_i64]; omega
      have fin : ((0 : Int) < q) → ¬ (ak = true ∧ now < fr) → ∀ (b : Bool), b = decide (now > 9223372036854775807 - wtD w t) → mayE (decide ((0 : Int) ≥ q)) (wtD w t) fr ak now = if b = true then 6 else 0 := fun ha hn b hbb => by
        subst hbb
        unfold mayE
        rw [decide_eq_false (by omega), if_neg (by decide), if_neg hn]
        simp
      constructor <;> refine bsplit_both (fun a1 => out 4 (by unfold mayE; rw [if_pos a1])) (fun a1 => ?_) <;> have a1' := of_decide_eq_false a1 <;>
        refine bsplit_both (fun a2 => bsplit_both (fun a3 => out 15 (by unfold mayE; rw [a1, if_neg (by decide), if_pos ⟨a2, of_decide_eq_true a3⟩])) (fun a3 => ?_)) (fun a2 => ?_)
      all_goals
        have hn : ¬ (ak = true ∧ now < fr) := by
          intro hx
          first
            | exact of_decide_eq_false a3 hx.2
            | (rw [a2] at hx; exact absurd hx.1 (by decide))
        refine bsplit_both (fun a4 => ⟨hb', bsplit_both (fun a5 => out 6 ?_) (fun a5 => out 0 ?_)⟩) (fun a4 => out 0 ?_)
        · exact fin (by omega) hn true (by rw [decide_eq_true ((ovf (of_decide_eq_true a4)).1 (of_decide_eq_true a5))])
        · exact fin (by omega) hn false (by rw [decide_eq_false (fun hh => of_decide_eq_false a5 ((ovf (of_decide_eq_true a4)).2 hh))])
        · have := of_decide_eq_false a4
          exact fin (by omega) hn false (by rw [decide_eq_false (by omega)])
  · exact h.elim
theorem gD2 : GOk I P (Gm D2) := Gm.consH gD1 k_dmay
end Go.Tb.W
