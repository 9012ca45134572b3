/- Queues: what comes up to a moment. -/
import Derived.Test.YtcabackgkjhmeaaQF
import Derived.Test.YtcabackgkjhmeaaQG
set_option linter.all false
set_option maxRecDepth 100000
namespace Go.Tb.W
open Go Go.Proofs
theorem lohi_app {t : Int} {a b : List Rw} (ha : ∀ x ∈ a, x.i 0 ≤ t) (hb : ∀ x ∈ b, t < x.i 0) : lo t (a ++ b) = a ∧ hi t (a ++ b) = b := by
  unfold lo hi
  rw [List.filter_append, List.filter_append]
  have h1 : a.filter (fun x => decide (x.i 0 ≤ t)) = a := List.filter_eq_self.2 fun x hx => by simpa using ha x hx
  have h2 : b.filter (fun x => decide (x.i 0 ≤ t)) = [] := List.filter_eq_nil_iff.2 fun x hx => by have := hb x hx; simp; omega
  have h3 : a.filter (fun x => !decide (x.i 0 ≤ t)) = [] := List.filter_eq_nil_iff.2 fun x hx => by have := ha x hx; simp; omega
  have h4 : b.filter (fun x => !decide (x.i 0 ≤ t)) = b := List.filter_eq_self.2 fun x hx => by have := hb x hx; simp; omega
  rw [h1, h2, h3, h4]; simp
theorem so_gt {t : Int} {x : Rw} {l : List Rw} (h : so (x :: l)) (hx : t < x.i 0) : ∀ y ∈ x :: l, t < y.i 0 := fun y hy => by
  rcases List.mem_cons.1 hy with rfl | hy
  · exact hx
  · have := less_iff.1 ((List.pairwise_cons.1 h.1).1 y hy); omega
theorem so_tail {x : Rw} {l : List Rw} (h : so (x :: l)) : so l := ⟨(List.pairwise_cons.1 h.1).2, by have := h.2; simp at this; omega⟩
variable {I : Interp O}
theorem until_loop {l : List Rw} {sq t : Int} {K : AV → Tr (AO O) → Nat → Prop}
    (h1 : so l → lo t l = [] → K .nils (.node .leaf (some (.own (.q l sq))) .leaf) 1)
    (h2 : so l → 0 < (lo t l).length → ∀ c room, K (.sl 1 0 (lo t l).length c) (.node (.node .leaf (some (iO ((lo t l).map it) room)) .leaf) (some (.own (.q (hi t l) sq))) .leaf) 2) :
    ALoop I 1 (cd Try.f15 [true, true, false, false]) (acode I P (Gm B0) (adraw P (Gm B0)) 1 (cd Try.f15 [true, true, false, false])) (ablock 0 (kret P Try.f15 (K))) (j_untA l sq t) := by
  refine ALoop.stepg [(3, 1)] [0, 1, 5] 2 ?_
  refine (t_untilA I _ _ l sq t).mpr ⟨fun e => ?_, fun x0 t1 e hso => bsplit_both (fun hx => ?_) (fun hx => ⟨fun e => by simp at e, fun x3 t4 e3 hs3 => ⟨by omega, fun c' q1 q2 => ?_⟩⟩)⟩
  · subst e; exact h1 ⟨.nil, by simp⟩ rfl
  · subst e
    have hx : t < x0.i 0 := of_decide_eq_true hx
    exact h1 hso (lohi_app (a := []) (b := x0 :: t1) (fun _ h => by simp at h) (so_gt hso hx)).1
  · cases e3
    have hx : x0.i 0 ≤ t := by have := of_decide_eq_false hx; omega
    have h2 := h2 (by rw [e]; exact hso)
    have hll : l.length ≤ 1000 := by rw [e]; exact hso.2
    clear h1
    refine ALoop.invj (ps := [(4, 1)]) (ts := [0, 1, 5]) (nx := 2) (fun x : List Rw × List Rw × Nat × Nat => j_untB x.2.1 sq t x.1.length x.2.2.1 (x.1.map it) x.2.2.2) (fun x => (l = x.1 ++ x.2.1 ∧ x.1 ≠ [] ∧ ∀ y ∈ x.1, y.i 0 ≤ t) ∧ x.2.2.1 * 3 ≤ x.2.2.2) (fun x => x.2.1.length) ?_ ([x0], t1, c', c' * 3) ⟨⟨e, by simp, fun y hy => by simp at hy; subst hy; exact hx⟩, Nat.le_refl _⟩
    rintro ⟨pre, rest, c, room⟩ ⟨⟨g1, g2, g3⟩, g4⟩
    simp only at g1 g2 g3 g4 ⊢
    have hlen : 0 < pre.length := List.length_pos_iff.2 g2
    have done : (∀ y ∈ rest, t < y.i 0) → K (.sl 1 0 pre.length c) (.node (.node .leaf (some (iO (pre.map it) room)) .leaf) (some (.own (.q rest sq))) .leaf) 2 := fun hr => by
      obtain ⟨e1, e2⟩ := lohi_app g3 hr
      rw [← g1] at e1 e2
      have := h2 (by rw [e1]; exact hlen) c room
      rw [e1, e2] at this
      exact this
    have hpl : pre.length + rest.length ≤ 1000 := by rw [← List.length_append, ← g1]; exact hll
    have hm : (pre.length.ble (pre.map it).length && (c * [Sh.i IntKind.i64, Sh.i IntKind.i64, Sh.s].length).ble room && Nat.blt 1 16777215) = true := by
      simp [Nat.ble_eq]; exact g4
    refine (t_untilB I _ _ rest sq t pre.length c (pre.map it) room).mpr ⟨fun e => ?_, fun y0 u1 e hso => bsplit_both (fun hy => ?_) (fun hy => ⟨fun e => by simp at e, fun x3 t4 e3 hs3 => must_mk hm ⟨by omega, fun c2 q3 q4 => ?_⟩⟩)⟩
    · subst e; exact done fun y hy => by simp at hy
    · subst e
      exact done (so_gt hso (of_decide_eq_true hy))
    · cases e3
      have hy : y0.i 0 ≤ t := by have := of_decide_eq_false hy; omega
      refine ⟨(pre ++ [y0], u1, c2, c2 * 3), ⟨⟨by rw [g1, e]; simp, by simp, fun y hq => ?_⟩, Nat.le_refl _⟩, by show u1.length < rest.length; rw [e]; simp, ?_⟩
      · rcases List.mem_append.1 hq with hq | hq
        · exact g3 y hq
        · simp at hq; subst hq; exact hy
      · have e1 : (pre.map it).take pre.length = pre.map it := List.take_of_length_le (by simp)
        have e2 : (pre ++ [y0]).length = pre.length + 1 := by simp
        have e3 : (pre ++ [y0]).map it = pre.map it ++ [it y0] := by simp
        simp only [e1, e2, e3]
        rfl
variable (hI : I.R = pk.R)
include hI
theorem k_quntil : ∀ (args : List AV) (hp : Tr (AO O)) (nx : Nat) (K : AV → Tr (AO O) → Nat → Prop), c_quntil args hp nx K → ACall I P 15 args hp (fun v hp' => ∃ nx', K v hp' nx') := by
  intro args hp nx K h
  unfold c_quntil at h; split at h
  · rename_i n t
    unfold isQ at h
    split at h
    · rename_i l sq hb hg
      split at h
      · rename_i hnb hfr
        obtain ⟨h1, h2⟩ := h
        unfold asQ at hg
        split at hg
        · rename_i o l' sq' hgo
          cases hg
          refine hcallG mix (gB0 hI) (fn := Try.f15) (by kernel_rfl) (by kernel_rfl) (by kernel_rfl) [n] [.own (.q l sq)] [.ptr 0 0, .int .i64 t] rfl (uniq1 hb) rfl ⟨hgo, trivial⟩ rfl rfl (fun hr ho => (t_until I _ l sq t).mpr ?_)
          refine ALoop.start [] [0, 1, 5] 1 (j_untA l sq t) (by kernel_rfl) (by kernel_rfl) ?_
          exact until_loop (fun hs he => ⟨[], nx, uniq1 hb, trivial, rfl, rfl, h1 hs he⟩) (fun hs he c room => ⟨[(1, nx)], nx + 1, uniq2n (uniq1 hb) hfr hnb (by rw [hgo]; simp) rfl, ⟨hfr, trivial⟩, rfl, rfl, h2 hs he c room⟩)
        · rename_i o sq' hgo
          cases hg
          refine hcallG mix (gB0 hI) (fn := Try.f15) (by kernel_rfl) (by kernel_rfl) (by kernel_rfl) [n] [qO .nils sq] [.ptr 0 0, .int .i64 t] rfl (uniq1 hb) rfl ⟨hgo, trivial⟩ rfl rfl (fun hr ho => (t_until0 I _ sq t).mpr ?_)
          refine ALoop.weak (Weak.asOwn (p := pk) hI (n := 0) (s := .q [] sq) rfl rfl rfl) ?_
          refine ALoop.start [] [0, 1, 5] 1 (j_untA [] sq t) (by kernel_rfl) (by kernel_rfl) ?_
          exact until_loop (fun hs he => ⟨[], nx, uniq1 hb, trivial, rfl, rfl, h1 hs he⟩) (fun hs he c room => by simp [lo] at he)
        · cases hg
      · exact h.elim
    · exact h.elim
  · exact h.elim
theorem gB1 : GOk I P (Gm B1) := Gm.consH (gB0 hI) (k_quntil hI)
end Go.Tb.W
