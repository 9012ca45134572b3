/- Texts of this proof, run together. -/
import Derived.Test.YtnljoapmieepeaaRkZ4
import Derived.Test.YtnljoapmieepeaaRkZ0
import Derived.Test.YtnljoapmieepeaaM17
/- Claims: what is agreed on, counted; plain law. -/
set_option linter.all false
set_option maxRecDepth 100000
namespace Go.Tb.W
open Go Go.Proofs
/-- What has come up to a place. -/
def wS (l : List (Int × Int)) (x : Int) : Int := ((l.filter (fun p => decide (p.1 ≤ x))).map (·.2)).sum
theorem wS_app (a b : List (Int × Int)) (x : Int) : wS (a ++ b) x = wS a x + wS b x := by
  unfold wS; rw [List.filter_append, List.map_append, List.sum_append]
theorem wS_one (p : Int × Int) (x : Int) : wS [p] x = if p.1 ≤ x then p.2 else 0 := by
  unfold wS
  by_cases h : p.1 ≤ x <;> simp [h]
theorem wS_perm {a b : List (Int × Int)} (h : a.Perm b) (x : Int) : wS a x = wS b x := by
  unfold wS
  exact perm_sum ((h.filter _).map _)
theorem wS_put (out : List (Int × Int)) (p : Int × Int) (x : Int) : wS (putE out p) x = wS out x + wS [p] x := by
  unfold putE
  cases hl : out.getLast? with
  | none =>
    have ho : out = [] := List.getLast?_eq_none_iff.1 hl
    subst ho
    simp [wS]
  | some y =>
    have hs := last_split hl
    simp only
    by_cases he : y.1 = p.1
    · rw [if_pos he]
      have e : wS out x = wS out.dropLast x + wS [y] x := by
        rw [← wS_app, ← hs]
      rw [wS_app, e, wS_one, wS_one, wS_one]
      simp only [he]
      split <;> omega
    · rw [if_neg he, wS_app]
theorem wS_joinR (x : Int) : ∀ r : List (Int × Int), wS (joinE r.reverse) x = wS r.reverse x
  | [] => rfl
  | p :: r => by rw [List.reverse_cons, join_snoc, wS_put, wS_joinR x r, wS_app]
theorem wS_join (l : List (Int × Int)) (x : Int) : wS (joinE l) x = wS l x := by
  have := wS_joinR x l.reverse
  rwa [List.reverse_reverse] at this
/-- A place's votes. -/
def vS (es : List (Rw × Nat)) (x : Int) : Int := ((es.filter (fun e => decide (e.1.i 2 ≤ x) && decide (x ≤ e.1.i 3))).length : Nat)
theorem vS_cons (e : Rw × Nat) (es : List (Rw × Nat)) (x : Int) : vS (e :: es) x = (if e.1.i 2 ≤ x ∧ x ≤ e.1.i 3 then 1 else 0) + vS es x := by
  unfold vS
  by_cases h : e.1.i 2 ≤ x ∧ x ≤ e.1.i 3
  · rw [if_pos h, List.filter_cons_of_pos (by simp [h]), List.length_cons]; omega
  · rw [if_neg h, List.filter_cons_of_neg (by simpa using h)]; omega
theorem wS_raw (x : Int) : ∀ {es : List (Rw × Nat)}, (∀ e ∈ es, e.1.i 2 ≤ e.1.i 3) → wS (rawE es) x = vS es x
  | [], _ => rfl
  | e :: es, h => by
    have ih := wS_raw x (es := es) (fun e he => h e (List.mem_cons_of_mem _ he))
    have hb := h e (List.mem_cons_self ..)
    have e1 : rawE (e :: es) = [(e.1.i 2, 1)] ++ ([(e.1.i 3 + 1, -1)] ++ rawE es) := rfl
    rw [e1, wS_app, wS_app, ih, wS_one, wS_one, vS_cons]
    simp only
    by_cases h1 : e.1.i 2 ≤ x
    · by_cases h2 : x ≤ e.1.i 3
      · rw [if_pos h1, if_neg (by omega), if_pos ⟨h1, h2⟩]; omega
      · rw [if_pos h1, if_pos (by omega), if_neg (by omega)]; omega
    · rw [if_neg h1, if_neg (by omega), if_neg (by omega)]; omega
theorem wS_edge {es : List (Rw × Nat)} (h : ∀ e ∈ es, e.1.i 2 ≤ e.1.i 3) (x : Int) : wS (edgeF es) x = vS es x := by
  show wS (joinE (srtP (rawE es))) x = _
  rw [wS_join, wS_perm (srtP_perm _), wS_raw x h]
/-- The counting, so far. -/
structure Sw (L : List (Int × Int)) (s : Ag) : Prop where
  nw : ∀ x, (∀ p ∈ L, p.1 ≤ x) → wS L x = s.nw
  mx : ∀ x, wS L x ≤ s.vo
  v0 : 0 ≤ s.vo
  lo : 0 < s.vo → (∃ p ∈ L, p.1 = s.lo) ∧ ∀ x, x < s.lo → wS L x < s.vo
  op : s.op = true → 0 < s.vo ∧ s.nw = s.vo ∧ ∀ x, s.lo ≤ x → wS L x = s.vo
  cl : s.op = false → 0 < s.vo → (∃ p ∈ L, p.1 = s.hi + 1) ∧ s.lo ≤ s.hi ∧ (∀ x, s.lo ≤ x → x ≤ s.hi → wS L x = s.vo) ∧ wS L (s.hi + 1) ≠ s.vo
theorem Sw.nil : Sw [] ⟨0, 0, 0, 0, false⟩ := ⟨fun _ _ => rfl, fun _ => by simp [wS], Int.le_refl _, fun h => absurd h (by decide), fun h => (by cases h), fun _ h => absurd h (by decide)⟩
theorem Sw.step {L : List (Int × Int)} {s : Ag} (h : Sw L s) {p : Int × Int} (hp : ∀ q ∈ L, q.1 < p.1) : Sw (L ++ [p]) (agS s p) := by
  have w : ∀ x, wS (L ++ [p]) x = if p.1 ≤ x then s.nw + p.2 else wS L x := fun x => by
    rw [wS_app, wS_one]
    by_cases c : p.1 ≤ x
    · rw [if_pos c, if_pos c, h.nw x (fun q hq => by have := hp q hq; omega)]
    · rw [if_neg c, if_neg c]; omega
  have nwv : s.nw ≤ s.vo := by
    have := h.mx (p.1)
    rwa [h.nw p.1 (fun q hq => by have := hp q hq; omega)] at this
  have top : ∀ x, (∀ q ∈ L ++ [p], q.1 ≤ x) → p.1 ≤ x := fun x hx => hx p (by simp)
  have inL : ∀ {z}, (∃ q ∈ L, q.1 = z) → (∃ q ∈ L ++ [p], q.1 = z) ∧ z < p.1 := fun {z} ⟨q, hq, e⟩ => ⟨⟨q, List.mem_append_left _ hq, e⟩, by have := hp q hq; omega⟩
  have v0 := h.v0
  rcases agS_cases s p with ⟨h0, e⟩ | ⟨h0, h1, e⟩ | ⟨h0, h1, h2, e⟩ | ⟨h0, h1, h2, e⟩ <;> rw [e]
  · refine ⟨fun x hx => by rw [w, if_pos (top x hx)], fun x => ?_, v0, fun hv => ?_, fun ho => ?_, fun ho hv => ?_⟩
    · rw [w]
      split
      · show s.nw + p.2 ≤ s.vo; omega
      · exact h.mx x
    · obtain ⟨l1, l2⟩ := h.lo hv
      obtain ⟨m1, m2⟩ := inL l1
      refine ⟨m1, fun x hx => ?_⟩
      have hx : x < s.lo := hx
      rw [w, if_neg (by omega)]; exact l2 x hx
    · obtain ⟨o1, o2, o3⟩ := h.op ho
      refine ⟨o1, by show s.nw + p.2 = s.vo; omega, fun x hx => ?_⟩
      rw [w]
      split
      · show s.nw + p.2 = s.vo; omega
      · exact o3 x hx
    · obtain ⟨c1, c2, c3, c4⟩ := h.cl ho hv
      obtain ⟨m1, m2⟩ := inL c1
      refine ⟨m1, c2, fun x x1 x2 => ?_, ?_⟩
      · have x2 : x ≤ s.hi := x2
        rw [w, if_neg (by omega)]; exact c3 x x1 x2
      · show wS (L ++ [p]) (s.hi + 1) ≠ s.vo
        rw [w, if_neg (by omega)]; exact c4
  · refine ⟨fun x hx => by rw [w, if_pos (top x hx)], fun x => ?_, by show 0 ≤ s.nw + p.2; omega, fun hv => ⟨⟨p, by simp, rfl⟩, fun x hx => ?_⟩, fun ho => ⟨by show 0 < s.nw + p.2; omega, rfl, fun x hx => ?_⟩, fun ho => by cases ho⟩
    · show wS (L ++ [p]) x ≤ s.nw + p.2
      rw [w]
      split
      · exact Int.le_refl _
      · have := h.mx x; omega
    · have hx : x < p.1 := hx
      show wS (L ++ [p]) x < s.nw + p.2
      rw [w, if_neg (by omega)]
      have := h.mx x; omega
    · have hx : p.1 ≤ x := hx
      rw [w, if_pos hx]
  · obtain ⟨o1, o2, o3⟩ := h.op h2
    obtain ⟨l1, l2⟩ := h.lo o1
    obtain ⟨m1, m2⟩ := inL l1
    refine ⟨fun x hx => by rw [w, if_pos (top x hx)], fun x => ?_, v0, fun hv => ⟨m1, fun x hx => ?_⟩, fun ho => (by cases ho), fun _ hv => ⟨⟨p, by simp, by show p.1 = p.1 - 1 + 1; omega⟩, by show s.lo ≤ p.1 - 1; omega, fun x x1 x2 => ?_, ?_⟩⟩
    · show wS (L ++ [p]) x ≤ s.vo
      rw [w]
      split
      · omega
      · exact h.mx x
    · have hx : x < s.lo := hx
      rw [w, if_neg (by omega)]; exact l2 x hx
    · have x1 : s.lo ≤ x := x1
      have x2 : x ≤ p.1 - 1 := x2
      rw [w, if_neg (by omega)]; exact o3 x x1
    · show wS (L ++ [p]) (p.1 - 1 + 1) ≠ s.vo
      rw [w, if_pos (by omega)]; omega
  · refine ⟨fun x hx => by rw [w, if_pos (top x hx)], fun x => ?_, v0, fun hv => ?_, fun ho => ?_, fun ho hv => ?_⟩
    · show wS (L ++ [p]) x ≤ s.vo
      rw [w]
      split
      · omega
      · exact h.mx x
    · obtain ⟨l1, l2⟩ := h.lo hv
      obtain ⟨m1, m2⟩ := inL l1
      refine ⟨m1, fun x hx => ?_⟩
      have hx : x < s.lo := hx
      rw [w, if_neg (by omega)]; exact l2 x hx
    · have ho : s.op = true := ho
      rw [h2] at ho; cases ho
    · obtain ⟨c1, c2, c3, c4⟩ := h.cl ho hv
      obtain ⟨m1, m2⟩ := inL c1
      refine ⟨m1, c2, fun x x1 x2 => ?_, ?_⟩
      · have x2 : x ≤ s.hi := x2
        rw [w, if_neg (by omega)]; exact c3 x x1 x2
      · show wS (L ++ [p]) (s.hi + 1) ≠ s.vo
        rw [w, if_neg (by omega)]; exact c4
theorem Sw.allR : ∀ (r : List (Int × Int)), r.reverse.Pairwise (fun x y => x.1 < y.1) → Sw r.reverse (agF r.reverse)
  | [], _ => Sw.nil
  | p :: r, h => by
    rw [List.reverse_cons] at h ⊢
    obtain ⟨h1, _, h2⟩ := List.pairwise_append.1 h
    have e : agF (r.reverse ++ [p]) = agS (agF r.reverse) p := by unfold agF; rw [List.foldl_append]; rfl
    rw [e]
    exact (Sw.allR r h1).step fun q hq => h2 q hq p (by simp)
theorem Sw.all {l : List (Int × Int)} (h : l.Pairwise (fun x y => x.1 < y.1)) : Sw l (agF l) := by
  have := Sw.allR l.reverse
  rw [List.reverse_reverse] at this
  exact this h
theorem far_zero {es : List (Rw × Nat)} {x : Int} (h : ∀ e ∈ es, e.1.i 3 < x) : vS es x = 0 := by
  unfold vS
  rw [List.filter_eq_nil_iff.2 fun e he => by have := h e he; simp; intro _; omega]; rfl
theorem top_of (l : List (Int × Int)) : ∃ x : Int, ∀ p ∈ l, p.1 ≤ x := by
  induction l with
  | nil => exact ⟨0, fun p h => by cases h⟩
  | cons a l ih =>
    obtain ⟨x, hx⟩ := ih
    refine ⟨max a.1 x, fun p hp => ?_⟩
    rcases List.mem_cons.1 hp with rfl | hp
    · exact Int.le_max_left ..
    · exact Int.le_trans (hx p hp) (Int.le_max_right ..)
/-- What is agreed on: the most votes that there are, from the first place on. -/
theorem ag_fin {es : List (Rw × Nat)} (h : ∀ e ∈ es, e.1.i 2 ≤ e.1.i 3) {s : Ag} (hs : agF (edgeF es) = s) : (∀ x, vS es x ≤ s.vo) ∧ 0 ≤ s.vo ∧ (0 < s.vo → s.lo ≤ s.hi ∧ (∀ x, s.lo ≤ x → x ≤ s.hi → vS es x = s.vo) ∧ (∀ x, x < s.lo → vS es x < s.vo) ∧ vS es (s.hi + 1) ≠ s.vo) := by
  have sw : Sw (edgeF es) (agF (edgeF es)) := Sw.all (Jn.join (srtP_so (rawE es))).st
  rw [hs] at sw
  have w := wS_edge h
  obtain ⟨x1, hx1⟩ := top_of (edgeF es)
  obtain ⟨x2, hx2⟩ := top_of (es.map (fun e => (e.1.i 3, (0 : Int))))
  have n0 : s.nw = 0 := by
    rw [← sw.nw (max x1 (x2 + 1)) (fun p hp => Int.le_trans (hx1 p hp) (Int.le_max_left ..)), w, far_zero fun e he => ?_]
    have := hx2 (e.1.i 3, 0) (List.mem_map.2 ⟨e, he, rfl⟩)
    have h3 : x2 + 1 ≤ max x1 (x2 + 1) := Int.le_max_right ..
    have this : e.1.i 3 ≤ x2 := this
    omega
  refine ⟨fun x => by rw [← w]; exact sw.mx x, sw.v0, fun hv => ?_⟩
  have ho : s.op = false := by
    cases ho : s.op with
    | false => rfl
    | true => have := (sw.op ho).2.1; omega
  obtain ⟨c1, c2, c3, c4⟩ := sw.cl ho hv
  exact ⟨c2, fun x a b => by rw [← w]; exact c3 x a b, fun x hx => by rw [← w]; exact (sw.lo hv).2 x hx, by rw [← w]; exact c4⟩
end Go.Tb.W

/- Claims: the laws' loops: states. -/
set_option linter.all false
set_option maxRecDepth 100000
namespace Go.Tb.W
open Go Go.Proofs
noncomputable abbrev q_m0 (v e : Int) : St O := ⟨Tr.setL [(5, .int .i64 v), (6, .int .i64 e), (7, .nils), (24, .int .i64 0), (25, .int .i64 0)] .leaf, .leaf, 0, 60⟩
noncomputable abbrev q_mN (ob : Obj) (xs : List Rw) (v e : Int) : St O := ⟨Tr.setL [(5, .int .i64 v), (6, .int .i64 e), (7, .nils), (24, .int .i64 0), (25, .int .i64 0)] .leaf, Tr.setL [(0, oO ob xs)] .leaf, 1, 60⟩
noncomputable abbrev q_mR (ob : Obj) (xs : List Rw) (v e : Int) (ts : List Rw) (l c room : Nat) (i : Int) : St O := ⟨Tr.setL [(5, .int .i64 v), (6, .int .i64 e), (7, .sl 1 0 l c), (24, .int .i64 l), (25, .int .i64 i)] .leaf, Tr.setL [(0, oO ob xs), (1, nO ts room)] .leaf, 2, 60⟩
noncomputable abbrev q_s0 (a b k : Int) : St O := ⟨Tr.setL [(8, .int .i64 a), (9, .int .i64 b), (10, .int .i64 k), (11, .sl 0 0 0 0), (12, .int .i64 0)] .leaf, Tr.setL [(0, .cells 31 [] 0)] .leaf, 1, 81⟩
noncomputable abbrev q_sR (a b k : Int) (l c room : Nat) (xs : List Rw) (i : Int) : St O := ⟨Tr.setL [(8, .int .i64 a), (9, .int .i64 b), (10, .int .i64 k), (11, .sl 0 0 l c), (12, .int .i64 i)] .leaf, Tr.setL [(0, cO xs room)] .leaf, 1, 81⟩
abbrev wO2 (ob : Obj) (xs : List Rw) : AO O := .out ob [.i .u16, .i .u16] xs
abbrev bO2 (ob : Obj) (ws : List Rw) : AO O := .out ob [.b] ws
noncomputable abbrev q_r0 (off : Int) (n0 c0 n1 c1 : Nat) (q0 q1 : Bool) (ob0 ob1 : Obj) (xs ws : List Rw) : St O := ⟨Tr.setL [(0, .int .i64 off), (1, .slq 0 n0 c0 q0), (2, .slq 1 n1 c1 q1), (7, .sl 2 0 0 0), (8, .int .i64 0), (9, .int .i64 0)] .leaf, Tr.setL [(0, wO2 ob0 xs), (1, bO2 ob1 ws), (2, .cells 31 [] 0)] .leaf, 3, 161⟩
noncomputable abbrev q_rR (off : Int) (n0 c0 n1 c1 : Nat) (q0 q1 : Bool) (ob0 ob1 : Obj) (xs ws : List Rw) (l c room : Nat) (ys : List Rw) (r i : Int) : St O := ⟨Tr.setL [(0, .int .i64 off), (1, .slq 0 n0 c0 q0), (2, .slq 1 n1 c1 q1), (7, .sl 2 0 l c), (8, .int .i64 r), (9, .int .i64 i)] .leaf, Tr.setL [(0, wO2 ob0 xs), (1, bO2 ob1 ws), (2, cO ys room)] .leaf, 3, 161⟩
end Go.Tb.W

/- What the functions' bodies come to: each line is what the abstract machine makes of one function, or of one round of a loop, over the contracts of the functions that it calls (the text was printed by a program of mine; Lean proves it again). -/
set_option linter.all false
set_option maxRecDepth 100000
set_option maxHeartbeats 0
namespace Go.Tb
open Go Go.Proofs
namespace W
theorem t_lsame (I : Interp O) (K : AV → Prop) (a b n : Int) : abody I P (Gm B2) (adraw P (Gm B2)) 0 Try.f6 [.int .i64 a, .int .i64 b, .int .u8 n] .leaf 0 (fun v _ _ => K v) =
  (ALoop I 0 (cd Try.f6 [true, true, true, true, true, true, false, true, false, false]) (acode I P (Gm B2) (adraw P (Gm B2)) 0 (cd Try.f6 [true, true, true, true, true, true, false, true, false, false])) (ablock 0 (athen (cd Try.f6 [true, true, true, true, true, true, true]) (fun s => acode I P (Gm B2) (adraw P (Gm B2)) 0 (cd Try.f6 [true, true, true, true, true, true, true]) s (kret P Try.f6 (fun v x x_1 => K v))) (kret P Try.f6 (fun v x x_1 => K v)))) ⟨(.node (.node (.node (.node (.node (.node .leaf (some (.int IntKind.i64 (b.tmod 1152921504606846977))) .leaf) none .leaf) (some (.int IntKind.i64 (1152921504606846977 : Int))) (.node .leaf (some (.int IntKind.i64 (1152921504606846977 : Int))) .leaf)) none (.node (.node (.node .leaf (some (.int IntKind.i64 (IntKind.i64.wrap (n.tmod 64)))) .leaf) (some (.int IntKind.i64 (a))) .leaf) (some (.sl 0 0 0 0)) (.node .leaf (some (.int IntKind.i64 (1152921504606846977 : Int))) .leaf))) (some (.int IntKind.i64 (b))) (.node (.node (.node (.node .leaf (some (.int IntKind.u8 (n))) .leaf) (some (.bool true)) .leaf) (some (.int IntKind.i64 (if b.tmod 1152921504606846977 > a.tmod 1152921504606846977 then b.tmod 1152921504606846977 else a.tmod 1152921504606846977))) (.node .leaf (some (.int IntKind.i64 (if b.tmod 1152921504606846977 < a.tmod 1152921504606846977 then b.tmod 1152921504606846977 else a.tmod 1152921504606846977))) .leaf)) none (.node (.node (.node .leaf (some (.sl 0 0 0 0)) .leaf) (some (.int IntKind.i64 (a.tmod 1152921504606846977))) .leaf) none (.node .leaf (some (.int IntKind.i64 (b))) .leaf)))) (some (.int IntKind.i64 (a))) (.node (.node (.node (.node (.node .leaf (some (.int IntKind.i64 (if b.tmod 1152921504606846977 > a.tmod 1152921504606846977 then b.tmod 1152921504606846977 else a.tmod 1152921504606846977))) .leaf) none .leaf) (some (.int IntKind.i64 (if b.tmod 1152921504606846977 < a.tmod 1152921504606846977 then b.tmod 1152921504606846977 else a.tmod 1152921504606846977))) (.node .leaf (some (.int IntKind.i64 (b.tmod 1152921504606846977))) .leaf)) none (.node (.node (.node .leaf (some (.int IntKind.i64 (IntKind.i64.wrap (IntKind.i64.wrap (n.tmod 64) + 1)))) .leaf) (some (.int IntKind.i64 (1152921504606846977 : Int))) .leaf) (some (.int IntKind.i64 (0 : Int))) (.node .leaf (some (.int IntKind.i64 (a.tmod 1152921504606846977))) .leaf))) (some (.int IntKind.u8 (n))) (.node (.node (.node (.node .leaf (some (.int IntKind.u8 (n.tmod 64))) .leaf) (some (.bool false)) .leaf) (some (.int IntKind.i64 (IntKind.i64.wrap (IntKind.i64.wrap (n.tmod 64) + 1)))) (.node .leaf (some (.int IntKind.i64 (a))) .leaf)) (some (.bool false)) (.node (.node .leaf (some (.int IntKind.i64 (b))) .leaf) none (.node .leaf (some (.int IntKind.i64 (1152921504606846977 : Int))) .leaf))))), (.node .leaf (some (.cells 31 [] 0)) .leaf), 1, 81⟩) := by kernel_rfl
theorem t_lmany (I : Interp O) (K : AV → Tr (AO O) → Nat → Prop) (l c : Nat) (ob : Obj) (xs : List Rw) : abody I P (Gm B2) (adraw P (Gm B2)) 1 Try.f5 [.sl 0 0 l c] (Tr.ofList 0 [oO ob xs] .leaf) 1 K =
  (bsplit (decide ((↑l : Int) > 64)) fun | true => (K (.bool true) (.node .leaf (some (AO.out ob cS xs)) .leaf) 1) | false => ((l ≤ xs.length) ∧ (((List.take l xs).length ≤ (1000 : Nat)) ∧ ((l ≤ xs.length) ∧ (((List.take l xs).length ≤ (1000 : Nat)) ∧ ((agE (List.take l xs) ≠ 0 → (ALoop I 1 (cd Try.f5 [true, true, true, true, true, false, true, false, false]) (acode I P (Gm B2) (adraw P (Gm B2)) 1 (cd Try.f5 [true, true, true, true, true, false, true, false, false])) (ablock 0 (athen (cd Try.f5 [true, true, true, true, true, true]) (fun s => acode I P (Gm B2) (adraw P (Gm B2)) 1 (cd Try.f5 [true, true, true, true, true, true]) s (kret P Try.f5 (K))) (kret P Try.f5 (K)))) ⟨(.node (.node (.node (.node (.node .leaf (some (.sl 0 0 (l) (c))) .leaf) (some .nils) (.node .leaf (some .nils) .leaf)) (some (.int IntKind.i64 (agLo (List.take l xs)))) (.node (.node .leaf (some (.int IntKind.i64 (agVo (List.take l xs)))) .leaf) (some (.sl 0 0 (l) (c))) .leaf)) none (.node (.node (.node .leaf (some (.int IntKind.i64 (agLo (List.take l xs)))) .leaf) (some (.bool true)) (.node .leaf (some (.int IntKind.i64 (0 : Int))) .leaf)) (some (.int IntKind.i64 (agVo (List.take l xs)))) (.node (.node .leaf (some (.sl 0 0 (l) (c))) .leaf) (some (.bool false)) .leaf))) (some (.sl 0 0 (l) (c))) (.node (.node (.node (.node .leaf (some (.tup [(.int IntKind.i64 (agLo (List.take l xs))), (.int IntKind.i64 (agHi (List.take l xs))), (.int IntKind.i64 (agVo (List.take l xs))), (.int IntKind.i64 (agE (List.take l xs)))])) .leaf) none (.node .leaf (some (.int IntKind.i64 (0 : Int))) .leaf)) (some (.int IntKind.i64 (agHi (List.take l xs)))) (.node (.node .leaf (some (.int IntKind.i64 (agE (List.take l xs)))) .leaf) (some (.int IntKind.i64 ((↑l : Int)))) .leaf)) (some (.bool false)) (.node (.node (.node .leaf (some (.int IntKind.i64 (agHi (List.take l xs)))) .leaf) (some (.bool false)) .leaf) (some (.int IntKind.i64 (agE (List.take l xs)))) (.node (.node .leaf (some .nils) .leaf) (some (.tup [(.int IntKind.i64 (agLo (List.take l xs))), (.int IntKind.i64 (agHi (List.take l xs))), (.int IntKind.i64 (agVo (List.take l xs))), (.int IntKind.i64 (agE (List.take l xs)))])) .leaf)))), (.node .leaf (some (AO.out ob cS xs)) .leaf), 1, 60⟩)) ∧ (agE (List.take l xs) = 0 → ((trueF (List.take l xs) = [] → (ALoop I 1 (cd Try.f5 [true, true, true, true, true, false, true, false, false]) (acode I P (Gm B2) (adraw P (Gm B2)) 1 (cd Try.f5 [true, true, true, true, true, false, true, false, false])) (ablock 0 (athen (cd Try.f5 [true, true, true, true, true, true]) (fun s => acode I P (Gm B2) (adraw P (Gm B2)) 1 (cd Try.f5 [true, true, true, true, true, true]) s (kret P Try.f5 (K))) (kret P Try.f5 (K)))) ⟨(.node (.node (.node (.node (.node .leaf (some (.sl 0 0 (l) (c))) .leaf) (some .nils) (.node .leaf (some .nils) .leaf)) (some (.int IntKind.i64 (agLo (List.take l xs)))) (.node (.node .leaf (some (.int IntKind.i64 (agVo (List.take l xs)))) .leaf) (some (.sl 0 0 (l) (c))) .leaf)) none (.node (.node (.node .leaf (some (.int IntKind.i64 (agLo (List.take l xs)))) .leaf) (some (.bool true)) (.node .leaf (some (.int IntKind.i64 (0 : Int))) .leaf)) (some (.int IntKind.i64 (agVo (List.take l xs)))) (.node (.node .leaf (some (.sl 0 0 (l) (c))) .leaf) (some (.bool false)) .leaf))) (some (.sl 0 0 (l) (c))) (.node (.node (.node (.node .leaf (some (.tup [(.int IntKind.i64 (agLo (List.take l xs))), (.int IntKind.i64 (agHi (List.take l xs))), (.int IntKind.i64 (agVo (List.take l xs))), (.int IntKind.i64 (agE (List.take l xs)))])) .leaf) none (.node .leaf (some (.int IntKind.i64 (0 : Int))) .leaf)) (some (.int IntKind.i64 (agHi (List.take l xs)))) (.node (.node .leaf (some (.int IntKind.i64 (agE (List.take l xs)))) .leaf) (some (.int IntKind.i64 ((↑l : Int)))) .leaf)) (some (.bool false)) (.node (.node (.node .leaf (some (.int IntKind.i64 (agHi (List.take l xs)))) .leaf) (some (.bool false)) .leaf) (some (.int IntKind.i64 (agE (List.take l xs)))) (.node (.node .leaf (some .nils) .leaf) (some (.tup [(.int IntKind.i64 (agLo (List.take l xs))), (.int IntKind.i64 (agHi (List.take l xs))), (.int IntKind.i64 (agVo (List.take l xs))), (.int IntKind.i64 (agE (List.take l xs)))])) .leaf)))), (.node .leaf (some (AO.out ob cS xs)) .leaf), 1, 60⟩)) ∧ (trueF (List.take l xs) ≠ [] → (∀ (c0 : Nat), (∀ (room1 : Nat), (ALoop I 1 (cd Try.f5 [true, true, true, true, true, false, true, false, false]) (acode I P (Gm B2) (adraw P (Gm B2)) 1 (cd Try.f5 [true, true, true, true, true, false, true, false, false])) (ablock 0 (athen (cd Try.f5 [true, true, true, true, true, true]) (fun s => acode I P (Gm B2) (adraw P (Gm B2)) 1 (cd Try.f5 [true, true, true, true, true, true]) s (kret P Try.f5 (K))) (kret P Try.f5 (K)))) ⟨(.node (.node (.node (.node (.node .leaf (some (.sl 0 0 (l) (c))) .leaf) (some (.sl 1 0 ((trueF (List.take l xs)).length) (c0))) (.node .leaf (some (.sl 1 0 ((trueF (List.take l xs)).length) (c0))) .leaf)) (some (.int IntKind.i64 (agLo (List.take l xs)))) (.node (.node .leaf (some (.int IntKind.i64 (agVo (List.take l xs)))) .leaf) (some (.sl 0 0 (l) (c))) .leaf)) none (.node (.node (.node .leaf (some (.int IntKind.i64 (agLo (List.take l xs)))) .leaf) (some (.bool true)) (.node .leaf (some (.int IntKind.i64 (0 : Int))) .leaf)) (some (.int IntKind.i64 (agVo (List.take l xs)))) (.node (.node .leaf (some (.sl 0 0 (l) (c))) .leaf) (some (.bool false)) .leaf))) (some (.sl 0 0 (l) (c))) (.node (.node (.node (.node .leaf (some (.tup [(.int IntKind.i64 (agLo (List.take l xs))), (.int IntKind.i64 (agHi (List.take l xs))), (.int IntKind.i64 (agVo (List.take l xs))), (.int IntKind.i64 (agE (List.take l xs)))])) .leaf) none (.node .leaf (some (.int IntKind.i64 ((↑(trueF (List.take l xs)).length : Int)))) .leaf)) (some (.int IntKind.i64 (agHi (List.take l xs)))) (.node (.node .leaf (some (.int IntKind.i64 (agE (List.take l xs)))) .leaf) (some (.int IntKind.i64 ((↑l : Int)))) .leaf)) (some (.bool false)) (.node (.node (.node .leaf (some (.int IntKind.i64 (agHi (List.take l xs)))) .leaf) (some (.bool false)) .leaf) (some (.int IntKind.i64 (agE (List.take l xs)))) (.node (.node .leaf (some (.sl 1 0 ((trueF (List.take l xs)).length) (c0))) .leaf) (some (.tup [(.int IntKind.i64 (agLo (List.take l xs))), (.int IntKind.i64 (agHi (List.take l xs))), (.int IntKind.i64 (agVo (List.take l xs))), (.int IntKind.i64 (agE (List.take l xs)))])) .leaf)))), (.node (.node .leaf (some (.rows 3 [Sh.i IntKind.i64] (List.map iR (trueF (List.take l xs))) (room1))) .leaf) (some (AO.out ob cS xs)) .leaf), 2, 60⟩)))))))))))) := by kernel_rfl
theorem t_lmanyN (I : Interp O) (K : AV → Tr (AO O) → Nat → Prop) : abody I P (Gm B2) (adraw P (Gm B2)) 0 Try.f5 [.nils] (Tr.ofList 0 [] .leaf) 0 K =
  ((([] : List Rw).length ≤ (1000 : Nat)) ∧ ((([] : List Rw).length ≤ (1000 : Nat)) ∧ ((agE [] ≠ 0 → (ALoop I 0 (cd Try.f5 [true, true, true, true, true, false, true, false, false]) (acode I P (Gm B2) (adraw P (Gm B2)) 0 (cd Try.f5 [true, true, true, true, true, false, true, false, false])) (ablock 0 (athen (cd Try.f5 [true, true, true, true, true, true]) (fun s => acode I P (Gm B2) (adraw P (Gm B2)) 0 (cd Try.f5 [true, true, true, true, true, true]) s (kret P Try.f5 (K))) (kret P Try.f5 (K)))) ⟨(.node (.node (.node (.node (.node .leaf (some .nils) .leaf) (some .nils) (.node .leaf (some .nils) .leaf)) (some (.int IntKind.i64 (0 : Int))) (.node (.node .leaf (some (.int IntKind.i64 (0 : Int))) .leaf) (some .nils) .leaf)) none (.node (.node (.node .leaf (some (.int IntKind.i64 (0 : Int))) .leaf) (some (.bool true)) (.node .leaf (some (.int IntKind.i64 (0 : Int))) .leaf)) (some (.int IntKind.i64 (0 : Int))) (.node (.node .leaf (some .nils) .leaf) (some (.bool false)) .leaf))) (some .nils) (.node (.node (.node (.node .leaf (some (.tup [(.int IntKind.i64 (0 : Int)), (.int IntKind.i64 (0 : Int)), (.int IntKind.i64 (0 : Int)), (.int IntKind.i64 (10 : Int))])) .leaf) none (.node .leaf (some (.int IntKind.i64 (0 : Int))) .leaf)) (some (.int IntKind.i64 (0 : Int))) (.node (.node .leaf (some (.int IntKind.i64 (10 : Int))) .leaf) (some (.int IntKind.i64 (0 : Int))) .leaf)) (some (.bool false)) (.node (.node (.node .leaf (some (.int IntKind.i64 (0 : Int))) .leaf) (some (.bool false)) .leaf) (some (.int IntKind.i64 (10 : Int))) (.node (.node .leaf (some .nils) .leaf) (some (.tup [(.int IntKind.i64 (0 : Int)), (.int IntKind.i64 (0 : Int)), (.int IntKind.i64 (0 : Int)), (.int IntKind.i64 (10 : Int))])) .leaf)))), .leaf, 0, 60⟩)) ∧ (agE [] = 0 → ((trueF [] = [] → (ALoop I 0 (cd Try.f5 [true, true, true, true, true, false, true, false, false]) (acode I P (Gm B2) (adraw P (Gm B2)) 0 (cd Try.f5 [true, true, true, true, true, false, true, false, false])) (ablock 0 (athen (cd Try.f5 [true, true, true, true, true, true]) (fun s => acode I P (Gm B2) (adraw P (Gm B2)) 0 (cd Try.f5 [true, true, true, true, true, true]) s (kret P Try.f5 (K))) (kret P Try.f5 (K)))) ⟨(.node (.node (.node (.node (.node .leaf (some .nils) .leaf) (some .nils) (.node .leaf (some .nils) .leaf)) (some (.int IntKind.i64 (0 : Int))) (.node (.node .leaf (some (.int IntKind.i64 (0 : Int))) .leaf) (some .nils) .leaf)) none (.node (.node (.node .leaf (some (.int IntKind.i64 (0 : Int))) .leaf) (some (.bool true)) (.node .leaf (some (.int IntKind.i64 (0 : Int))) .leaf)) (some (.int IntKind.i64 (0 : Int))) (.node (.node .leaf (some .nils) .leaf) (some (.bool false)) .leaf))) (some .nils) (.node (.node (.node (.node .leaf (some (.tup [(.int IntKind.i64 (0 : Int)), (.int IntKind.i64 (0 : Int)), (.int IntKind.i64 (0 : Int)), (.int IntKind.i64 (10 : Int))])) .leaf) none (.node .leaf (some (.int IntKind.i64 (0 : Int))) .leaf)) (some (.int IntKind.i64 (0 : Int))) (.node (.node .leaf (some (.int IntKind.i64 (10 : Int))) .leaf) (some (.int IntKind.i64 (0 : Int))) .leaf)) (some (.bool false)) (.node (.node (.node .leaf (some (.int IntKind.i64 (0 : Int))) .leaf) (some (.bool false)) .leaf) (some (.int IntKind.i64 (10 : Int))) (.node (.node .leaf (some .nils) .leaf) (some (.tup [(.int IntKind.i64 (0 : Int)), (.int IntKind.i64 (0 : Int)), (.int IntKind.i64 (0 : Int)), (.int IntKind.i64 (10 : Int))])) .leaf)))), .leaf, 0, 60⟩)) ∧ (trueF [] ≠ [] → (∀ (c0 : Nat), (∀ (room1 : Nat), (ALoop I 0 (cd Try.f5 [true, true, true, true, true, false, true, false, false]) (acode I P (Gm B2) (adraw P (Gm B2)) 0 (cd Try.f5 [true, true, true, true, true, false, true, false, false])) (ablock 0 (athen (cd Try.f5 [true, true, true, true, true, true]) (fun s => acode I P (Gm B2) (adraw P (Gm B2)) 0 (cd Try.f5 [true, true, true, true, true, true]) s (kret P Try.f5 (K))) (kret P Try.f5 (K)))) ⟨(.node (.node (.node (.node (.node .leaf (some .nils) .leaf) (some (.sl 0 0 0 (c0))) (.node .leaf (some (.sl 0 0 0 (c0))) .leaf)) (some (.int IntKind.i64 (0 : Int))) (.node (.node .leaf (some (.int IntKind.i64 (0 : Int))) .leaf) (some .nils) .leaf)) none (.node (.node (.node .leaf (some (.int IntKind.i64 (0 : Int))) .leaf) (some (.bool true)) (.node .leaf (some (.int IntKind.i64 (0 : Int))) .leaf)) (some (.int IntKind.i64 (0 : Int))) (.node (.node .leaf (some .nils) .leaf) (some (.bool false)) .leaf))) (some .nils) (.node (.node (.node (.node .leaf (some (.tup [(.int IntKind.i64 (0 : Int)), (.int IntKind.i64 (0 : Int)), (.int IntKind.i64 (0 : Int)), (.int IntKind.i64 (10 : Int))])) .leaf) none (.node .leaf (some (.int IntKind.i64 (0 : Int))) .leaf)) (some (.int IntKind.i64 (0 : Int))) (.node (.node .leaf (some (.int IntKind.i64 (10 : Int))) .leaf) (some (.int IntKind.i64 (0 : Int))) .leaf)) (some (.bool false)) (.node (.node (.node .leaf (some (.int IntKind.i64 (0 : Int))) .leaf) (some (.bool false)) .leaf) (some (.int IntKind.i64 (10 : Int))) (.node (.node .leaf (some (.sl 0 0 0 (c0))) .leaf) (some (.tup [(.int IntKind.i64 (0 : Int)), (.int IntKind.i64 (0 : Int)), (.int IntKind.i64 (0 : Int)), (.int IntKind.i64 (10 : Int))])) .leaf)))), (.node .leaf (some (.rows 3 [Sh.i IntKind.i64] (List.map iR (trueF [])) (room1))) .leaf), 1, 60⟩))))))))) := by kernel_rfl
theorem t_lright (I : Interp O) (K : AV → Tr (AO O) → Nat → Prop) (off : Int) (n0 c0 n1 c1 : Nat) (q0 q1 : Bool) (ob0 ob1 : Obj) (xs ws : List Rw) : abody I P (Gm B2) (adraw P (Gm B2)) 2 Try.f4 [.int .i64 off, .slq 0 n0 c0 q0, .slq 1 n1 c1 q1] (Tr.ofList 0 [.out ob0 [.i .u16, .i .u16] xs, .out ob1 [.b] ws] .leaf) 2 K =
  (ALoop I 2 (cd Try.f4 [true, true, true, true, true, false, true, false, false]) (acode I P (Gm B2) (adraw P (Gm B2)) 2 (cd Try.f4 [true, true, true, true, true, false, true, false, false])) (ablock 0 (athen (cd Try.f4 [true, true, true, true, true, true]) (fun s => acode I P (Gm B2) (adraw P (Gm B2)) 2 (cd Try.f4 [true, true, true, true, true, true]) s (kret P Try.f4 (K))) (kret P Try.f4 (K)))) ⟨(.node (.node (.node (.node .leaf (some (.sl 2 0 0 0)) .leaf) none (.node (.node .leaf (some (.bool false)) .leaf) none .leaf)) (some (.slq 0 (n0) (c0) (q0))) (.node (.node .leaf (some (.int IntKind.i64 (0 : Int))) .leaf) none (.node (.node .leaf (some (.int IntKind.i64 (off.tmod 1125899906842624))) .leaf) none .leaf))) (some (.int IntKind.i64 (off.tmod 1125899906842624))) (.node (.node (.node .leaf (some (.int IntKind.i64 (0 : Int))) .leaf) none (.node (.node .leaf (some (.int IntKind.i64 (off))) .leaf) none .leaf)) (some (.slq 1 (n1) (c1) (q1))) (.node (.node (.node .leaf (some (.bool true)) .leaf) none .leaf) (some (.bool false)) (.node (.node .leaf (some (.sl 2 0 0 0)) .leaf) none .leaf)))), (.node (.node .leaf (some (AO.out ob1 [Sh.b] ws)) .leaf) (some (AO.out ob0 [Sh.i IntKind.u16, Sh.i IntKind.u16] xs)) (.node .leaf (some (.cells 31 [] 0)) .leaf)), 3, 161⟩) := by kernel_rfl
theorem t_mny0 (I : Interp O) (K : AV → Tr (AO O) → Nat → Prop) (X : St O → Prop) (ob : Obj) (xs : List Rw) (v e : Int) : acode I P (Gm B2) (adraw P (Gm B2)) 1 (cd Try.f5 [true, true, true, true, true, false, true, false, false]) (q_mN ob xs v e) (lpg 1 [] [5, 6, 7, 24, 25] 1 X (ablock 0 (athen (cd Try.f5 [true, true, true, true, true, true]) (fun s => acode I P (Gm B2) (adraw P (Gm B2)) 1 (cd Try.f5 [true, true, true, true, true, true]) s (kret P Try.f5 (K))) (kret P Try.f5 (K))))) =
  (bsplit (e == 0) fun | true => (bsplit (decide ((0 : Int) ≤ v)) fun | true => (K (.bool true) (.node .leaf (some (AO.out ob cS xs)) .leaf) 1) | false => (bsplit (e != 0) fun | true => (K (.bool true) (.node .leaf (some (AO.out ob cS xs)) .leaf) 1) | false => (K (.bool false) (.node .leaf (some (AO.out ob cS xs)) .leaf) 1))) | false => (bsplit (e != 0) fun | true => (K (.bool true) (.node .leaf (some (AO.out ob cS xs)) .leaf) 1) | false => (K (.bool false) (.node .leaf (some (AO.out ob cS xs)) .leaf) 1))) := by kernel_rfl
theorem t_mny (I : Interp O) (K : AV → Tr (AO O) → Nat → Prop) (X : St O → Prop) (ob : Obj) (xs ts : List Rw) (v e : Int) (l c room : Nat) (i : Int) : acode I P (Gm B2) (adraw P (Gm B2)) 1 (cd Try.f5 [true, true, true, true, true, false, true, false, false]) (q_mR ob xs v e ts l c room i) (lpg 1 [(1, 1)] [5, 6, 7, 24, 25] 2 X (ablock 0 (athen (cd Try.f5 [true, true, true, true, true, true]) (fun s => acode I P (Gm B2) (adraw P (Gm B2)) 1 (cd Try.f5 [true, true, true, true, true, true]) s (kret P Try.f5 (K))) (kret P Try.f5 (K))))) =
  (bsplit (decide (i < (↑l : Int))) fun | true => (bsplit (decide (i > 0)) fun | true => (must (decide ((0 : Int) ≤ IntKind.i64.wrap (i - 1) ∧ IntKind.i64.wrap (i - 1) < (↑l : Int))) (must (decide ((0 : Int) ≤ i ∧ i < (↑l : Int))) (xget (ts) ((IntKind.i64.wrap (i - 1)).toNat) fun x0 => (xget (ts) (i.toNat) fun x1 => (bsplit (decide (x0.i 0 ≥ x1.i 0)) fun | true => (K (.bool false) (.node (.node .leaf (some (.rows 3 [Sh.i IntKind.i64] (ts) (room))) .leaf) (some (AO.out ob cS xs)) .leaf) 2) | false => (X ⟨(.node (.node (.node (.node .leaf (some (.sl 1 0 (l) (c))) .leaf) none .leaf) none (.node (.node .leaf none (.node .leaf (some (.int IntKind.i64 (IntKind.i64.wrap (i + 1)))) .leaf)) (some (.int IntKind.i64 (v))) .leaf)) none (.node (.node (.node .leaf none (.node .leaf (some (.int IntKind.i64 ((↑l : Int)))) .leaf)) none .leaf) none (.node .leaf (some (.int IntKind.i64 (e))) .leaf))), (.node (.node .leaf (some (.rows 3 [Sh.i IntKind.i64] (ts) (room))) .leaf) (some (AO.out ob cS xs)) .leaf), 2, 60⟩)))))) | false => (X ⟨(.node (.node (.node (.node .leaf (some (.sl 1 0 (l) (c))) .leaf) none .leaf) none (.node (.node .leaf none (.node .leaf (some (.int IntKind.i64 (IntKind.i64.wrap (i + 1)))) .leaf)) (some (.int IntKind.i64 (v))) .leaf)) none (.node (.node (.node .leaf none (.node .leaf (some (.int IntKind.i64 ((↑l : Int)))) .leaf)) none .leaf) none (.node .leaf (some (.int IntKind.i64 (e))) .leaf))), (.node (.node .leaf (some (.rows 3 [Sh.i IntKind.i64] (ts) (room))) .leaf) (some (AO.out ob cS xs)) .leaf), 2, 60⟩)) | false => (bsplit (e == 0) fun | true => (bsplit (decide ((↑l : Int) ≤ v)) fun | true => (K (.bool true) (.node (.node .leaf (some (.rows 3 [Sh.i IntKind.i64] (ts) (room))) .leaf) (some (AO.out ob cS xs)) .leaf) 2) | false => (bsplit (e != 0) fun | true => (K (.bool ((↑l : Int) == 0)) (.node (.node .leaf (some (.rows 3 [Sh.i IntKind.i64] (ts) (room))) .leaf) (some (AO.out ob cS xs)) .leaf) 2) | false => (K (.bool false) (.node (.node .leaf (some (.rows 3 [Sh.i IntKind.i64] (ts) (room))) .leaf) (some (AO.out ob cS xs)) .leaf) 2))) | false => (bsplit (e != 0) fun | true => (K (.bool ((↑l : Int) == 0)) (.node (.node .leaf (some (.rows 3 [Sh.i IntKind.i64] (ts) (room))) .leaf) (some (AO.out ob cS xs)) .leaf) 2) | false => (K (.bool false) (.node (.node .leaf (some (.rows 3 [Sh.i IntKind.i64] (ts) (room))) .leaf) (some (AO.out ob cS xs)) .leaf) 2)))) := by kernel_rfl
theorem t_mnyN (I : Interp O) (K : AV → Tr (AO O) → Nat → Prop) (X : St O → Prop) (v e : Int) : acode I P (Gm B2) (adraw P (Gm B2)) 0 (cd Try.f5 [true, true, true, true, true, false, true, false, false]) (q_m0 v e) (lpg 0 [] [5, 6, 7, 24, 25] 0 X (ablock 0 (athen (cd Try.f5 [true, true, true, true, true, true]) (fun s => acode I P (Gm B2) (adraw P (Gm B2)) 0 (cd Try.f5 [true, true, true, true, true, true]) s (kret P Try.f5 (K))) (kret P Try.f5 (K))))) =
  (bsplit (e == 0) fun | true => (bsplit (decide ((0 : Int) ≤ v)) fun | true => (K (.bool true) .leaf 0) | false => (bsplit (e != 0) fun | true => (K (.bool true) .leaf 0) | false => (K (.bool false) .leaf 0))) | false => (bsplit (e != 0) fun | true => (K (.bool true) .leaf 0) | false => (K (.bool false) .leaf 0))) := by kernel_rfl
theorem t_sme (I : Interp O) (K : AV → Prop) (X : St O → Prop) (a b k : Int) : acode I P (Gm B2) (adraw P (Gm B2)) 0 (cd Try.f6 [true, true, true, true, true, true, false, true, false, false]) (q_s0 a b k) (lpgL 0 [[(0, 0)], [(1, 0)], [(2, 0)]] [8, 9, 10, 11, 12] 1 X (ablock 0 (athen (cd Try.f6 [true, true, true, true, true, true, true]) (fun s => acode I P (Gm B2) (adraw P (Gm B2)) 0 (cd Try.f6 [true, true, true, true, true, true, true]) s (kret P Try.f6 (fun v x x_1 => K v))) (kret P Try.f6 (fun v x x_1 => K v))))) =
  (bsplit (decide ((0 : Int) < k)) fun | true => (((0 : Nat) + (1 : Nat) ≤ (137438953472 : Nat)) ∧ (∀ (c'0 : Nat), ((0 : Nat) + 1 ≤ c'0 → (c'0 ≤ 9223372036854775807 → (X ⟨(.node (.node (.node .leaf none (.node .leaf (some (.sl 0 0 1 (c'0))) .leaf)) none (.node (.node .leaf (some (.int IntKind.i64 (b))) .leaf) none .leaf)) none (.node (.node (.node .leaf (some (.int IntKind.i64 (a))) .leaf) none (.node .leaf (some (.int IntKind.i64 (1 : Int))) .leaf)) none (.node (.node .leaf (some (.int IntKind.i64 (k))) .leaf) none .leaf))), (.node .leaf (some (.rows 31 [Sh.i IntKind.i64, Sh.i IntKind.i64, Sh.i IntKind.i64] (([] : List Rw) ++ ((rwA [(.int IntKind.i64 (0 : Int)), (.int IntKind.i64 (a)), (.int IntKind.i64 (b))]) :: [])) (c'0 * [Sh.i IntKind.i64, Sh.i IntKind.i64, Sh.i IntKind.i64].length))) .leaf), 1, 81⟩))))) | false => (((0 : Nat) ≤ ([] : List Rw).length) ∧ (((List.take (0 : Nat) ([] : List Rw)).length ≤ (1000 : Nat)) ∧ (K (.bool false))))) := by kernel_rfl
theorem t_smeR (I : Interp O) (K : AV → Prop) (X : St O → Prop) (a b k : Int) (l c room : Nat) (xs : List Rw) (i : Int) : acode I P (Gm B2) (adraw P (Gm B2)) 0 (cd Try.f6 [true, true, true, true, true, true, false, true, false, false]) (q_sR a b k l c room xs i) (lpgL 0 [[(0, 0)], [(1, 0)], [(2, 0)]] [8, 9, 10, 11, 12] 1 X (ablock 0 (athen (cd Try.f6 [true, true, true, true, true, true, true]) (fun s => acode I P (Gm B2) (adraw P (Gm B2)) 0 (cd Try.f6 [true, true, true, true, true, true, true]) s (kret P Try.f6 (fun v x x_1 => K v))) (kret P Try.f6 (fun v x x_1 => K v))))) =
  (bsplit (decide (i < k)) fun | true => (must (l.ble xs.length && (c * [Sh.i IntKind.i64, Sh.i IntKind.i64, Sh.i IntKind.i64].length).ble room && Nat.blt 0 16777215) ((l + (1 : Nat) ≤ (137438953472 : Nat)) ∧ (∀ (c'0 : Nat), (l + 1 ≤ c'0 → (c'0 ≤ 9223372036854775807 → (X ⟨(.node (.node (.node .leaf none (.node .leaf (some (.sl 0 0 (l + 1) (c'0))) .leaf)) none (.node (.node .leaf (some (.int IntKind.i64 (b))) .leaf) none .leaf)) none (.node (.node (.node .leaf (some (.int IntKind.i64 (a))) .leaf) none (.node .leaf (some (.int IntKind.i64 (IntKind.i64.wrap (i + 1)))) .leaf)) none (.node (.node .leaf (some (.int IntKind.i64 (k))) .leaf) none .leaf))), (.node .leaf (some (.rows 31 [Sh.i IntKind.i64, Sh.i IntKind.i64, Sh.i IntKind.i64] ((List.take l xs) ++ ((rwA [(.int IntKind.i64 (i)), (.int IntKind.i64 (a)), (.int IntKind.i64 (b))]) :: [])) (c'0 * [Sh.i IntKind.i64, Sh.i IntKind.i64, Sh.i IntKind.i64].length))) .leaf), 1, 81⟩)))))) | false => ((l ≤ xs.length) ∧ (((List.take l xs).length ≤ (1000 : Nat)) ∧ (bsplit (agE (List.take l xs) == 0) fun | true => (bsplit (agLo (List.take l xs) == a) fun | true => (bsplit (agHi (List.take l xs) == b) fun | true => (bsplit (agVo (List.take l xs) == k) fun | true => ((l ≤ xs.length) ∧ (((List.take l xs).length ≤ (1000 : Nat)) ∧ ((agE (List.take l xs) ≠ 0 → (K (.bool (0 == k)))) ∧ (agE (List.take l xs) = 0 → ((trueF (List.take l xs) = [] → (K (.bool (0 == k)))) ∧ (trueF (List.take l xs) ≠ [] → (∀ (c1 : Nat), (∀ (room2 : Nat), (K (.bool ((↑(trueF (List.take l xs)).length : Int) == k))))))))))) | false => (K (.bool false))) | false => (K (.bool false))) | false => (K (.bool false))) | false => (K (.bool false)))))) := by kernel_rfl
theorem t_rt0 (I : Interp O) (K : AV → Tr (AO O) → Nat → Prop) (X : St O → Prop) (off : Int) (n0 c0 n1 c1 : Nat) (q0 q1 : Bool) (ob0 ob1 : Obj) (xs ws : List Rw) : acode I P (Gm B2) (adraw P (Gm B2)) 2 (cd Try.f4 [true, true, true, true, true, false, true, false, false]) (q_r0 off n0 c0 n1 c1 q0 q1 ob0 ob1 xs ws) (lpgL 2 [[(0, 0), (1, 1), (2, 2)], [(0, 0), (1, 1), (3, 2)], [(0, 0), (1, 1), (4, 2)]] [0, 1, 2, 7, 8, 9] 3 X (ablock 0 (athen (cd Try.f4 [true, true, true, true, true, true]) (fun s => acode I P (Gm B2) (adraw P (Gm B2)) 2 (cd Try.f4 [true, true, true, true, true, true]) s (kret P Try.f4 (K))) (kret P Try.f4 (K))))) =
  (bsplit (decide ((0 : Int) < (↑n0 : Int))) fun | true => (must (decide ((0 : Int) ≤ 0 ∧ 0 < (↑n0 : Int))) False) | false => (((0 : Nat) ≤ ([] : List Rw).length) ∧ (((List.take (0 : Nat) ([] : List Rw)).length ≤ (1000 : Nat)) ∧ (K (.bool true) (.node (.node .leaf (some (AO.out ob1 [Sh.b] ws)) .leaf) (some (AO.out ob0 [Sh.i IntKind.u16, Sh.i IntKind.u16] xs)) (.node .leaf (some (.rows 31 [Sh.i IntKind.i64, Sh.i IntKind.i64, Sh.i IntKind.i64] [] 0)) .leaf)) 3)))) := by kernel_rfl
theorem t_rtR (I : Interp O) (K : AV → Tr (AO O) → Nat → Prop) (X : St O → Prop) (off : Int) (n0 c0 n1 c1 : Nat) (q0 q1 : Bool) (ob0 ob1 : Obj) (xs ws : List Rw) (l c room : Nat) (ys : List Rw) (r i : Int) : acode I P (Gm B2) (adraw P (Gm B2)) 2 (cd Try.f4 [true, true, true, true, true, false, true, false, false]) (q_rR off n0 c0 n1 c1 q0 q1 ob0 ob1 xs ws l c room ys r i) (lpgL 2 [[(0, 0), (1, 1), (2, 2)], [(0, 0), (1, 1), (3, 2)], [(0, 0), (1, 1), (4, 2)]] [0, 1, 2, 7, 8, 9] 3 X (ablock 0 (athen (cd Try.f4 [true, true, true, true, true, true]) (fun s => acode I P (Gm B2) (adraw P (Gm B2)) 2 (cd Try.f4 [true, true, true, true, true, true]) s (kret P Try.f4 (K))) (kret P Try.f4 (K))))) =
  (bsplit (decide (i < (↑n0 : Int))) fun | true => (bsplit (decide (i < 40)) fun | true => (must (decide ((0 : Int) ≤ i ∧ i < (↑n0 : Int))) False) | false => ((l ≤ ys.length) ∧ (((List.take l ys).length ≤ (1000 : Nat)) ∧ (bsplit (decide (IntKind.i64.wrap (2 * r) ≤ (↑l : Int))) fun | true => (K (.bool true) (.node (.node .leaf (some (AO.out ob1 [Sh.b] ws)) .leaf) (some (AO.out ob0 [Sh.i IntKind.u16, Sh.i IntKind.u16] xs)) (.node .leaf (some (.rows 31 [Sh.i IntKind.i64, Sh.i IntKind.i64, Sh.i IntKind.i64] (ys) (room))) .leaf)) 3) | false => (bsplit (agE (List.take l ys) != 0) fun | true => (K (.bool false) (.node (.node .leaf (some (AO.out ob1 [Sh.b] ws)) .leaf) (some (AO.out ob0 [Sh.i IntKind.u16, Sh.i IntKind.u16] xs)) (.node .leaf (some (.rows 31 [Sh.i IntKind.i64, Sh.i IntKind.i64, Sh.i IntKind.i64] (ys) (room))) .leaf)) 3) | false => (bsplit (decide (agVo (List.take l ys) < r)) fun | true => (K (.bool false) (.node (.node .leaf (some (AO.out ob1 [Sh.b] ws)) .leaf) (some (AO.out ob0 [Sh.i IntKind.u16, Sh.i IntKind.u16] xs)) (.node .leaf (some (.rows 31 [Sh.i IntKind.i64, Sh.i IntKind.i64, Sh.i IntKind.i64] (ys) (room))) .leaf)) 3) | false => (ALoop I 2 (cd Try.f4 [true, true, true, true, true, true, true, true, true, true, false, true, false, false]) (acode I P (Gm B2) (adraw P (Gm B2)) 2 (cd Try.f4 [true, true, true, true, true, true, true, true, true, true, false, true, false, false])) (ablock 2 (athen (cd Try.f4 [true, true, true, true, true, true, true, true, true, true, true]) (fun s => acode I P (Gm B2) (adraw P (Gm B2)) 2 (cd Try.f4 [true, true, true, true, true, true, true, true, true, true, true]) s (kret P Try.f4 (K))) (kret P Try.f4 (K)))) ⟨(.node (.node (.node (.node (.node (.node .leaf none (.node .leaf (some (.sl 2 0 (l) (c))) .leaf)) (some (.bool false)) (.node .leaf none (.node .leaf (some (.bool (decide (agVo (List.take l ys) < r)))) .leaf))) (some (.sl 2 0 (l) (c))) (.node (.node .leaf none (.node .leaf (some (.sl 2 0 (l) (c))) .leaf)) (some (.int IntKind.i64 (i))) .leaf)) none (.node (.node (.node .leaf none (.node .leaf (some (.int IntKind.i64 (agVo (List.take l ys)))) .leaf)) none (.node .leaf none (.node .leaf (some (.int IntKind.i64 (0 : Int))) .leaf))) (some (.int IntKind.i64 (agLo (List.take l ys)))) (.node (.node .leaf none (.node .leaf (some (.bool (agE (List.take l ys) != 0))) .leaf)) (some (.bool true)) .leaf))) (some (.slq 0 (n0) (c0) (q0))) (.node (.node (.node (.node .leaf none (.node .leaf (some (.int IntKind.i64 (agLo (List.take l ys)))) .leaf)) none (.node .leaf none (.node .leaf (some (.sl 2 0 (l) (c))) .leaf))) (some (.int IntKind.i64 (i))) (.node (.node .leaf none (.node .leaf (some (.bool false)) .leaf)) (some (.int IntKind.i64 ((↑n0 : Int)))) .leaf)) none (.node (.node (.node .leaf none (.node .leaf (some (.int IntKind.i64 (r))) .leaf)) none .leaf) (some (.int IntKind.i64 (agVo (List.take l ys)))) (.node (.node .leaf none (.node .leaf (some (.int IntKind.i64 (agVo (List.take l ys)))) .leaf)) (some (.bool (decide (i < 40)))) .leaf)))) (some (.int IntKind.i64 (off))) (.node (.node (.node (.node (.node .leaf none (.node .leaf (some (.tup [(.int IntKind.i64 (agLo (List.take l ys))), (.int IntKind.i64 (agHi (List.take l ys))), (.int IntKind.i64 (agVo (List.take l ys))), (.int IntKind.i64 (agE (List.take l ys)))])) .leaf)) none (.node .leaf none (.node .leaf (some (.bool false)) .leaf))) (some (.int IntKind.i64 (r))) (.node (.node .leaf none (.node .leaf (some (.int IntKind.i64 ((↑l : Int)))) .leaf)) (some (.slq 0 (n0) (c0) (q0))) .leaf)) none (.node (.node (.node .leaf none (.node .leaf (some (.int IntKind.i64 (agE (List.take l ys)))) .leaf)) none .leaf) (some (.int IntKind.i64 (agHi (List.take l ys)))) (.node (.node .leaf none (.node .leaf (some (.bool false)) .leaf)) (some (.int IntKind.i64 (i))) .leaf))) (some (.slq 1 (n1) (c1) (q1))) (.node (.node (.node (.node .leaf none (.node .leaf (some (.int IntKind.i64 (agHi (List.take l ys)))) .leaf)) none (.node .leaf none (.node .leaf (some (.int IntKind.i64 ((↑l : Int)))) .leaf))) none (.node (.node .leaf none (.node .leaf (some (.int IntKind.i64 (agE (List.take l ys)))) .leaf)) (some (.bool (decide (i < (↑n0 : Int))))) .leaf)) none (.node (.node (.node .leaf none (.node .leaf (some (.int IntKind.i64 (IntKind.i64.wrap (2 * r)))) .leaf)) none .leaf) (some (.int IntKind.i64 (agE (List.take l ys)))) (.node (.node .leaf none (.node .leaf (some (.int IntKind.i64 (r))) .leaf)) (some (.bool false)) (.node (.node .leaf (some (.tup [(.int IntKind.i64 (agLo (List.take l ys))), (.int IntKind.i64 (agHi (List.take l ys))), (.int IntKind.i64 (agVo (List.take l ys))), (.int IntKind.i64 (agE (List.take l ys)))])) .leaf) none .leaf)))))), (.node (.node .leaf (some (AO.out ob1 [Sh.b] ws)) .leaf) (some (AO.out ob0 [Sh.i IntKind.u16, Sh.i IntKind.u16] xs)) (.node .leaf (some (.rows 31 [Sh.i IntKind.i64, Sh.i IntKind.i64, Sh.i IntKind.i64] (ys) (room))) .leaf)), 3, 161⟩))))))) | false => ((l ≤ ys.length) ∧ (((List.take l ys).length ≤ (1000 : Nat)) ∧ (bsplit (decide (IntKind.i64.wrap (2 * r) ≤ (↑l : Int))) fun | true => (K (.bool true) (.node (.node .leaf (some (AO.out ob1 [Sh.b] ws)) .leaf) (some (AO.out ob0 [Sh.i IntKind.u16, Sh.i IntKind.u16] xs)) (.node .leaf (some (.rows 31 [Sh.i IntKind.i64, Sh.i IntKind.i64, Sh.i IntKind.i64] (ys) (room))) .leaf)) 3) | false => (bsplit (agE (List.take l ys) != 0) fun | true => (K (.bool false) (.node (.node .leaf (some (AO.out ob1 [Sh.b] ws)) .leaf) (some (AO.out ob0 [Sh.i IntKind.u16, Sh.i IntKind.u16] xs)) (.node .leaf (some (.rows 31 [Sh.i IntKind.i64, Sh.i IntKind.i64, Sh.i IntKind.i64] (ys) (room))) .leaf)) 3) | false => (bsplit (decide (agVo (List.take l ys) < r)) fun | true => (K (.bool false) (.node (.node .leaf (some (AO.out ob1 [Sh.b] ws)) .leaf) (some (AO.out ob0 [Sh.i IntKind.u16, Sh.i IntKind.u16] xs)) (.node .leaf (some (.rows 31 [Sh.i IntKind.i64, Sh.i IntKind.i64, Sh.i IntKind.i64] (ys) (room))) .leaf)) 3) | false => (ALoop I 2 (cd Try.f4 [true, true, true, true, true, true, true, true, true, true, false, true, false, false]) (acode I P (Gm B2) (adraw P (Gm B2)) 2 (cd Try.f4 [true, true, true, true, true, true, true, true, true, true, false, true, false, false])) (ablock 2 (athen (cd Try.f4 [true, true, true, true, true, true, true, true, true, true, true]) (fun s => acode I P (Gm B2) (adraw P (Gm B2)) 2 (cd Try.f4 [true, true, true, true, true, true, true, true, true, true, true]) s (kret P Try.f4 (K))) (kret P Try.f4 (K)))) ⟨(.node (.node (.node (.node (.node (.node .leaf none (.node .leaf (some (.sl 2 0 (l) (c))) .leaf)) (some (.bool false)) (.node .leaf none (.node .leaf (some (.bool (decide (agVo (List.take l ys) < r)))) .leaf))) (some (.sl 2 0 (l) (c))) (.node (.node .leaf none (.node .leaf (some (.sl 2 0 (l) (c))) .leaf)) (some (.int IntKind.i64 (i))) .leaf)) none (.node (.node (.node .leaf none (.node .leaf (some (.int IntKind.i64 (agVo (List.take l ys)))) .leaf)) none (.node .leaf none (.node .leaf (some (.int IntKind.i64 (0 : Int))) .leaf))) (some (.int IntKind.i64 (agLo (List.take l ys)))) (.node (.node .leaf none (.node .leaf (some (.bool (agE (List.take l ys) != 0))) .leaf)) (some (.bool false)) .leaf))) (some (.slq 0 (n0) (c0) (q0))) (.node (.node (.node (.node .leaf none (.node .leaf (some (.int IntKind.i64 (agLo (List.take l ys)))) .leaf)) none (.node .leaf none (.node .leaf (some (.sl 2 0 (l) (c))) .leaf))) (some (.int IntKind.i64 (i))) (.node (.node .leaf none (.node .leaf (some (.bool false)) .leaf)) (some (.int IntKind.i64 ((↑n0 : Int)))) .leaf)) none (.node (.node (.node .leaf none (.node .leaf (some (.int IntKind.i64 (r))) .leaf)) none .leaf) (some (.int IntKind.i64 (agVo (List.take l ys)))) (.node (.node .leaf none (.node .leaf (some (.int IntKind.i64 (agVo (List.take l ys)))) .leaf)) (some (.tup [])) .leaf)))) (some (.int IntKind.i64 (off))) (.node (.node (.node (.node (.node .leaf none (.node .leaf (some (.tup [(.int IntKind.i64 (agLo (List.take l ys))), (.int IntKind.i64 (agHi (List.take l ys))), (.int IntKind.i64 (agVo (List.take l ys))), (.int IntKind.i64 (agE (List.take l ys)))])) .leaf)) none (.node .leaf none (.node .leaf (some (.bool false)) .leaf))) (some (.int IntKind.i64 (r))) (.node (.node .leaf none (.node .leaf (some (.int IntKind.i64 ((↑l : Int)))) .leaf)) (some (.slq 0 (n0) (c0) (q0))) .leaf)) none (.node (.node (.node .leaf none (.node .leaf (some (.int IntKind.i64 (agE (List.take l ys)))) .leaf)) none .leaf) (some (.int IntKind.i64 (agHi (List.take l ys)))) (.node (.node .leaf none (.node .leaf (some (.bool false)) .leaf)) (some (.tup [])) .leaf))) (some (.slq 1 (n1) (c1) (q1))) (.node (.node (.node (.node .leaf none (.node .leaf (some (.int IntKind.i64 (agHi (List.take l ys)))) .leaf)) none (.node .leaf none (.node .leaf (some (.int IntKind.i64 ((↑l : Int)))) .leaf))) none (.node (.node .leaf none (.node .leaf (some (.int IntKind.i64 (agE (List.take l ys)))) .leaf)) (some (.bool (decide (i < (↑n0 : Int))))) .leaf)) none (.node (.node (.node .leaf none (.node .leaf (some (.int IntKind.i64 (IntKind.i64.wrap (2 * r)))) .leaf)) none .leaf) (some (.int IntKind.i64 (agE (List.take l ys)))) (.node (.node .leaf none (.node .leaf (some (.int IntKind.i64 (r))) .leaf)) (some (.bool false)) (.node (.node .leaf (some (.tup [(.int IntKind.i64 (agLo (List.take l ys))), (.int IntKind.i64 (agHi (List.take l ys))), (.int IntKind.i64 (agVo (List.take l ys))), (.int IntKind.i64 (agE (List.take l ys)))])) .leaf) none .leaf)))))), (.node (.node .leaf (some (AO.out ob1 [Sh.b] ws)) .leaf) (some (AO.out ob0 [Sh.i IntKind.u16, Sh.i IntKind.u16] xs)) (.node .leaf (some (.rows 31 [Sh.i IntKind.i64, Sh.i IntKind.i64, Sh.i IntKind.i64] (ys) (room))) .leaf)), 3, 161⟩))))))) := by kernel_rfl
end W
end Go.Tb

/- Claims: the law of many. -/
set_option linter.all false
set_option maxRecDepth 100000
set_option maxHeartbeats 2000000
namespace Go.Tb.W
open Go Go.Proofs
variable {I : Interp O}
theorem ACall.slq {f : FuncId} {n l c : Nat} {q : Bool} {hp : Tr (AO O)} {K : AV → Tr (AO O) → Prop} (hc : ACall I P f [.nils] hp (fun _ _ => True)) (h0 : q = true → l = 0 → c = 0 → ACall I P f [.nils] hp K) (h1 : q = false → ACall I P f [.sl n 0 l c] hp K) : ACall I P f [.slq n l c q] hp K := by
  refine ⟨hc.1, fun ρ fp w args' hs hd => ?_⟩
  cases hd with
  | cons hv ht =>
    cases ht
    cases hv with
    | slq1 l c h hl hcc => exact (h1 rfl).2 ρ fp w _ hs (.cons (.sl 0 l c h hl hcc) .nil)
    | slq0 n => exact (h0 rfl rfl rfl).2 ρ fp w _ hs (.cons .nils .nil)
/-- What is known where something is agreed on. -/
structure AgO (xs : List Rw) : Prop where
  ok : okM (lastF xs).1 (lastF xs).2
  b : ∀ e ∈ (lastF xs).1, e.1.i 2 ≤ e.1.i 3
  lo : agLo xs = (agM xs).lo
  hi : agHi xs = (agM xs).hi
  vo : agVo xs = (agM xs).vo
  lh : agLo xs ≤ agHi xs
  all : ∀ x, vS (lastF xs).1 x ≤ agVo xs
  at_ : ∀ x, agLo xs ≤ x → x ≤ agHi xs → vS (lastF xs).1 x = agVo xs
  bef : ∀ x, x < agLo xs → vS (lastF xs).1 x < agVo xs
  aft : vS (lastF xs).1 (agHi xs + 1) ≠ agVo xs
theorem AgO.of {xs : List Rw} (h : agE xs = 0) : AgO xs := by
  have e1 : agLo xs = (agM xs).lo := by unfold agLo; rw [if_pos h]
  have e2 : agHi xs = (agM xs).hi := by unfold agHi; rw [if_pos h]
  have e3 : agVo xs = (agM xs).vo := by unfold agVo; rw [if_pos h]
  have hb : ¬ badI xs ≥ 0 := fun e => by unfold agE at h; rw [if_pos e] at h; cases h
  have h64 : xs.length ≤ 64 := by
    unfold agE at h; rw [if_neg hb] at h
    split at h
    · cases h
    · omega
  have hv : ¬ 2 * (agM xs).vo ≤ ((lastF xs).1.length : Int) := fun e => by
    unfold agE at h; rw [if_neg hb, if_neg (by omega), if_pos e] at h; cases h
  obtain ⟨ok, _⟩ := okM_of (bad_neg hb) h64
  have hbd : ∀ e ∈ (lastF xs).1, e.1.i 2 ≤ e.1.i 3 := fun e he => (ok.bd e he).2.1
  obtain ⟨f1, f2, f3⟩ := ag_fin (s := agM xs) hbd rfl
  obtain ⟨f4, f5, f6, f7⟩ := f3 (by omega)
  exact ⟨ok, hbd, e1, e2, e3, by rw [e1, e2]; exact f4, fun x => by rw [e3]; exact f1 x, fun x a b => by rw [e3]; exact f5 x (by omega) (by omega), fun x a => by rw [e3]; exact f6 x (by omega), by rw [e2, e3]; exact f7⟩
theorem tr_len {xs : List Rw} (h : agE xs = 0) : ((trueF xs).length : Int) ≤ agVo xs := by
  have a := AgO.of h
  rw [← a.at_ (agLo xs) (Int.le_refl _) a.lh]
  unfold trueF vS
  rw [(srtJ_perm _).length_eq, List.length_map, ← List.countP_eq_length_filter, ← List.countP_eq_length_filter]
  refine Int.ofNat_le.2 (List.countP_mono_left fun e he hx => ?_)
  simp only [Bool.and_eq_true, decide_eq_true_eq] at hx ⊢
  have := a.lh
  exact ⟨hx.1, by omega⟩
theorem tr_up {xs : List Rw} (h : agE xs = 0) : (trueF xs).Pairwise (· < ·) := by
  have a := AgO.of h
  unfold trueF
  have nd : (srtJ (((lastF xs).1.filter (fun e => decide (e.1.i 2 ≤ agLo xs) && decide (e.1.i 3 ≥ agHi xs))).map (fun e => e.1.i 0))).Nodup := by
    refine (srtJ_perm _).nodup_iff.2 ?_
    exact List.pairwise_map.2 (a.ok.key.filter _)
  exact (List.Pairwise.and (srtJ_so _) nd).imp fun {x y} hxy => by
    have h1 := hxy.1
    have h2 := hxy.2
    omega
theorem l_many (len cap : Nat) (q : Bool) (ob : Obj) (xs : List Rw) (hxs : xs.length = len) : ACall I P 5 [.slq 0 len cap q] (Tr.ofList 0 [.out ob [.i .i64, .i .i64, .i .i64] xs] .leaf) (fun v _ => v = .bool true) := by
  have nil : ACall I P 5 [.nils] (Tr.ofList 0 [.out ob [.i .i64, .i .i64, .i .i64] xs] .leaf) (fun v _ => v = .bool true) := by
    refine (hcallG mix gB2 (fn := Try.f5) (K := fun v _ _ => v = .bool true) (by kernel_rfl) (by kernel_rfl) (by kernel_rfl) [] [] [.nils] rfl rfl rfl trivial rfl rfl (fun hr ho => (t_lmanyN I _).mpr ?_)).mono fun v hp' ⟨_, h⟩ => h
    have hE : agE [] = 10 := rfl
    refine ⟨by decide, by decide, fun _ => ?_, fun h => absurd h (by rw [hE]; decide)⟩
    refine ALoop.start [] [5, 6, 7, 24, 25] 0 (q_m0 0 10) (by kernel_rfl) (by kernel_rfl) ?_
    refine ALoop.stepg [] [5, 6, 7, 24, 25] 0 ?_
    exact (t_mnyN I _ _ 0 10).mpr ⟨[], 0, rfl, trivial, rfl, rfl, rfl⟩
  refine ACall.slq (nil.mono fun _ _ _ => trivial) (fun _ _ _ => nil) (fun hq => ?_)
  refine ocall mix gB2 (fn := Try.f5) (by kernel_rfl) (by kernel_rfl) (by kernel_rfl) [.out ob [.i .i64, .i .i64, .i .i64] xs] _ rfl rfl (fun hr ho => ?_)
  refine (t_lmany I (fun v _ _ => v = .bool true) len cap ob xs).mpr (bsplit_both (fun _ => rfl) (fun h64 => ?_))
  have h64 := of_decide_eq_false h64
  have ht : List.take len xs = xs := List.take_of_length_le (by omega)
  rw [ht]
  refine ⟨by omega, by omega, by omega, by omega, fun hE => ?_, fun hE => ⟨fun hT => ?_, fun hT c0 room => ?_⟩⟩
  · refine ALoop.start [] [5, 6, 7, 24, 25] 1 (q_mN ob xs (agVo xs) (agE xs)) (by kernel_rfl) (by kernel_rfl) ?_
    refine ALoop.stepg [] [5, 6, 7, 24, 25] 1 ?_
    refine (t_mny0 I _ _ ob xs (agVo xs) (agE xs)).mpr (bs_f (by simpa using hE) (bs_t (by simpa using hE) rfl))
  · refine ALoop.start [] [5, 6, 7, 24, 25] 1 (q_mN ob xs (agVo xs) (agE xs)) (by kernel_rfl) (by kernel_rfl) ?_
    refine ALoop.stepg [] [5, 6, 7, 24, 25] 1 ?_
    have hl := tr_len hE
    rw [hT] at hl
    refine (t_mny0 I _ _ ob xs (agVo xs) (agE xs)).mpr (bs_t (by simpa using hE) (bs_t (decide_eq_true (by simpa using hl)) rfl))
  · have hl := tr_len hE
    have hu := tr_up hE
    generalize trueF xs = ts at hl hu hT ⊢
    have hlen : (ts.map iR).length = ts.length := List.length_map ..
    refine ALoop.invg (ps := [(1, 1)]) (ts := [5, 6, 7, 24, 25]) (nx := 2) (fun i : Nat => q_mR ob xs (agVo xs) (agE xs) (ts.map iR) ts.length c0 room (i : Nat)) (fun i => i ≤ ts.length) (fun i => ts.length - i) ?_ (by kernel_rfl) 0 (by kernel_rfl) (Nat.zero_le _)
    intro i hi
    have hv : agVo xs ≤ 64 := by
      have a := AgO.of hE
      rw [← a.at_ (agLo xs) (Int.le_refl _) a.lh]
      unfold vS
      have h1 := List.length_filter_le (fun e : Rw × Nat => decide (e.1.i 2 ≤ agLo xs) && decide (agLo xs ≤ e.1.i 3)) (lastF xs).1
      have h2 := a.ok.ln
      omega
    refine (t_mny I _ _ ob xs (ts.map iR) (agVo xs) (agE xs) ts.length c0 room (i : Nat)).mpr (bsplit_both (fun hx => ?_) (fun hx => ?_))
    · have hx : (i : Int) < (ts.length : Int) := of_decide_eq_true hx
      have nxt : ∃ y : Nat, y ≤ ts.length ∧ ts.length - y < ts.length - i ∧ q_mR ob xs (agVo xs) (agE xs) (ts.map iR) ts.length c0 room (IntKind.i64.wrap ((i : Int) + 1)) = q_mR ob xs (agVo xs) (agE xs) (ts.map iR) ts.length c0 room (y : Nat) := ⟨i + 1, by omega, by omega, by rw [w_id (n := (i : Int) + 1) (by omega) (by omega)]; rfl⟩
      refine bsplit_both (fun h0 => ?_) (fun h0 => nxt)
      have h0 : (i : Int) > 0 := of_decide_eq_true h0
      rw [show IntKind.i64.wrap ((i : Int) - 1) = ((i - 1 : Nat) : Int) by rw [w_id (by omega) (by omega)]; omega]
      refine must_mk (decide_eq_true ⟨by omega, by omega⟩) (must_mk (decide_eq_true ⟨by omega, hx⟩) ?_)
      have g0 : (ts.map iR)[((i - 1 : Nat) : Int).toNat]? = some (iR ts[i - 1]) := by rw [Int.toNat_natCast, List.getElem?_map, List.getElem?_eq_getElem (by omega)]; rfl
      have g1 : (ts.map iR)[((i : Nat) : Int).toNat]? = some (iR ts[i]) := by rw [Int.toNat_natCast, List.getElem?_map, List.getElem?_eq_getElem (by omega)]; rfl
      refine xget_mk g0 (xget_mk g1 (bs_f (decide_eq_false ?_) nxt))
      have := List.pairwise_iff_getElem.1 hu (i - 1) i (by omega) (by omega) (by omega)
      show ¬ ts[i - 1] ≥ ts[i]
      omega
    · exact bs_t (by simpa using hE) (bs_t (decide_eq_true hl) rfl)
end Go.Tb.W

