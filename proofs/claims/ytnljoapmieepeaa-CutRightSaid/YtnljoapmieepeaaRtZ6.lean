/- Texts of this proof, run together. -/
import Derived.Test.YtnljoapmieepeaaRtZ5
/- Claims: where more than half are right; plain law. -/
set_option linter.all false
set_option maxRecDepth 100000
namespace Go.Tb.W
open Go Go.Proofs
def wrg (ws : List Rw) (i : Nat) : Bool := decide (i < ws.length) && (gE ws i).b 0
def rowC (off : Int) (xs ws : List Rw) (i : Nat) : Rw := match wrg ws i with
  | true => rwA [.int .i64 (i : Int), .int .i64 (off + 1 + (gE xs i).i 0), .int .i64 (off + 1 + (gE xs i).i 0 + (gE xs i).i 1)]
  | false => rwA [.int .i64 (i : Int), .int .i64 (off - (gE xs i).i 0), .int .i64 (off + (gE xs i).i 1)]
def rowsC (off : Int) (xs ws : List Rw) (j : Nat) : List Rw := (List.range j).map (rowC off xs ws)
def rights (ws : List Rw) (j : Nat) : Nat := (List.range j).countP (fun i => !wrg ws i)
/-- Does a right one meet what is agreed on? -/
def meet (off : Int) (xs ws : List Rw) (lo hi : Int) (i : Nat) : Bool := !wrg ws i && (decide ((rowC off xs ws i).i 1 ≤ hi) && decide ((rowC off xs ws i).i 2 ≥ lo))
section
variable {off : Int} {xs ws : List Rw}
theorem rowC_t {i : Nat} (h : wrg ws i = true) : rowC off xs ws i = rwA [.int .i64 (i : Int), .int .i64 (off + 1 + (gE xs i).i 0), .int .i64 (off + 1 + (gE xs i).i 0 + (gE xs i).i 1)] := by unfold rowC; rw [h]
theorem rowC_f {i : Nat} (h : wrg ws i = false) : rowC off xs ws i = rwA [.int .i64 (i : Int), .int .i64 (off - (gE xs i).i 0), .int .i64 (off + (gE xs i).i 1)] := by unfold rowC; rw [h]
theorem rowsC_len (j : Nat) : (rowsC off xs ws j).length = j := by unfold rowsC; rw [List.length_map, List.length_range]
theorem rowsC_add (j : Nat) : rowsC off xs ws (j + 1) = rowsC off xs ws j ++ [rowC off xs ws j] := by unfold rowsC; rw [List.range_succ, List.map_append]; rfl
theorem rights_add (j : Nat) : rights ws (j + 1) = rights ws j + (if wrg ws j = true then 0 else 1) := by
  unfold rights
  rw [List.range_succ, List.countP_append, List.countP_cons, List.countP_nil]
  cases wrg ws j <;> simp
theorem rights_le (j : Nat) : rights ws j ≤ j := by
  unfold rights
  have := List.countP_le_length (p := fun i => !wrg ws i) (l := List.range j)
  rwa [List.length_range] at this
theorem rowC_id (i : Nat) : (rowC off xs ws i).i 0 = (i : Int) := by
  unfold rowC; cases wrg ws i <;> rfl
theorem rowsC_pw (j : Nat) : (rowsC off xs ws j).Pairwise (fun x y => x.i 0 ≠ y.i 0) := by
  refine List.pairwise_map.2 (List.nodup_range.imp fun {x y} h e => h ?_)
  rw [rowC_id, rowC_id] at e
  omega
theorem right_v (j : Nat) (x : Int) : vS (lastF (rowsC off xs ws j)).1 x = (((List.range j).countP (fun i => decide ((rowC off xs ws i).i 1 ≤ x) && decide (x ≤ (rowC off xs ws i).i 2)) : Nat) : Int) := by
  rw [vS_ids (rowsC_pw j)]
  unfold vX rowsC
  rw [List.countP_map]; rfl
variable (hx : ∀ i, i < xs.length → (0 ≤ (gE xs i).i 0 ∧ (gE xs i).i 0 ≤ 65535) ∧ 0 ≤ (gE xs i).i 1 ∧ (gE xs i).i 1 ≤ 65535) (ho : -1125899906842624 < off ∧ off < 1125899906842624)
include hx ho
theorem right_may {j : Nat} (hj : j ≤ xs.length) (h40 : j ≤ 40) : ∀ x ∈ rowsC off xs ws j, mayR x = true := fun x hxm => by
  obtain ⟨i, hi, rfl⟩ := List.mem_map.1 hxm
  have hi := List.mem_range.1 hi
  obtain ⟨⟨a1, a2⟩, a3, a4⟩ := hx i (by omega)
  cases hw : wrg ws i with
  | true =>
    rw [rowC_t hw]
    show decide (0 ≤ (i : Int) ∧ off + 1 + (gE xs i).i 0 ≤ off + 1 + (gE xs i).i 0 + (gE xs i).i 1 ∧ -1152921504606846976 ≤ off + 1 + (gE xs i).i 0 ∧ off + 1 + (gE xs i).i 0 + (gE xs i).i 1 ≤ 1152921504606846976) = true
    exact decide_eq_true ⟨Int.natCast_nonneg i, by omega, by omega, by omega⟩
  | false =>
    rw [rowC_f hw]
    show decide (0 ≤ (i : Int) ∧ off - (gE xs i).i 0 ≤ off + (gE xs i).i 1 ∧ -1152921504606846976 ≤ off - (gE xs i).i 0 ∧ off + (gE xs i).i 1 ≤ 1152921504606846976) = true
    exact decide_eq_true ⟨Int.natCast_nonneg i, by omega, by omega, by omega⟩
theorem right_at {j : Nat} (hj : j ≤ xs.length) : vS (lastF (rowsC off xs ws j)).1 off = (rights ws j : Nat) := by
  rw [right_v]
  unfold rights
  refine congrArg _ (List.countP_congr fun i hi => ?_)
  have hi := List.mem_range.1 hi
  obtain ⟨⟨a1, a2⟩, a3, a4⟩ := hx i (by omega)
  cases hw : wrg ws i with
  | true =>
    rw [rowC_t hw]
    show (decide (off + 1 + (gE xs i).i 0 ≤ off) && decide (off ≤ off + 1 + (gE xs i).i 0 + (gE xs i).i 1)) = true ↔ _
    rw [decide_eq_false (p := off + 1 + (gE xs i).i 0 ≤ off) (by omega)]; simp
  | false =>
    rw [rowC_f hw]
    show (decide (off - (gE xs i).i 0 ≤ off) && decide (off ≤ off + (gE xs i).i 1)) = true ↔ _
    rw [decide_eq_true (p := off - (gE xs i).i 0 ≤ off) (by omega), decide_eq_true (p := off ≤ off + (gE xs i).i 1) (by omega)]; simp
theorem right_law {j : Nat} (hj : j ≤ xs.length) (h40 : j ≤ 40) (hr : j < 2 * rights ws j) : agE (rowsC off xs ws j) = 0 ∧ (rights ws j : Int) ≤ agVo (rowsC off xs ws j) ∧
    (List.range j).any (meet off xs ws (agLo (rowsC off xs ws j)) (agHi (rowsC off xs ws j))) = true ∧ (rights ws j < j ∨ (agLo (rowsC off xs ws j) ≤ off ∧ off ≤ agHi (rowsC off xs ws j))) := by
  have hat := right_at (ws := ws) hx ho hj
  have hE : agE (rowsC off xs ws j) = 0 := ag_ok (right_may hx ho hj h40) (by rw [rowsC_len]; omega) (x := off) (by rw [hat, rowsC_len]; omega)
  have g := AgO.of hE
  have hv : (rights ws j : Int) ≤ agVo (rowsC off xs ws j) := by rw [← hat]; exact g.all off
  have lh := g.lh
  have gl := g.at_ _ (Int.le_refl _) lh
  have hle : ∀ x, vS (lastF (rowsC off xs ws j)).1 x ≤ j := fun x => by
    rw [right_v]
    have := List.countP_le_length (p := fun i => decide ((rowC off xs ws i).i 1 ≤ x) && decide (x ≤ (rowC off xs ws i).i 2)) (l := List.range j)
    rw [List.length_range] at this
    omega
  refine ⟨hE, hv, ?_, ?_⟩
  · cases hany : (List.range j).any (meet off xs ws (agLo (rowsC off xs ws j)) (agHi (rowsC off xs ws j))) with
    | true => rfl
    | false =>
      exfalso
      have hno := List.any_eq_false.1 hany
      have h1 : vS (lastF (rowsC off xs ws j)).1 (agLo (rowsC off xs ws j)) ≤ (((List.range j).countP (fun i => wrg ws i) : Nat) : Int) := by
        rw [right_v]
        refine Int.ofNat_le.2 (List.countP_mono_left fun i hi hc => ?_)
        have := hno i hi
        simp only [Bool.and_eq_true, decide_eq_true_eq] at hc
        cases hw : wrg ws i with
        | true => rfl
        | false =>
          exfalso
          apply this
          unfold meet
          rw [hw, decide_eq_true (p := (rowC off xs ws i).i 1 ≤ agHi (rowsC off xs ws j)) (by omega), decide_eq_true (p := (rowC off xs ws i).i 2 ≥ agLo (rowsC off xs ws j)) hc.2]; rfl
      have h2 := List.length_eq_countP_add_countP (fun i => wrg ws i) (l := List.range j)
      rw [List.length_range] at h2
      have h3 : (List.range j).countP (fun a => decide ¬ wrg ws a = true) = rights ws j := by
        unfold rights
        refine List.countP_congr fun i _ => ?_
        cases wrg ws i <;> simp
      rw [h3] at h2
      omega
  · by_cases c : rights ws j < j
    · exact .inl c
    · have hrj := rights_le (ws := ws) j
      have hvj : agVo (rowsC off xs ws j) = (j : Int) := by have := hle (agLo (rowsC off xs ws j)); omega
      have hoj : vS (lastF (rowsC off xs ws j)).1 off = (j : Int) := by omega
      refine .inr ⟨?_, ?_⟩
      · by_cases d : off < agLo (rowsC off xs ws j)
        · have := g.bef off d; omega
        · omega
      · by_cases d : agHi (rowsC off xs ws j) < off
        · exfalso
          have hf := g.aft
          rw [hvj] at hf gl
          refine hf ?_
          rw [right_v] at gl hoj ⊢
          have k1 := (List.countP_eq_length (p := fun i => decide ((rowC off xs ws i).i 1 ≤ agLo (rowsC off xs ws j)) && decide (agLo (rowsC off xs ws j) ≤ (rowC off xs ws i).i 2)) (l := List.range j)).1 (by rw [List.length_range]; exact Int.ofNat_inj.1 gl)
          have k2 := (List.countP_eq_length (p := fun i => decide ((rowC off xs ws i).i 1 ≤ off) && decide (off ≤ (rowC off xs ws i).i 2)) (l := List.range j)).1 (by rw [List.length_range]; exact Int.ofNat_inj.1 hoj)
          rw [List.countP_eq_length.2 fun i hi => ?_, List.length_range]
          have m1 := k1 i hi
          have m2 := k2 i hi
          simp only [Bool.and_eq_true, decide_eq_true_eq] at m1 m2 ⊢
          omega
        · omega
end
end Go.Tb.W

/- Claims: the law of right. -/
set_option linter.all false
set_option maxRecDepth 100000
set_option maxHeartbeats 4000000
namespace Go.Tb.W
open Go Go.Proofs
variable {I : Interp O}
noncomputable abbrev Rj (off : Int) (n0 c0 n1 c1 : Nat) (q0 q1 : Bool) (ob0 ob1 : Obj) (xs ws : List Rw) (x : Option (Nat × Nat)) : St O := match x with
  | none => q_r0 off n0 c0 n1 c1 q0 q1 ob0 ob1 xs ws
  | some (j, c) => q_rR off n0 c0 n1 c1 q0 q1 ob0 ob1 xs ws j c (c * 3) (rowsC off xs ws j) (rights ws j : Nat) (j : Nat)
def Rg (n : Nat) (x : Option (Nat × Nat)) : Prop := match x with
  | none => True
  | some (j, _) => 1 ≤ j ∧ j ≤ n ∧ j ≤ 40
theorem xs_u2 {ob : Obj} {xs : List Rw} {l : List (AO O)} (ho : RgOs ((.out ob [.i .u16, .i .u16] xs : AO O) :: l)) : ∀ i, i < xs.length → (0 ≤ (gE xs i).i 0 ∧ (gE xs i).i 0 ≤ 65535) ∧ 0 ≤ (gE xs i).i 1 ∧ (gE xs i).i 1 ≤ 65535 := fun i hi => by
  have := ho.1 (gE xs i) (List.mem_of_getElem? (gE_get hi))
  simp only [encR, encS, rgs, rg, Bool.and_eq_true] at this
  have r : ∀ {n : Int}, inK .u16 n = true → 0 ≤ n ∧ n ≤ 65535 := fun h => by simpa [inK_iff, loK, hiK] using h
  exact ⟨r this.1, r this.2.1⟩
theorem l_right (off : Int) (n0 c0 : Nat) (q0 : Bool) (ob0 : Obj) (xs : List Rw) (hx0 : xs.length = n0) (n1 c1 : Nat) (q1 : Bool) (ob1 : Obj) (ws : List Rw) (hw0 : ws.length = n1) :
    ACall I P 4 [.int .i64 off, .slq 0 n0 c0 q0, .slq 1 n1 c1 q1] (Tr.ofList 0 [.out ob0 [.i .u16, .i .u16] xs, .out ob1 [.b] ws] .leaf) (fun v _ => v = .bool true) := by
  refine ocall mix gB2 (fn := Try.f4) (by kernel_rfl) (by kernel_rfl) (by kernel_rfl) [.out ob0 [.i .u16, .i .u16] xs, .out ob1 [.b] ws] _ rfl rfl (fun hr ho => ?_)
  have hxu := xs_u2 ho
  refine (t_lright I (fun v _ _ => v = .bool true) off n0 c0 n1 c1 q0 q1 ob0 ob1 xs ws).mpr ?_
  refine ALoop.start [(2, 2)] [0, 1, 2, 7, 8, 9] 3 (q_r0 (off.tmod 1125899906842624) n0 c0 n1 c1 q0 q1 ob0 ob1 xs ws) (by kernel_rfl) (by kernel_rfl) ?_
  have hoff : -1125899906842624 < off.tmod 1125899906842624 ∧ off.tmod 1125899906842624 < 1125899906842624 := by
    rcases Int.le_total 0 off with h | h
    · rw [Int.tmod_eq_emod_of_nonneg h]; omega
    · have e : off.tmod 1125899906842624 = -((-off).tmod 1125899906842624) := by rw [Int.neg_tmod]; omega
      rw [e, Int.tmod_eq_emod_of_nonneg (by omega)]; omega
  generalize off.tmod 1125899906842624 = of at hoff ⊢
  refine ALoop.invjL (pss := [[(2, 2)], [(3, 2)], [(4, 2)], [(5, 2)], [(6, 2)], [(7, 2)], [(8, 2)]]) (ts := [0, 1, 2, 7, 8, 9]) (nx := 3) (Rj of n0 c0 n1 c1 q0 q1 ob0 ob1 xs ws) (Rg n0) (fun x => match x with | none => n0 + 1 | some (j, _) => n0 - j) ?_ none trivial
  have leafR : ∀ (j c' : Nat) (A B r i : Int) (zs : List Rw) (m : Nat), j < n0 → j < 40 → wrg ws j = false → zs = rowsC of xs ws j → A = of - (gE xs j).i 0 → B = of + (gE xs j).i 1 → r = (rights ws j : Nat) + 1 → i = ((j + 1 : Nat) : Int) → n0 - (j + 1) < m → ∃ y : Option (Nat × Nat), Rg n0 y ∧ (match y with | none => n0 + 1 | some (j, _) => n0 - j) < m ∧ q_rR of n0 c0 n1 c1 q0 q1 ob0 ob1 xs ws (j + 1) c' (c' * 3) (zs ++ [rwA [.int .i64 (j : Int), .int .i64 A, .int .i64 B]]) r i = Rj of n0 c0 n1 c1 q0 q1 ob0 ob1 xs ws y := fun j c' A B r i zs m h1 h2 hw hz hA hB hr hi hm =>
    ⟨some (j + 1, c'), ⟨by omega, by omega, by omega⟩, hm, by
      rw [hz, hA, hB, hr, hi]
      show _ = q_rR of n0 c0 n1 c1 q0 q1 ob0 ob1 xs ws (j + 1) c' (c' * 3) (rowsC of xs ws (j + 1)) (rights ws (j + 1) : Nat) ((j + 1 : Nat) : Int)
      rw [rowsC_add, rights_add, rowC_f hw, hw]; rfl⟩
  have leafW : ∀ (j c' : Nat) (A B r i : Int) (zs : List Rw) (m : Nat), j < n0 → j < 40 → wrg ws j = true → zs = rowsC of xs ws j → A = of + 1 + (gE xs j).i 0 → B = of + 1 + (gE xs j).i 0 + (gE xs j).i 1 → r = (rights ws j : Nat) → i = ((j + 1 : Nat) : Int) → n0 - (j + 1) < m → ∃ y : Option (Nat × Nat), Rg n0 y ∧ (match y with | none => n0 + 1 | some (j, _) => n0 - j) < m ∧ q_rR of n0 c0 n1 c1 q0 q1 ob0 ob1 xs ws (j + 1) c' (c' * 3) (zs ++ [rwA [.int .i64 (j : Int), .int .i64 A, .int .i64 B]]) r i = Rj of n0 c0 n1 c1 q0 q1 ob0 ob1 xs ws y := fun j c' A B r i zs m h1 h2 hw hz hA hB hr hi hm =>
    ⟨some (j + 1, c'), ⟨by omega, by omega, by omega⟩, hm, by
      rw [hz, hA, hB, hr, hi]
      show _ = q_rR of n0 c0 n1 c1 q0 q1 ob0 ob1 xs ws (j + 1) c' (c' * 3) (rowsC of xs ws (j + 1)) (rights ws (j + 1) : Nat) ((j + 1 : Nat) : Int)
      rw [rowsC_add, rights_add, rowC_t hw, hw]; rfl⟩
  rintro (_ | ⟨j, c⟩) g
  · refine (t_rt0 I _ _ of n0 c0 n1 c1 q0 q1 ob0 ob1 xs ws).mpr (bsplit_both (fun hn => ?_) (fun hn => ⟨Nat.zero_le _, by decide, rfl⟩))
    have hn : (0 : Int) < (n0 : Int) := of_decide_eq_true hn
    have hd : decide ((0 : Int) ≤ 0 ∧ (0 : Int) < (n0 : Int)) = true := decide_eq_true ⟨by omega, hn⟩
    have hg : xs[0]? = some (gE xs 0) := gE_get (by omega)
    obtain ⟨⟨a1, a2⟩, a3, a4⟩ := hxu 0 (by omega)
    have w0 : IntKind.i64.wrap ((gE xs 0).i 0) = (gE xs 0).i 0 := w_id (by omega) (by omega)
    have w1 : IntKind.i64.wrap ((gE xs 0).i (0 + 1)) = (gE xs 0).i 1 := w_id (by show _ ≤ (gE xs 0).i 1; omega) (by show (gE xs 0).i 1 ≤ _; omega)
    have wo : IntKind.i64.wrap (of + 1) = of + 1 := w_id (by omega) (by omega)
    have wA : IntKind.i64.wrap (of - (gE xs 0).i 0) = of - (gE xs 0).i 0 := w_id (by omega) (by omega)
    have wB : IntKind.i64.wrap (of + (gE xs 0).i 1) = of + (gE xs 0).i 1 := w_id (by omega) (by omega)
    have wC : IntKind.i64.wrap (of + 1 + (gE xs 0).i 0) = of + 1 + (gE xs 0).i 0 := w_id (by omega) (by omega)
    have wD : IntKind.i64.wrap (of + 1 + (gE xs 0).i 0 + (gE xs 0).i 1) = of + 1 + (gE xs 0).i 0 + (gE xs 0).i 1 := w_id (by omega) (by omega)
    refine must_mk hd (must_mk hd ⟨xget_mk hg (xget_mk hg ?_), xget_mk hg (xget_mk hg ?_)⟩)
    all_goals
      refine bsplit_both (fun h1 => ?_) (fun h1 => ?_)
      · have h1 : (0 : Int) < (n1 : Int) := of_decide_eq_true h1
        have hgw : ws[0]? = some (gE ws 0) := gE_get (by omega)
        refine must_mk (decide_eq_true ⟨by omega, h1⟩) (xget_mk hgw (bsplit_both (fun hb => ?_) (fun hb => ?_)))
        · have hw : wrg ws 0 = true := by unfold wrg; rw [hb, decide_eq_true (by omega)]; rfl
          refine must_mk hd (must_mk hd (must_mk hd ?_))
          repeat' (first
            | refine xget_mk hg ?_
            | exact ⟨by omega, fun c' _ _ => leafW 0 c' _ _ _ _ _ _ (by omega) (by omega) hw rfl (by rw [wo, w0, wC]) (by rw [wo, w0, wC, w1, wD]) rfl rfl (by show n0 - (0 + 1) < n0 + 1; omega)⟩
            | apply And.intro)
        · have hw : wrg ws 0 = false := by unfold wrg; rw [hb, Bool.and_false]
          exact ⟨by omega, fun c' _ _ => leafR 0 c' _ _ _ _ _ _ (by omega) (by omega) hw rfl (by rw [w0, wA]) (by rw [w1, wB]) rfl rfl (by show n0 - (0 + 1) < n0 + 1; omega)⟩
      · have h1 := of_decide_eq_false h1
        have hw : wrg ws 0 = false := by unfold wrg; rw [decide_eq_false (by omega)]; rfl
        exact ⟨by omega, fun c' _ _ => leafR 0 c' _ _ _ _ _ _ (by omega) (by omega) hw rfl (by rw [w0, wA]) (by rw [w1, wB]) rfl rfl (by show n0 - (0 + 1) < n0 + 1; omega)⟩
  · obtain ⟨g1, g2, g3⟩ : 1 ≤ j ∧ j ≤ n0 ∧ j ≤ 40 := g
    have hrl := rights_le (ws := ws) j
    have htk : List.take j (rowsC of xs ws j) = rowsC of xs ws j := List.take_of_length_le (by rw [rowsC_len]; exact Nat.le_refl _)
    refine (t_rtR I _ _ of n0 c0 n1 c1 q0 q1 ob0 ob1 xs ws j c (c * 3) (rowsC of xs ws j) (rights ws j : Nat) (j : Nat)).mpr (bsplit_both (fun hn => bsplit_both (fun h40 => ?_) (fun h40 => ?_)) (fun hn => ?_))
    · have hn : (j : Int) < (n0 : Int) := of_decide_eq_true hn
      have h40 : (j : Int) < 40 := of_decide_eq_true h40
      have hd : decide ((0 : Int) ≤ (j : Int) ∧ (j : Int) < (n0 : Int)) = true := decide_eq_true ⟨by omega, hn⟩
      have hg : xs[((j : Nat) : Int).toNat]? = some (gE xs j) := by rw [Int.toNat_natCast]; exact gE_get (by omega)
      have hm : (j.ble (rowsC of xs ws j).length && (c * [Sh.i IntKind.i64, Sh.i IntKind.i64, Sh.i IntKind.i64].length).ble (c * 3) && Nat.blt 2 16777215) = true := by
        rw [rowsC_len, Bool.and_eq_true, Bool.and_eq_true]
        exact ⟨⟨by rw [Nat.ble_eq]; exact Nat.le_refl _, by rw [Nat.ble_eq]; exact Nat.le_refl _⟩, rfl⟩
      obtain ⟨⟨a1, a2⟩, a3, a4⟩ := hxu j (by omega)
      have wi : IntKind.i64.wrap ((j : Int) + 1) = ((j + 1 : Nat) : Int) := by rw [w_id (by omega) (by omega)]; omega
      have w0 : IntKind.i64.wrap ((gE xs j).i 0) = (gE xs j).i 0 := w_id (by omega) (by omega)
      have w1 : IntKind.i64.wrap ((gE xs j).i (0 + 1)) = (gE xs j).i 1 := w_id (by show _ ≤ (gE xs j).i 1; omega) (by show (gE xs j).i 1 ≤ _; omega)
      have wr : IntKind.i64.wrap (((rights ws j : Nat) : Int) + 1) = (rights ws j : Nat) + 1 := w_id (by omega) (by omega)
      have wo : IntKind.i64.wrap (of + 1) = of + 1 := w_id (by omega) (by omega)
      have wA : IntKind.i64.wrap (of - (gE xs j).i 0) = of - (gE xs j).i 0 := w_id (by omega) (by omega)
      have wB : IntKind.i64.wrap (of + (gE xs j).i 1) = of + (gE xs j).i 1 := w_id (by omega) (by omega)
      have wC : IntKind.i64.wrap (of + 1 + (gE xs j).i 0) = of + 1 + (gE xs j).i 0 := w_id (by omega) (by omega)
      have wD : IntKind.i64.wrap (of + 1 + (gE xs j).i 0 + (gE xs j).i 1) = of + 1 + (gE xs j).i 0 + (gE xs j).i 1 := w_id (by omega) (by omega)
      refine must_mk hd (must_mk hd ⟨xget_mk hg (xget_mk hg ?_), xget_mk hg (xget_mk hg ?_)⟩)
      all_goals
        refine bsplit_both (fun h1 => ?_) (fun h1 => ?_)
        · have h1 : (j : Int) < (n1 : Int) := of_decide_eq_true h1
          have hgw : ws[((j : Nat) : Int).toNat]? = some (gE ws j) := by rw [Int.toNat_natCast]; exact gE_get (by omega)
          refine must_mk (decide_eq_true ⟨by omega, h1⟩) (xget_mk hgw (bsplit_both (fun hb => ?_) (fun hb => ?_)))
          · have hw : wrg ws j = true := by unfold wrg; rw [hb, decide_eq_true (by omega)]; rfl
            refine must_mk hd (must_mk hd (must_mk hd ?_))
            repeat' (first
              | refine xget_mk hg ?_
              | exact must_mk hm ⟨by omega, fun c' _ _ => leafW j c' _ _ _ _ _ _ (by omega) (by omega) hw htk (by rw [wo, w0, wC]) (by rw [wo, w0, wC, w1, wD]) rfl wi (by show n0 - (j + 1) < n0 - j; omega)⟩
              | apply And.intro)
          · have hw : wrg ws j = false := by unfold wrg; rw [hb, Bool.and_false]
            exact must_mk hm ⟨by omega, fun c' _ _ => leafR j c' _ _ _ _ _ _ (by omega) (by omega) hw htk (by rw [w0, wA]) (by rw [w1, wB]) wr wi (by show n0 - (j + 1) < n0 - j; omega)⟩
        · have h1 := of_decide_eq_false h1
          have hw : wrg ws j = false := by unfold wrg; rw [decide_eq_false (by omega)]; rfl
          exact must_mk hm ⟨by omega, fun c' _ _ => leafR j c' _ _ _ _ _ _ (by omega) (by omega) hw htk (by rw [w0, wA]) (by rw [w1, wB]) wr wi (by show n0 - (j + 1) < n0 - j; omega)⟩
    · refine ⟨by rw [rowsC_len]; exact Nat.le_refl _, by rw [htk, rowsC_len]; omega, ?_⟩
      rw [htk, w_id (n := 2 * ((rights ws j : Nat) : Int)) (by omega) (by omega)]
      refine bsplit_both (fun _ => rfl) (fun h2 => ?_)
      have h2 := of_decide_eq_false h2
      obtain ⟨r1, r2, r3, r4⟩ := right_law (off := of) (xs := xs) (ws := ws) hxu hoff (j := j) (by omega) g3 (by omega)
      refine bs_f (by rw [r1]; rfl) (bs_f (decide_eq_false (by omega)) ?_)
      generalize agLo (rowsC of xs ws j) = lo at r3 r4 ⊢
      generalize agHi (rowsC of xs ws j) = hi at r3 r4 ⊢
      refine ALoop.start [(2, 2)] [0, 2, 7, 8, 11, 12, 15, 113, 114, 115] 3 (q_rM of n1 c1 q1 ob0 ob1 xs ws j c (c * 3) (rowsC of xs ws j) (rights ws j : Nat) lo hi false 0) (by kernel_rfl) (by kernel_rfl) ?_
      refine ALoop.invj (ps := [(2, 2)]) (ts := [0, 2, 7, 8, 11, 12, 15, 113, 114, 115]) (nx := 3) (fun i : Nat => q_rM of n1 c1 q1 ob0 ob1 xs ws j c (c * 3) (rowsC of xs ws j) (rights ws j : Nat) lo hi ((List.range i).any (meet of xs ws lo hi)) (i : Nat)) (fun i => i ≤ j) (fun i => j - i) ?_ 0 (Nat.zero_le _)
      intro i hi2
      refine (t_rtM I _ (fun _ => True) _ of n1 c1 q1 ob0 ob1 xs ws j c (c * 3) (rowsC of xs ws j) (rights ws j : Nat) lo hi ((List.range i).any (meet of xs ws lo hi)) (i : Nat)).mpr (bsplit_both (fun hx => ?_) (fun hx => ?_))
      · have hx : (i : Int) < (j : Int) := of_decide_eq_true hx
        have hgr : (rowsC of xs ws j)[((i : Nat) : Int).toNat]? = some (rowC of xs ws i) := by rw [Int.toNat_natCast]; unfold rowsC; rw [List.getElem?_map, List.getElem?_range (by omega)]; rfl
        have nxt : ∀ mt : Bool, mt = ((List.range i).any (meet of xs ws lo hi) || meet of xs ws lo hi i) → ∃ y : Nat, y ≤ j ∧ j - y < j - i ∧ q_rM of n1 c1 q1 ob0 ob1 xs ws j c (c * 3) (rowsC of xs ws j) (rights ws j : Nat) lo hi mt (IntKind.i64.wrap ((i : Int) + 1)) = q_rM of n1 c1 q1 ob0 ob1 xs ws j c (c * 3) (rowsC of xs ws j) (rights ws j : Nat) lo hi ((List.range y).any (meet of xs ws lo hi)) (y : Nat) := fun mt hmt => ⟨i + 1, by omega, by omega, by rw [hmt, w_id (n := (i : Int) + 1) (by omega) (by omega), List.range_succ, List.any_append, List.any_cons, List.any_nil, Bool.or_false]; rfl⟩
        have mF : wrg ws i = false → meet of xs ws lo hi i = (decide ((rowC of xs ws i).i 1 ≤ hi) && decide ((rowC of xs ws i).i 2 ≥ lo)) := fun h => by unfold meet; rw [h]; rfl
        have mT : wrg ws i = true → meet of xs ws lo hi i = false := fun h => by unfold meet; rw [h]; rfl
        refine must_mk (decide_eq_true ⟨by omega, hx⟩) (xget_mk hgr (bsplit_both (fun h1 => ?_) (fun h1 => ?_)))
        · have h1 := of_decide_eq_true h1
          have hw : wrg ws i = false := by unfold wrg; rw [decide_eq_false (by omega)]; rfl
          refine bsplit_both (fun e1 => bsplit_both (fun e2 => nxt true ?_) (fun e2 => nxt _ ?_)) (fun e1 => nxt _ ?_)
          · rw [mF hw]; simp only [Nat.zero_add] at e1 e2; rw [e1, e2]; simp
          · rw [mF hw]; simp only [Nat.zero_add] at e1 e2; rw [e2]; simp
          · rw [mF hw]; simp only [Nat.zero_add] at e1; rw [e1]; simp
        · have h1 := of_decide_eq_false h1
          have hgw : ws[((i : Nat) : Int).toNat]? = some (gE ws i) := by rw [Int.toNat_natCast]; exact gE_get (by omega)
          refine must_mk (decide_eq_true ⟨by omega, by omega⟩) (xget_mk hgw (bsplit_both (fun hb => ?_) (fun hb => nxt _ ?_)))
          · have hw : wrg ws i = false := by
              unfold wrg
              have hb2 : (gE ws i).b 0 = false := by simpa using hb
              rw [hb2, Bool.and_false]
            refine bsplit_both (fun e1 => bsplit_both (fun e2 => nxt true ?_) (fun e2 => nxt _ ?_)) (fun e1 => nxt _ ?_)
            · rw [mF hw]; simp only [Nat.zero_add] at e1 e2; rw [e1, e2]; simp
            · rw [mF hw]; simp only [Nat.zero_add] at e1 e2; rw [e2]; simp
            · rw [mF hw]; simp only [Nat.zero_add] at e1; rw [e1]; simp
          · have hw : wrg ws i = true := by
              unfold wrg
              rw [decide_eq_true (by omega), Bool.true_and]
              simpa using hb
            rw [mT hw, Bool.or_false]
      · have hx : ¬ (i : Int) < (j : Int) := of_decide_eq_false hx
        obtain rfl : i = j := by omega
        refine bs_t r3 (bsplit_both (fun _ => rfl) (fun h3 => ?_))
        have h3 := of_decide_eq_false h3
        have r5 : lo ≤ of ∧ of ≤ hi := by rcases r4 with h | h
                                          · omega
                                          · exact h
        refine bs_t (decide_eq_true r5.1) ?_
        show AV.bool (decide (of ≤ hi)) = .bool true
        rw [decide_eq_true r5.2]
    · refine ⟨by rw [rowsC_len]; exact Nat.le_refl _, by rw [htk, rowsC_len]; omega, ?_⟩
      rw [htk, w_id (n := 2 * ((rights ws j : Nat) : Int)) (by omega) (by omega)]
      refine bsplit_both (fun _ => rfl) (fun h2 => ?_)
      have h2 := of_decide_eq_false h2
      obtain ⟨r1, r2, r3, r4⟩ := right_law (off := of) (xs := xs) (ws := ws) hxu hoff (j := j) (by omega) g3 (by omega)
      refine bs_f (by rw [r1]; rfl) (bs_f (decide_eq_false (by omega)) ?_)
      generalize agLo (rowsC of xs ws j) = lo at r3 r4 ⊢
      generalize agHi (rowsC of xs ws j) = hi at r3 r4 ⊢
      refine ALoop.start [(2, 2)] [0, 2, 7, 8, 11, 12, 15, 113, 114, 115] 3 (q_rM of n1 c1 q1 ob0 ob1 xs ws j c (c * 3) (rowsC of xs ws j) (rights ws j : Nat) lo hi false 0) (by kernel_rfl) (by kernel_rfl) ?_
      refine ALoop.invj (ps := [(2, 2)]) (ts := [0, 2, 7, 8, 11, 12, 15, 113, 114, 115]) (nx := 3) (fun i : Nat => q_rM of n1 c1 q1 ob0 ob1 xs ws j c (c * 3) (rowsC of xs ws j) (rights ws j : Nat) lo hi ((List.range i).any (meet of xs ws lo hi)) (i : Nat)) (fun i => i ≤ j) (fun i => j - i) ?_ 0 (Nat.zero_le _)
      intro i hi2
      refine (t_rtM I _ (fun _ => True) _ of n1 c1 q1 ob0 ob1 xs ws j c (c * 3) (rowsC of xs ws j) (rights ws j : Nat) lo hi ((List.range i).any (meet of xs ws lo hi)) (i : Nat)).mpr (bsplit_both (fun hx => ?_) (fun hx => ?_))
      · have hx : (i : Int) < (j : Int) := of_decide_eq_true hx
        have hgr : (rowsC of xs ws j)[((i : Nat) : Int).toNat]? = some (rowC of xs ws i) := by rw [Int.toNat_natCast]; unfold rowsC; rw [List.getElem?_map, List.getElem?_range (by omega)]; rfl
        have nxt : ∀ mt : Bool, mt = ((List.range i).any (meet of xs ws lo hi) || meet of xs ws lo hi i) → ∃ y : Nat, y ≤ j ∧ j - y < j - i ∧ q_rM of n1 c1 q1 ob0 ob1 xs ws j c (c * 3) (rowsC of xs ws j) (rights ws j : Nat) lo hi mt (IntKind.i64.wrap ((i : Int) + 1)) = q_rM of n1 c1 q1 ob0 ob1 xs ws j c (c * 3) (rowsC of xs ws j) (rights ws j : Nat) lo hi ((List.range y).any (meet of xs ws lo hi)) (y : Nat) := fun mt hmt => ⟨i + 1, by omega, by omega, by rw [hmt, w_id (n := (i : Int) + 1) (by omega) (by omega), List.range_succ, List.any_append, List.any_cons, List.any_nil, Bool.or_false]; rfl⟩
        have mF : wrg ws i = false → meet of xs ws lo hi i = (decide ((rowC of xs ws i).i 1 ≤ hi) && decide ((rowC of xs ws i).i 2 ≥ lo)) := fun h => by unfold meet; rw [h]; rfl
        have mT : wrg ws i = true → meet of xs ws lo hi i = false := fun h => by unfold meet; rw [h]; rfl
        refine must_mk (decide_eq_true ⟨by omega, hx⟩) (xget_mk hgr (bsplit_both (fun h1 => ?_) (fun h1 => ?_)))
        · have h1 := of_decide_eq_true h1
          have hw : wrg ws i = false := by unfold wrg; rw [decide_eq_false (by omega)]; rfl
          refine bsplit_both (fun e1 => bsplit_both (fun e2 => nxt true ?_) (fun e2 => nxt _ ?_)) (fun e1 => nxt _ ?_)
          · rw [mF hw]; simp only [Nat.zero_add] at e1 e2; rw [e1, e2]; simp
          · rw [mF hw]; simp only [Nat.zero_add] at e1 e2; rw [e2]; simp
          · rw [mF hw]; simp only [Nat.zero_add] at e1; rw [e1]; simp
        · have h1 := of_decide_eq_false h1
          have hgw : ws[((i : Nat) : Int).toNat]? = some (gE ws i) := by rw [Int.toNat_natCast]; exact gE_get (by omega)
          refine must_mk (decide_eq_true ⟨by omega, by omega⟩) (xget_mk hgw (bsplit_both (fun hb => ?_) (fun hb => nxt _ ?_)))
          · have hw : wrg ws i = false := by
              unfold wrg
              have hb2 : (gE ws i).b 0 = false := by simpa using hb
              rw [hb2, Bool.and_false]
            refine bsplit_both (fun e1 => bsplit_both (fun e2 => nxt true ?_) (fun e2 => nxt _ ?_)) (fun e1 => nxt _ ?_)
            · rw [mF hw]; simp only [Nat.zero_add] at e1 e2; rw [e1, e2]; simp
            · rw [mF hw]; simp only [Nat.zero_add] at e1 e2; rw [e2]; simp
            · rw [mF hw]; simp only [Nat.zero_add] at e1; rw [e1]; simp
          · have hw : wrg ws i = true := by
              unfold wrg
              rw [decide_eq_true (by omega), Bool.true_and]
              simpa using hb
            rw [mT hw, Bool.or_false]
      · have hx : ¬ (i : Int) < (j : Int) := of_decide_eq_false hx
        obtain rfl : i = j := by omega
        refine bs_t r3 (bsplit_both (fun _ => rfl) (fun h3 => ?_))
        have h3 := of_decide_eq_false h3
        have r5 : lo ≤ of ∧ of ≤ hi := by rcases r4 with h | h
                                          · omega
                                          · exact h
        refine bs_t (decide_eq_true r5.1) ?_
        show AV.bool (decide (of ≤ hi)) = .bool true
        rw [decide_eq_true r5.2]
end Go.Tb.W

