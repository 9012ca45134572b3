/- Queues: all that was put comes once, in order. -/
import Derived.Test.YtcabackgkjhmeaaQN
set_option linter.all false
set_option maxRecDepth 100000
namespace Go.Tb.W
open Go Go.Proofs
variable {I : Interp O} (hI : I.R = pk.R)
theorem mrow_put {row : Rw} {k k' : Int} {clk : Nat} (hr : row.i 0 = k) : ∀ (es : List (Rw × Nat)), mrow (.int .i64 k') (mput row (.int .i64 k) clk es) = if k' = k then row else mrow (.int .i64 k') es
  | [] => by
    by_cases e : k' = k
    · subst e; simp [mrow, mput, mfind, isK, hr]
    · rw [if_neg e]
      have hb : (row.i 0 == k') = false := by simpa using (fun h => e (by rw [← h, hr]) : ¬ row.i 0 = k')
      simp [mrow, mput, mfind, isK, hb]
  | e :: l => by
    have ih := mrow_put (k' := k') (clk := clk) hr l
    by_cases h : e.1.i 0 = k
    · have h1 : isK e.1 (.int .i64 k) = true := by simp [isK, h]
      simp only [mput, h1]
      by_cases e' : k' = k
      · subst e'; simp [mrow, mfind, isK, hr]
      · rw [if_neg e']
        have a : isK row (.int .i64 k') = false := by simp [isK]; rw [hr]; exact fun h => e' h.symm
        have b : isK e.1 (.int .i64 k') = false := by simp [isK]; rw [h]; exact fun h => e' h.symm
        simp [mrow, mfind, a, b]
    · have h1 : isK e.1 (.int .i64 k) = false := by simp [isK, h]
      simp only [mput, h1]
      cases h2 : isK e.1 (.int .i64 k') with
      | true =>
        have : k' ≠ k := fun e' => by subst e'; rw [h1] at h2; cases h2
        rw [if_neg this]
        simp [mrow, mfind, h2]
      | false =>
        simp only [mrow, mfind, h2] at ih ⊢
        exact ih
/-- The thing that the law puts j-th. -/
def ent (xs : List Rw) (j : Nat) : Rw := mkE ((gE xs j).i 0) j ⟨#[]⟩ j
theorem so_ent {xs : List Rw} {x : Rw} {t : List Rw} (h : so (x :: t)) {j : Nat} (hx : x = ent xs j) : ∀ y ∈ t, ∀ k, y = ent xs k → (x.i 0 < y.i 0 ∨ (x.i 0 = y.i 0 ∧ (j : Int) ≤ k)) ∧ k ≠ j := fun y hy k e => by
  have := less_iff.1 ((List.pairwise_cons.1 h.1).1 y hy)
  have h1 : x.i 3 = (j : Int) := by rw [hx]; rfl
  have h2 : y.i 3 = (k : Int) := by rw [e]; rfl
  refine ⟨by omega, fun ek => ?_⟩
  subst ek
  rw [← hx] at e
  subst e
  omega
include hI
theorem l_sorts (l c : Nat) (p : Bool) (ob : Obj) (xs : List Rw) (hxs : xs.length = l) :
    ACall I P 4 [.slq 0 l c p] (Tr.ofList 0 [.out ob [.i .i8] xs] .leaf) (fun v _ => v = .bool true) := by
  refine ocall mix (gB2 hI) (fn := Try.f4) (by kernel_rfl) (by kernel_rfl) (by kernel_rfl) [.out ob [.i .i8] xs] _ rfl rfl (fun hr ho => ?_)
  simp only [rgs, rg, Bool.and_eq_true, Nat.ble_eq] at hr
  obtain ⟨⟨hlc, hc⟩, _⟩ := hr
  refine (t_lsorts I (fun v _ _ => v = .bool true) l c p ob xs).mpr ?_
  refine ALoop.weak (Weak.asOwn (p := pk) hI (n := 1) (s := .q [] 0) rfl rfl rfl) ?_
  generalize hN : (if 200 < (l : Int) then (200 : Int) else (l : Int)) = N
  have hN1 : N ≤ l ∧ N ≤ 200 ∧ 0 ≤ N := by rw [← hN]; split <;> omega
  have hx8 : ∀ j, j < xs.length → -128 ≤ (gE xs j).i 0 ∧ (gE xs j).i 0 ≤ 127 := fun j hj => by
    have := xs_i8 ho hj
    unfold gE; rw [List.getElem?_eq_getElem hj]; exact this
  refine ALoop.invg (ps := [(1, 1)]) (ts := [0, 3, 4, 5]) (nx := 2) (fun x : List Rw × Nat => j_sortA l c p ob xs N x.1 (x.2 : Nat) (x.2 : Nat))
    (fun x => (x.1.length = x.2 ∧ (x.2 : Int) ≤ N) ∧ ∀ y ∈ x.1, ∃ j, j < x.2 ∧ y = ent xs j) (fun x => (N - x.2).toNat) ?_ (by kernel_rfl) ([], 0) (by kernel_rfl) ⟨⟨rfl, hN1.2.2⟩, fun y hy => by simp at hy⟩
  rintro ⟨q, i⟩ ⟨⟨g1, g2⟩, g3⟩
  simp only at g1 g2 g3 ⊢
  refine (t_sortA I _ _ l c p ob xs N q (i : Nat) (i : Nat)).mpr (bsplit_both (fun hx => ?_) (fun hx => ?_))
  · have hx := of_decide_eq_true hx
    have hi : i < xs.length := by omega
    have hxi : xs[(i : Int).toNat]? = some (gE xs i) := by rw [Int.toNat_natCast]; exact gE_get hi
    have hb : decide ((0 : Int) ≤ (i : Int) ∧ (i : Int) < (l : Int)) = true := decide_eq_true ⟨by omega, by omega⟩
    have h8 := hx8 i hi
    have wx : IntKind.i64.wrap ((gE xs i).i 0) = (gE xs i).i 0 := w_id (by omega) (by omega)
    have e3 : IntKind.i64.wrap ((i : Int) + 1) = ((i + 1 : Nat) : Int) := by rw [w_id (by omega) (by omega)]; omega
    have e4 : ((i : Nat) : Int) + 1 = ((i + 1 : Nat) : Int) := by omega
    refine must_mk hb (xget_mk hxi ⟨⟨by omega, by omega⟩, fun h => by omega, fun _ => ?_⟩)
    rw [wx, e3, e4]
    refine ⟨(insQ q (ent xs i), i + 1), ⟨⟨by show (insQ _ _).length = i + 1; rw [ins_len, g1], by show ((i + 1 : Nat) : Int) ≤ N; omega⟩, fun y hy => ?_⟩, by show (N - ((i + 1 : Nat) : Int)).toNat < (N - (i : Int)).toNat; omega, rfl⟩
    rcases ins_mem.1 hy with hy | rfl
    · obtain ⟨j, hj, e⟩ := g3 y hy
      exact ⟨j, by show j < i + 1; omega, e⟩
    · exact ⟨i, Nat.lt_succ_self i, rfl⟩
  · have hx := of_decide_eq_false hx
    have hNi : N = (q.length : Int) := by omega
    have hiN : (i : Int) = N := by omega
    refine ALoop.invg (ps := [(1, 1), (2, 2), (3, 3)]) (ts := [0, 3, 4, 6, 7, 8]) (nx := 4) (fun x : List Rw × List (Rw × Nat) × Nat × Int × Int × ByteArray × Nat => j_sortB l c p ob xs N x.1 (i : Nat) x.2.1 x.2.2.1 x.2.2.2.1 x.2.2.2.2.1 x.2.2.2.2.2.1 (x.2.2.2.2.2.2 : Nat))
      (fun x => ((x.1.length : Int) = N - (x.2.2.2.2.2.2 : Nat)) ∧ (∀ y ∈ x.1, ∃ j : Nat, (j : Int) < N ∧ y = ent xs j ∧ (mrow (.int .i64 j) x.2.1).b 1 = false ∧ (x.2.2.2.1 < y.i 0 ∨ (x.2.2.2.1 = y.i 0 ∧ x.2.2.2.2.1 ≤ j)))) (fun x => x.1.length) ?_ (by kernel_rfl) (q, [], 0, -200, 0, ⟨#[]⟩, 0) (by kernel_rfl) ⟨by show (q.length : Int) = N - ((0 : Nat) : Int); omega, fun y hy => ?_⟩
    · rintro ⟨r, es, clk, a, b, s, k⟩ ⟨g4, g5⟩
      simp only at g4 g5 ⊢
      refine (t_sortB I _ (fun _ => True) _ l c p ob xs N r (i : Nat) es clk a b s (k : Nat)).mpr (bsplit_both (fun hy => ?_) (fun hy => ?_))
      · have hy := of_decide_eq_true hy
        refine ⟨fun e => by rw [e] at g4; simp at g4; omega, fun x t e hs => ?_⟩
        subst e
        obtain ⟨j, hj, hxj, hm, hab⟩ := g5 x (List.mem_cons_self ..)
        have hjl : j < xs.length := by omega
        have hx1 : x.i 1 = (j : Int) := by rw [hxj]; rfl
        have hx0 : x.i 0 = (gE xs j).i 0 := by rw [hxj]; rfl
        have h8 := hx8 j hjl
        have wx : IntKind.i64.wrap ((gE xs j).i 0) = (gE xs j).i 0 := w_id (by omega) (by omega)
        have e3 : IntKind.i64.wrap ((k : Int) + 1) = ((k + 1 : Nat) : Int) := by rw [w_id (by omega) (by omega)]; omega
        have fin : ∀ s' : St O, s' = j_sortB l c p ob xs N t (i : Nat) (mput (rwA [.int .i64 (x.i 1), .bool true]) (.int .i64 (x.i 1)) clk es) (mclk (.int .i64 (x.i 1)) es clk) (x.i 0) (x.i 1) (x.s 2) ((k + 1 : Nat) : Int) → _ := fun s' hs' =>
          (⟨(t, mput (rwA [.int .i64 (x.i 1), .bool true]) (.int .i64 (x.i 1)) clk es, mclk (.int .i64 (x.i 1)) es clk, x.i 0, x.i 1, x.s 2, k + 1), ⟨by show (t.length : Int) = N - ((k + 1 : Nat) : Int); simp at g4; omega, fun y hy => by
            obtain ⟨j', hj', hyj, hm', _⟩ := g5 y (List.mem_cons_of_mem _ hy)
            obtain ⟨q1, q2⟩ := so_ent hs hxj y hy j' hyj
            refine ⟨j', hj', hyj, ?_, by simp only; rw [hx1]; exact q1⟩
            simp only
            rw [hx1, mrow_put (row := rwA [.int .i64 (j : Int), .bool true]) (k := (j : Int)) rfl, if_neg (by omega)]
            exact hm'⟩, by show t.length < (x :: t).length; simp, hs'⟩ : ∃ y : List Rw × List (Rw × Nat) × Nat × Int × Int × ByteArray × Nat, (((y.1.length : Int) = N - (y.2.2.2.2.2.2 : Nat)) ∧ (∀ z ∈ y.1, ∃ j : Nat, (j : Int) < N ∧ z = ent xs j ∧ (mrow (.int .i64 j) y.2.1).b 1 = false ∧ (y.2.2.2.1 < z.i 0 ∨ (y.2.2.2.1 = z.i 0 ∧ y.2.2.2.2.1 ≤ j)))) ∧ y.1.length < (x :: t).length ∧ s' = j_sortB l c p ob xs N y.1 (i : Nat) y.2.1 y.2.2.1 y.2.2.2.1 y.2.2.2.2.1 y.2.2.2.2.2.1 (y.2.2.2.2.2.2 : Nat))
        refine bs_f (by rw [hx1]; exact hm) (bs_f (decide_eq_false (by omega)) (bs_f (decide_eq_false (by omega)) (must_mk (decide_eq_true ⟨by omega, by omega⟩) (xget_mk (v := gE xs j) (by rw [hx1, Int.toNat_natCast]; exact gE_get hjl) (bs_f (by rw [wx, hx0]; simp) (bs_f (decide_eq_false (by omega)) (bsplit_both (fun he => bs_f (decide_eq_false ?_) ⟨rfl, fin _ ?_⟩) (fun he => ⟨rfl, fin _ ?_⟩))))))))
        · have := eq_of_beq he
          omega
        · rw [e3]; rfl
        · rw [e3]; rfl
      · have hy := of_decide_eq_false hy
        have hr0 : r.length = 0 := by omega
        have hr0 := List.length_eq_zero_iff.1 hr0
        subst hr0
        exact ⟨fun _ _ => rfl, fun x t e => by cases e⟩
    · obtain ⟨j, hj, e⟩ := g3 y hy
      refine ⟨j, by omega, e, rfl, .inl ?_⟩
      have := hx8 j (by omega)
      have h0 : y.i 0 = (gE xs j).i 0 := by rw [e]; rfl
      show (-200 : Int) < y.i 0
      omega
end Go.Tb.W
