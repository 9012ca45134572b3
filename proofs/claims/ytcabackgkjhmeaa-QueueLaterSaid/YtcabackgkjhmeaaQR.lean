/- Queues: what is put while others are taken comes in its place. -/
import Derived.Test.YtcabackgkjhmeaaQQ
set_option linter.all false
set_option maxRecDepth 100000
namespace Go.Tb.W
open Go Go.Proofs
variable {I : Interp O} (hI : I.R = pk.R)
theorem sumE_filter {p : Rw × Nat → Bool} : ∀ {es : List (Rw × Nat)}, (∀ e ∈ es, 0 ≤ e.1.i 1) → 0 ≤ sumE (es.filter p) ∧ sumE (es.filter p) ≤ sumE es
  | [], _ => by simp [sumE]
  | a :: l, h => by
    have ih := sumE_filter (p := p) (es := l) fun e he => h e (List.mem_cons_of_mem _ he)
    have ha := h a (List.mem_cons_self ..)
    by_cases hp : p a = true
    · rw [List.filter_cons_of_pos hp]; simp only [sumE]; omega
    · rw [List.filter_cons_of_neg hp]; simp only [sumE]; omega
theorem MOk.sum {es : List (Rw × Nat)} {clk : Nat} {q : List Rw} (h : MOk es clk q) : sumE es = q.length := sum_cnt h.key h.cnt h.has
theorem MOk.pos {es : List (Rw × Nat)} {clk : Nat} {q : List Rw} (h : MOk es clk q) (seen : List Nat) : 0 ≤ sumS es seen ∧ sumS es seen ≤ q.length := by
  have := sumE_filter (p := fun e : Rw × Nat => seen.contains e.2) (es := es) fun e he => by rw [h.cnt e he]; omega
  rw [h.sum] at this
  exact this
theorem MOk.ins {es : List (Rw × Nat)} {clk : Nat} {q : List Rw} (h : MOk es clk q) (e : Rw) (v : Int) (hv : v = (mrow (.int .i64 (e.i 0)) es).i 1 + 1) :
    MOk (mput (rwA [.int .i64 (e.i 0), .int .i64 v]) (.int .i64 (e.i 0)) clk es) (mclk (.int .i64 (e.i 0)) es clk) (insQ q e) := by
  refine h.put rfl ?_ (fun j hj => ?_) (fun y hy => ?_)
  · show v = _
    rw [hv, h.row, cntQ_ins, if_pos rfl]; omega
  · rw [cntQ_ins, if_neg (fun e => hj e.symm)]; omega
  · rcases ins_mem.1 hy with hy | rfl
    · exact .inr hy
    · exact .inl rfl
theorem MOk.tk {es : List (Rw × Nat)} {clk : Nat} {x : Rw} {t : List Rw} (h : MOk es clk (x :: t)) (v : Int) (hv : v = (mrow (.int .i64 (x.i 0)) es).i 1 - 1) :
    MOk (mput (rwA [.int .i64 (x.i 0), .int .i64 v]) (.int .i64 (x.i 0)) clk es) (mclk (.int .i64 (x.i 0)) es clk) t := by
  refine h.put rfl ?_ (fun j hj => ?_) (fun y hy => .inr (List.mem_cons_of_mem _ hy))
  · show v = _
    rw [hv, h.row, cntQ_cons, if_pos rfl]; omega
  · rw [cntQ_cons, if_neg (fun e => hj e.symm)]; omega
include hI
theorem l_later (l c : Nat) (p : Bool) (ob : Obj) (xs : List Rw) (hxs : xs.length = l) :
    ACall I P 8 [.slq 0 l c p] (Tr.ofList 0 [.out ob [.i .i8] xs] .leaf) (fun v _ => v = .bool true) := by
  refine ocall mix (gB2 hI) (fn := Try.f8) (by kernel_rfl) (by kernel_rfl) (by kernel_rfl) [.out ob [.i .i8] xs] _ rfl rfl (fun hr ho => ?_)
  simp only [rgs, rg, Bool.and_eq_true, Nat.ble_eq] at hr
  obtain ⟨⟨hlc, hc⟩, _⟩ := hr
  refine (t_llater I (fun v _ _ => v = .bool true) l c p ob xs).mpr ?_
  refine ALoop.weak (Weak.asOwn (p := pk) hI (n := 1) (s := .q [] 0) rfl rfl rfl) ?_
  refine ALoop.invg (ps := [(1, 1), (2, 2)]) (ts := [0, 3, 4, 5]) (nx := 3) (fun x : List Rw × List (Rw × Nat) × Nat × Nat => j_latA l c p ob xs x.1 (x.2.2.2 : Nat) x.2.1 x.2.2.1 (x.2.2.2 : Nat))
    (fun x => (x.1.length ≤ x.2.2.2 ∧ x.2.2.2 ≤ 200) ∧ MOk x.2.1 x.2.2.1 x.1) (fun x => 200 - x.2.2.2) ?_ (by kernel_rfl) ([], [], 0, 0) (by kernel_rfl) ⟨⟨Nat.le_refl _, by decide⟩, ⟨.nil, .nil, fun _ h => by simp at h, fun _ h => by simp at h, fun _ h => by simp at h⟩⟩
  rintro ⟨q, es, clk, i⟩ ⟨⟨g1, g2⟩, g3⟩
  simp only at g1 g2 g3 ⊢
  have last : ∀ s0 : St O, gcOk 1 [(1, 1), (2, 2), (3, 3)] [3, 11, 77] s0 = true → gc 1 [(1, 1), (2, 2), (3, 3)] [3, 11, 77] 4 s0 = j_latC ob xs q (i : Nat) es clk 0 clk [] clk none →
      ALoop I 1 (cd Try.f8 [true, true, true, true, true, true, false, true, false, false]) (acode I P (Gm B2) (adraw P (Gm B2)) 1 (cd Try.f8 [true, true, true, true, true, true, false, true, false, false])) (ablock 4 (athen (cd Try.f8 [true, true, true, true, true, true, true]) (fun s => acode I P (Gm B2) (adraw P (Gm B2)) 1 (cd Try.f8 [true, true, true, true, true, true, true]) s (kret P Try.f8 (fun v _ _ => v = .bool true))) (kret P Try.f8 (fun v _ _ => v = .bool true)))) s0 := fun s0 h0 e0 => by
    refine ALoop.invg (ps := [(1, 1), (2, 2), (3, 3)]) (ts := [3, 11, 77]) (nx := 4) (fun x : List Nat × Option (Rw × Nat) => j_latC ob xs q (i : Nat) es clk (sumS es x.1) clk x.1 clk x.2) (fun x => x.1 = [] ∨ es ≠ []) (fun x => (mleft es x.1).length) ?_ h0 ([], none) (by
      rw [e0]
      have : sumS es [] = 0 := by
        unfold sumS
        rw [List.filter_eq_nil_iff.2 (fun e _ => by simp)]; rfl
      simp only [this]) (.inl rfl)
    rintro ⟨seen, cur⟩ hg
    simp only at hg ⊢
    have hgo : (Nat.blt 3 16777215 && mgoes es seen clk) = true := by
      rw [mgoes_ok (by rcases hg with h | h; · exact .inl h
                       · exact .inr ⟨h, g3.old⟩)]; rfl
    refine (t_latC I _ (fun _ => True) _ ob xs q (i : Nat) es clk (sumS es seen) clk seen clk cur).mpr (must_mk hgo ⟨fun hm hso => ?_, fun x b hx => ?_⟩)
    · have := mover_nil hm g3.old
      rw [sumS_all this, g3.sum]
      simp
    · obtain ⟨h1, h2⟩ := mleft_mem hx
      have hadd := sumS_add g3.brn h1 h2
      have hpos := g3.pos (seen ++ [b])
      refine must_mk (Nat.beq_refl _) ⟨matB_mem g3.brn h1, (seen ++ [b], some (x, b)), .inr (fun e => by rw [e] at h1; simp at h1), mleft_lt hx, ?_⟩
      have hadd : sumS es (seen ++ [b]) = sumS es seen + x.i 1 := hadd
      rw [w_id (n := sumS es seen + (x, b).1.i 1) (by show _ ≤ sumS es seen + x.i 1; omega) (by show sumS es seen + x.i 1 ≤ _; omega)]
      show _ = j_latC ob xs q (i : Nat) es clk (sumS es (seen ++ [b])) clk (seen ++ [b]) clk (some (x, b))
      rw [hadd]; rfl
  refine (t_latA I _ _ l c p ob xs q (i : Nat) es clk (i : Nat)).mpr (bsplit_both (fun hx => bsplit_both (fun hy => ?_) (fun hy => last _ (by kernel_rfl) (by kernel_rfl))) (fun hx => last _ (by kernel_rfl) (by kernel_rfl)))
  have hx := of_decide_eq_true hx
  have hy := of_decide_eq_true hy
  have hi : i < xs.length := by omega
  have hxi : xs[(i : Int).toNat]? = some (gE xs i) := by rw [Int.toNat_natCast]; exact gE_get hi
  have h8 : -128 ≤ (gE xs i).i 0 ∧ (gE xs i).i 0 ≤ 127 := by
    have := xs_i8 ho hi
    unfold gE; rw [List.getElem?_eq_getElem hi]; exact this
  have wx : IntKind.i64.wrap ((gE xs i).i 0) = (gE xs i).i 0 := w_id (by omega) (by omega)
  have e3 : IntKind.i64.wrap ((i : Int) + 1) = ((i + 1 : Nat) : Int) := by rw [w_id (by omega) (by omega)]; omega
  have e4 : ((i : Nat) : Int) + 1 = ((i + 1 : Nat) : Int) := by omega
  refine must_mk (decide_eq_true ⟨by omega, hx⟩) (xget_mk hxi ⟨⟨by omega, by omega⟩, fun h => by omega, fun _ => ?_⟩)
  simp only [wx]
  generalize (gE xs i).i 0 = k at *
  have hcnt := g3.row k
  have hcl := cntQ_le k q
  have wc : IntKind.i64.wrap ((mrow (.int .i64 k) es).i 1 + 1) = (mrow (.int .i64 k) es).i 1 + 1 := w_id (by omega) (by omega)
  have hm1 := g3.ins (mkE k 0 ⟨#[]⟩ (i : Nat)) ((mrow (.int .i64 k) es).i 1 + 1) rfl
  have hm1 : MOk (mput (rwA [.int .i64 k, .int .i64 ((mrow (.int .i64 k) es).i 1 + 1)]) (.int .i64 k) clk es) (mclk (.int .i64 k) es clk) (insQ q (mkE k 0 ⟨#[]⟩ (i : Nat))) := hm1
  have hq1 : (insQ q (mkE k 0 ⟨#[]⟩ (i : Nat))).length = q.length + 1 := ins_len _ _
  simp only [wc]
  refine bsplit_both (fun hz => ?_) (fun hz => ?_)
  · rw [e3, e4]
    exact ⟨(insQ q (mkE k 0 ⟨#[]⟩ (i : Nat)), mput (rwA [.int .i64 k, .int .i64 ((mrow (.int .i64 k) es).i 1 + 1)]) (.int .i64 k) clk es, mclk (.int .i64 k) es clk, i + 1), ⟨⟨by show (insQ q (mkE k 0 ⟨#[]⟩ (i : Nat))).length ≤ i + 1; omega, by show i + 1 ≤ 200; omega⟩, hm1⟩, by show 200 - (i + 1) < 200 - i; omega, rfl⟩
  · refine ⟨fun e => by rw [e] at hq1; simp at hq1, fun x t e hso => ?_⟩
    rw [e] at hm1 hq1
    have hrow := hm1.row (x.i 0)
    have hcx : cntQ (x.i 0) (x :: t) = 1 + cntQ (x.i 0) t := by rw [cntQ_cons, if_pos rfl]
    have hcl2 := cntQ_le (x.i 0) t
    have htl : t.length = q.length := by simp at hq1; omega
    generalize hes : mput (rwA [.int .i64 k, .int .i64 ((mrow (.int .i64 k) es).i 1 + 1)]) (.int .i64 k) clk es = es1 at hm1 hrow
    generalize hck : mclk (.int .i64 k) es clk = clk1 at hm1
    have hes' : mput (rwA (AV.int IntKind.i64 k :: acells (AV.int IntKind.i64 ((mrow (AV.int IntKind.i64 k) es).i 1 + 1)))) (AV.int IntKind.i64 k) clk es = es1 := hes
    simp only [hes']
    refine bs_f (by
      have : (mrow (.int .i64 (x.i 0)) es1).i 1 ≠ 0 := by rw [hrow, hcx]; omega
      simpa using this) ?_
    refine ALoop.invg (ps := [(1, 1), (2, 2), (3, 3), (4, 4)]) (ts := [0, 3, 4, 5, 7, 57]) (nx := 5) (fun y : List Nat × Option (Rw × Nat) => j_latB l c p ob xs t ((i : Nat) + 1) es1 clk1 (i : Nat) (x.i 0) (x.i 1) (x.s 2) clk1 y.1 clk1 y.2) (fun y => True) (fun y => (mleft es1 y.1).length) ?_ (by kernel_rfl) ([], none) (by rw [← hes, ← hck]; kernel_rfl) trivial
    rintro ⟨seen, cur⟩ _
    simp only
    have hne : es1 ≠ [] := fun e0 => by
      obtain ⟨a, ha, _⟩ := hm1.has x (List.mem_cons_self ..)
      rw [e0] at ha; simp at ha
    have hgo : (Nat.blt 4 16777215 && mgoes es1 seen clk1) = true := by
      rw [mgoes_ok (.inr ⟨hne, hm1.old⟩)]; rfl
    refine (t_latB I _ _ _ l c p ob xs t ((i : Nat) + 1) es1 clk1 (i : Nat) (x.i 0) (x.i 1) (x.s 2) clk1 seen clk1 cur).mpr (must_mk hgo ⟨fun hm => ?_, fun y b hy => ?_⟩)
    · have wc2 : IntKind.i64.wrap ((mrow (.int .i64 (x.i 0)) es1).i 1 - 1) = (mrow (.int .i64 (x.i 0)) es1).i 1 - 1 := w_id (by omega) (by omega)
      simp only [wc2]
      rw [e3, e4]
      exact ⟨(_, _, _, i + 1), ⟨⟨by show t.length ≤ i + 1; omega, by show i + 1 ≤ 200; omega⟩, hm1.tk _ rfl⟩, by show 200 - (i + 1) < 200 - i; omega, rfl⟩
    · obtain ⟨h1, h2⟩ := mleft_mem hy
      have stay : ∃ z : List Nat × Option (Rw × Nat), True ∧ (mleft es1 z.1).length < (mleft es1 seen).length ∧ j_latB l c p ob xs t ((i : Nat) + 1) es1 clk1 (i : Nat) (x.i 0) (x.i 1) (x.s 2) clk1 (seen ++ [b]) clk1 (some (y, b)) = j_latB l c p ob xs t ((i : Nat) + 1) es1 clk1 (i : Nat) (x.i 0) (x.i 1) (x.s 2) clk1 z.1 clk1 z.2 := ⟨(seen ++ [b], some (y, b)), trivial, mleft_lt hy, rfl⟩
      refine must_mk (Nat.beq_refl _) ⟨matB_mem hm1.brn h1, bsplit_both (fun hp => bs_f (decide_eq_false fun hlt => ?_) stay) (fun hp => stay)⟩
      have hp := of_decide_eq_true hp
      have hp : y.i 1 > 0 := hp
      have hlt : y.i 0 < x.i 0 := hlt
      have := hm1.cnt (y, b) h1
      have hz : cntQ (y.i 0) (x :: t) = 0 := cntQ_none fun z hz => by
        rcases List.mem_cons.1 hz with rfl | hz
        · omega
        · have := less_iff.1 ((List.pairwise_cons.1 hso.1).1 z hz); omega
      have this : y.i 1 = (cntQ (y.i 0) (x :: t) : Int) := this
      omega
end Go.Tb.W
