/- Searches: how the reach grows, what is refused, and moments moved; laws. -/
import Derived.Test.YtamfmlaipbdpgaaC8
import Derived.Test.YtamfmlaipbdpgaaC9
set_option linter.all false
set_option maxRecDepth 100000
namespace Go.Tb.W
open Go Go.Proofs
theorem r_u8 {n : Int} (h : inK .u8 n = true) : 0 ≤ n ∧ n ≤ 255 := by simpa [inK_iff, loK, hiK] using h
theorem r_u16 {n : Int} (h : inK .u16 n = true) : 0 ≤ n ∧ n ≤ 65535 := by simpa [inK_iff, loK, hiK] using h
theorem r_u32 {n : Int} (h : inK .u32 n = true) : 0 ≤ n ∧ n ≤ 4294967295 := by simpa [inK_iff, loK, hiK] using h
theorem r_i8 {n : Int} (h : inK .i8 n = true) : -128 ≤ n ∧ n ≤ 127 := by simpa [inK_iff, loK, hiK] using h
theorem r_i64 {n : Int} (h : inK .i64 n = true) : -9223372036854775808 ≤ n ∧ n ≤ 9223372036854775807 := by simpa [inK_iff, loK, hiK] using h
theorem full_no {s : O} (h : s.ids = []) (hq : s.q = 1) : fullC s = false := by unfold fullC; rw [h, hq]; rfl
theorem may0 {f ak : Bool} {wt fr now : Int} (h1 : f = false) (h2 : ak = true → fr ≤ now) (h3 : now ≤ 9223372036854775807 - wt) : mayE f wt fr ak now = 0 := by
  unfold mayE
  rw [h1, if_neg (by decide), if_neg (fun h => by have := h2 h.1; omega), if_neg (by omega)]
theorem may15 {f ak : Bool} {wt fr now : Int} (h1 : f = false) (h2 : ak = true) (h3 : now < fr) : mayE f wt fr ak now = 15 := by
  unfold mayE
  rw [h1, if_neg (by decide), if_pos ⟨h2, h3⟩]
theorem may_or {f ak : Bool} {wt fr now : Int} (h1 : f = false) (h3 : now ≤ 9223372036854775807 - wt) : mayE f wt fr ak now = 0 ∨ mayE f wt fr ak now = 15 := by
  unfold mayE
  rw [h1, if_neg (by decide), if_neg (c := now > _) (by omega)]
  split
  · exact .inr rfl
  · exact .inl rfl
theorem new_good {far w : Int} (h1 : 0 ≤ far ∧ far ≤ 255) (h2 : 1 ≤ w ∧ w ≤ 4294967296) : ∃ M, (if 1 > IntKind.i64.wrap far then 1 else IntKind.i64.wrap far) = M ∧ 1 ≤ M ∧ M ≤ 255 ∧ badC M w 1 = false := by
  refine ⟨_, rfl, ?_, ?_, ?_⟩ <;> rw [w_id (n := far) (by omega) (by omega)]
  · split <;> omega
  · split <;> omega
  · refine decide_eq_false ?_
    split <;> omega
abbrev IQ : Interp O := pkI pk
structure Gr (M W : Int) (s : O) (now : Int) (i : Nat) : Prop where
  ok : okC s
  m : s.m = M
  w : s.w = W
  q : s.q = 1
  ids : s.ids = []
  fr : s.ak = true → s.fr ≤ now
  n0 : 0 ≤ now
  n1 : now ≤ (i : Int) * (64 * W)
  il : i ≤ 12
  rc : s.rc = minI (2 ^ i) M
theorem minI_dbl {a M : Int} (h : 0 ≤ M) : minI (2 * minI a M) M = minI (2 * a) M := by unfold minI; split <;> split <;> (try split) <;> omega
theorem Gr.next {M W : Int} {s : O} {now : Int} {i : Nat} (h : Gr M W s now i) (hi : i < 12) (hM : 1 ≤ M) (hW : 1 ≤ W ∧ W ≤ 4294967296) : askE s now = 0 ∧ askR s now = s.rc ∧
    askE (askS s now) (now + s.wt - 1) = 15 ∧ askE (askS s now) (now + s.wt) = 0 ∧ (askS s now).rc = minI (2 * s.rc) M ∧ (askS s now).wt = minI (2 * s.wt) (64 * W) ∧ Gr M W (askS s now) (now + s.wt) (i + 1) := by
  have t1 := h.ok.t1; have t2 := h.ok.t2
  rw [h.w] at t1 t2
  have hn : now ≤ 64 * W * 12 := by have := h.n1; have : (i : Int) * (64 * W) ≤ 12 * (64 * W) := Int.mul_le_mul_of_nonneg_right (by omega) (by omega); omega
  have hf := full_no h.ids h.q
  have e0 : askE s now = 0 := may0 hf h.fr (by omega)
  have eS : askS s now = { s with rc := minI (2 * s.rc) s.m, wt := minI (2 * s.wt) (64 * s.w), fr := now + s.wt, ak := true } := by unfold askS; rw [if_pos e0]
  have hw := (minI_le (2 * s.wt) (64 * s.w)).2
  rw [h.w] at hw
  refine ⟨e0, by unfold askR; rw [if_pos e0], ?_, ?_, by rw [eS, ← h.m], by rw [eS, ← h.w], ?_⟩
  · rw [eS]; exact may15 (full_no h.ids h.q) rfl (by show now + s.wt - 1 < now + s.wt; omega)
  · rw [eS]; exact may0 (full_no h.ids h.q) (fun _ => Int.le_refl _) (by show now + s.wt ≤ 9223372036854775807 - minI (2 * s.wt) (64 * s.w); rw [h.w]; omega)
  · have ok := askS_ok (now := now) h.ok
    rw [eS] at ok ⊢
    refine ⟨ok, h.m, h.w, h.q, h.ids, fun _ => Int.le_refl _, ?_, ?_, by omega, ?_⟩
    · have := h.n0; omega
    · have h1 := h.n1
      rw [show ((i + 1 : Nat) : Int) * (64 * W) = (i : Int) * (64 * W) + 64 * W by rw [Int.natCast_add, Int.add_mul]; simp]
      omega
    · show minI (2 * s.rc) s.m = _
      rw [h.rc, h.m, minI_dbl (by omega), Int.pow_succ, Int.mul_comm]
variable {I : Interp O} (hI : I.R = pk.R)
include hI
theorem l_grows (far wait : Int) (hp : Tr (AO O)) : ACall I P 4 [.int .u8 far, .int .u32 wait] hp (fun v hp' => v = .bool true ∧ hp' = hp) := by
  refine pcall mix (gB2 hI) (fn := Try.f4) (by kernel_rfl) (by kernel_rfl) (by kernel_rfl) (K := fun v => v = .bool true) rfl rfl (fun hr => ?_) hp
  simp only [rgs, rg, Bool.and_eq_true] at hr
  have hf := r_u8 hr.1
  have hw := r_u32 hr.2.1
  have wW : IntKind.i64.wrap (IntKind.i64.wrap wait + 1) = wait + 1 := by rw [w_id (n := wait) (by omega) (by omega), w_id (by omega) (by omega)]
  obtain ⟨M, eM, hM1, hM2, hgood⟩ := new_good (far := far) (w := wait + 1) hf ⟨by omega, by omega⟩
  refine (t_lgrows I (fun v => v = .bool true ∧ cl v = true) far wait).mpr ?_
  rw [eM, wW]
  refine ⟨fun h => absurd h (by rw [hgood]; decide), fun _ => ?_⟩
  have hW : 1 ≤ wait + 1 ∧ wait + 1 ≤ 4294967296 := ⟨by omega, by omega⟩
  generalize wait + 1 = W at *
  refine ALoop.invg (ps := [(0, 0)]) (ts := [5, 6, 7, 9, 10, 11, 12]) (nx := 1) (fun x : O × Int × Nat => j_gr M W x.1 x.2.1 x.1.rc x.1.wt (x.2.2 : Nat)) (fun x => Gr M W x.1 x.2.1 x.2.2) (fun x => 12 - x.2.2) ?_ (by kernel_rfl) (newC M W 1, 0, 0) (by kernel_rfl) ?_
  · rintro ⟨s, now, i⟩ g
    simp only at g ⊢
    refine (t_grA I _ _ M W s now s.rc s.wt (i : Nat)).mpr (bsplit_both (fun hx => ?_) (fun hx => ?_))
    · have hx := of_decide_eq_true hx
      obtain ⟨e0, e1, e2, e3, e4, e5, g'⟩ := g.next (by omega) hM1 hW
      have t1 := g.ok.t1; have t2 := g.ok.t2; have r1 := g.ok.r1; have r2 := g.ok.r2
      rw [g.w] at t1 t2
      rw [g.m] at r2
      have n0 := g'.n0; have n1 := g'.n1
      have hn : ((i + 1 : Nat) : Int) * (64 * W) ≤ 12 * (64 * W) := Int.mul_le_mul_of_nonneg_right (by omega) (by omega)
      rw [w_id (n := now + s.wt) (by omega) (by omega), w_id (n := now + s.wt - 1) (by omega) (by omega), e0, e1, e2, e3]
      refine bs_f (by decide) (bs_f (by simp) (bs_f (by decide) (bs_f (by decide) ⟨(askS s now, now + s.wt, i + 1), g', by show 12 - (i + 1) < 12 - i; omega, ?_⟩)))
      show _ = j_gr M W (askS s now) (now + s.wt) (askS s now).rc (askS s now).wt ((i + 1 : Nat) : Int)
      rw [e4, e5, w_id (n := 2 * s.rc) (by omega) (by omega), w_id (n := 2 * s.wt) (by omega) (by omega), w_id (n := 64 * W) (by omega) (by omega), w_id (n := (i : Int) + 1) (by omega) (by omega)]
      rfl
    · have hx := of_decide_eq_false hx
      have hi : i = 12 := by have := g.il; omega
      subst hi
      refine bs_t ?_ ⟨rfl, rfl⟩
      have : s.rc = M := by rw [g.rc]; unfold minI; split <;> simp at * <;> omega
      rw [this]; simp
  · have ok := new_ok hgood
    exact ⟨ok, rfl, rfl, rfl, rfl, fun h => (by cases h), Int.le_refl _, by simp, Nat.zero_le _, by show (1 : Int) = minI (2 ^ 0) M; unfold minI; split <;> simp at * <;> omega⟩
structure Wa (W : Int) (s : O) (now : Int) (i : Nat) : Prop where
  ok : okC s
  w : s.w = W
  q : s.q = 1
  ids : s.ids = []
  n0 : 0 ≤ now
  n1 : now ≤ (i : Int) * 65535
  il : i ≤ 100
omit hI in
theorem askS_same (s : O) (now : Int) : (askS s now).m = s.m ∧ (askS s now).w = s.w ∧ (askS s now).q = s.q ∧ (askS s now).ids = s.ids := by
  unfold askS; split <;> exact ⟨rfl, rfl, rfl, rfl⟩
omit hI in
theorem Wa.next {W : Int} {s : O} {now : Int} {i : Nat} (h : Wa W s now i) {d : Int} (hd : 0 ≤ d ∧ d ≤ 65535) (hi : i < 100) : Wa W (askS s (now + d)) (now + d) (i + 1) := by
  obtain ⟨e1, e2, e3, e4⟩ := askS_same s (now + d)
  have := h.n0; have := h.n1
  exact ⟨askS_ok h.ok, by rw [e2, h.w], by rw [e3, h.q], by rw [e4, h.ids], by omega, by omega, by omega⟩
omit hI in
theorem Wa.or {W : Int} {s : O} {now : Int} {i : Nat} (h : Wa W s now i) (hW : W ≤ 65536) {d : Int} (hd : 0 ≤ d ∧ d ≤ 65535) : askE s (now + d) = 0 ∨ askE s (now + d) = 15 := by
  have := h.n0; have := h.n1; have := h.il; have := h.ok.t2; have := h.w
  exact may_or (full_no h.ids h.q) (by omega)
omit hI in
theorem xs_u16 {ob : Obj} {xs : List Rw} (ho : RgOs [(.out ob [.i .u16] xs : AO O)]) {j : Nat} (hj : j < xs.length) : 0 ≤ (xs[j]).i 0 ∧ (xs[j]).i 0 ≤ 65535 := by
  have := ho.1 xs[j] (List.getElem_mem hj)
  simp only [encR, encS, rgs, rg, Bool.and_eq_true] at this
  exact r_u16 this.1
theorem l_waits (far wait : Int) (l c : Nat) (p : Bool) (ob : Obj) (xs : List Rw) (hxs : xs.length = l) :
    ACall I P 6 [.int .u8 far, .int .u16 wait, .slq 0 l c p] (Tr.ofList 0 [.out ob [.i .u16] xs] .leaf) (fun v _ => v = .bool true) := by
  refine ocall mix (gB2 hI) (fn := Try.f6) (by kernel_rfl) (by kernel_rfl) (by kernel_rfl) [.out ob [.i .u16] xs] _ rfl rfl (fun hr ho => ?_)
  simp only [rgs, rg, Bool.and_eq_true, Nat.ble_eq] at hr
  obtain ⟨hf, hw, ⟨hlc, hc⟩, _⟩ := hr
  have hf := r_u8 hf
  have hw := r_u16 hw
  have wW : IntKind.i64.wrap (IntKind.i64.wrap wait + 1) = wait + 1 := by rw [w_id (n := wait) (by omega) (by omega), w_id (by omega) (by omega)]
  obtain ⟨M, eM, hM1, hM2, hgood⟩ := new_good (far := far) (w := wait + 1) hf ⟨by omega, by omega⟩
  have hbad : badC M (wait + 1) 1 ≠ true := by rw [hgood]; decide
  refine (t_lwaits I (fun v _ _ => v = .bool true) far wait l c p ob xs).mpr ?_
  rw [eM, wW]
  refine ⟨fun h => absurd h hbad, fun _ => ⟨fun h => absurd h hbad, fun _ => ?_⟩⟩
  refine ALoop.invg (ps := [(1, 1), (2, 2)]) (ts := [2, 7, 9, 11, 12]) (nx := 3) (fun x : O × Int × Nat => j_wa l c p ob xs x.1 x.1 x.2.1 (x.2.2 : Nat)) (fun x => Wa (wait + 1) x.1 x.2.1 x.2.2) (fun x => 100 - x.2.2) ?_ (by kernel_rfl) (newC M (wait + 1) 1, 0, 0) (by kernel_rfl) ⟨new_ok hgood, rfl, rfl, rfl, Int.le_refl _, by simp, Nat.zero_le _⟩
  rintro ⟨s, now, i⟩ g
  simp only at g ⊢
  refine (t_waA I _ _ l c p ob xs s s now (i : Nat)).mpr (bsplit_both (fun hx => bsplit_both (fun hy => ?_) (fun hy => rfl)) (fun hx => rfl))
  have hx := of_decide_eq_true hx
  have hy := of_decide_eq_true hy
  have hi : i < xs.length := by omega
  have hx0 := xs_u16 ho hi
  refine must_mk (decide_eq_true ⟨by omega, hx⟩) (xget_mk (by rw [Int.toNat_natCast]; exact List.getElem?_eq_getElem hi) ?_)
  generalize (xs[i]).i 0 = d at hx0
  have := g.n0; have := g.n1
  rw [w_id (n := d) (by omega) (by omega), w_id (n := now + d) (by omega) (by omega)]
  have g' := g.next hx0 (by omega)
  have fin : ∀ s0 : St O, s0 = j_wa l c p ob xs (askS s (now + d)) (askS s (now + d)) (now + d) ((i + 1 : Nat) : Int) → ∃ y : O × Int × Nat, Wa (wait + 1) y.1 y.2.1 y.2.2 ∧ 100 - y.2.2 < 100 - i ∧ s0 = j_wa l c p ob xs y.1 y.1 y.2.1 (y.2.2 : Nat) :=
    fun s0 h0 => ⟨(askS s (now + d), now + d, i + 1), g', by show 100 - (i + 1) < 100 - i; omega, h0⟩
  have e3 : IntKind.i64.wrap ((i : Int) + 1) = ((i + 1 : Nat) : Int) := by rw [w_id (by omega) (by omega)]; omega
  rcases g.or (by omega) hx0 with h0 | h0
  · rw [h0]
    refine bs_f (by decide) (bs_f (by simp) (bs_f (by decide) (fin _ ?_)))
    rw [e3]; rfl
  · have hs : askS s (now + d) = s := by unfold askS; rw [if_neg (by rw [h0]; decide)]
    have hr : askR s (now + d) = 0 := by unfold askR; rw [if_neg (by rw [h0]; decide)]
    rw [hs] at fin
    rw [h0, hr, hs]
    refine bs_t (by decide) (bs_f (by decide) (bs_f (by decide) (fin _ ?_)))
    rw [e3]; rfl
/-- One search, and one that is moved. -/
structure Mv (W b : Int) (s t : O) (now : Int) (i : Nat) : Prop where
  a : Wa W s now i
  ok : okC t
  m : t.m = s.m
  w : t.w = s.w
  q : t.q = s.q
  ids : t.ids = s.ids
  rc : t.rc = s.rc
  wt : t.wt = s.wt
  ak : t.ak = s.ak
  fr : s.ak = true → t.fr = s.fr + b
omit hI in
theorem Mv.same {W b : Int} {s t : O} {now : Int} {i : Nat} (h : Mv W b s t now i) (hW : W ≤ 65536) (hb : -1152921504606846976 < b ∧ b < 1152921504606846976) {d : Int} (hd : 0 ≤ d ∧ d ≤ 65535) : askE t (now + d + b) = askE s (now + d) := by
  have := h.a.n0; have := h.a.n1; have := h.a.il; have := h.a.ok.t2; have := h.a.w
  unfold askE
  have f1 := full_no h.a.ids h.a.q
  have f2 := full_no (s := t) (by rw [h.ids, h.a.ids]) (by rw [h.q, h.a.q])
  rw [f1, f2, h.wt, h.ak]
  unfold mayE
  simp only [Bool.false_eq_true, if_false]
  by_cases hk : s.ak = true ∧ now + d < s.fr
  · rw [if_pos hk, if_pos ⟨hk.1, by rw [h.fr hk.1]; omega⟩]
  · rw [if_neg hk, if_neg (fun h' => hk ⟨h'.1, by have := h'.2; rw [h.fr h'.1] at this; omega⟩), if_neg (by omega), if_neg (by omega)]
omit hI in
theorem Mv.next {W b : Int} {s t : O} {now : Int} {i : Nat} (h : Mv W b s t now i) (hW : W ≤ 65536) (hb : -1152921504606846976 < b ∧ b < 1152921504606846976) {d : Int} (hd : 0 ≤ d ∧ d ≤ 65535) (hi : i < 100) : Mv W b (askS s (now + d)) (askS t (now + d + b)) (now + d) (i + 1) := by
  have he := h.same hW hb hd
  have ha := h.a.next hd hi
  have ok := askS_ok (now := now + d + b) h.ok
  by_cases h0 : askE s (now + d) = 0
  · have e1 : askS s (now + d) = { s with rc := minI (2 * s.rc) s.m, wt := minI (2 * s.wt) (64 * s.w), fr := now + d + s.wt, ak := true } := by unfold askS; rw [if_pos h0]
    have e2 : askS t (now + d + b) = { t with rc := minI (2 * t.rc) t.m, wt := minI (2 * t.wt) (64 * t.w), fr := now + d + b + t.wt, ak := true } := by unfold askS; rw [he, if_pos h0]
    rw [e1] at ha
    rw [e2] at ok
    rw [e1, e2]
    exact ⟨ha, ok, h.m, h.w, h.q, h.ids, by show minI _ _ = minI _ _; rw [h.rc, h.m], by show minI _ _ = minI _ _; rw [h.wt, h.w], rfl, fun _ => by show now + d + b + t.wt = now + d + s.wt + b; rw [h.wt]; omega⟩
  · have e1 : askS s (now + d) = s := by unfold askS; rw [if_neg h0]
    have e2 : askS t (now + d + b) = t := by unfold askS; rw [he, if_neg h0]
    rw [e1] at ha
    rw [e1, e2]
    exact { h with a := ha }
theorem l_moved (far wait by_ : Int) (l c : Nat) (p : Bool) (ob : Obj) (xs : List Rw) (hxs : xs.length = l) :
    ACall I P 8 [.int .u8 far, .int .u16 wait, .slq 0 l c p, .int .i64 by_] (Tr.ofList 0 [.out ob [.i .u16] xs] .leaf) (fun v _ => v = .bool true) := by
  refine ocall mix (gB2 hI) (fn := Try.f8) (by kernel_rfl) (by kernel_rfl) (by kernel_rfl) [.out ob [.i .u16] xs] _ rfl rfl (fun hr ho => ?_)
  simp only [rgs, rg, Bool.and_eq_true, Nat.ble_eq] at hr
  obtain ⟨hf, hw, ⟨hlc, hc⟩, hb, _⟩ := hr
  have hf := r_u8 hf
  have hw := r_u16 hw
  have wW : IntKind.i64.wrap (IntKind.i64.wrap wait + 1) = wait + 1 := by rw [w_id (n := wait) (by omega) (by omega), w_id (by omega) (by omega)]
  obtain ⟨M, eM, hM1, hM2, hgood⟩ := new_good (far := far) (w := wait + 1) hf ⟨by omega, by omega⟩
  have hbad : badC M (wait + 1) 1 ≠ true := by rw [hgood]; decide
  refine (t_lmoved I (fun v _ _ => v = .bool true) far wait l c p ob xs by_).mpr ?_
  rw [eM, wW]
  refine ⟨fun h => absurd h hbad, fun _ => ⟨fun h => absurd h hbad, fun _ => ?_⟩⟩
  have hbb : -1152921504606846976 < by_.tmod 1152921504606846976 ∧ by_.tmod 1152921504606846976 < 1152921504606846976 := by
    constructor
    · have := Int.lt_tmod_of_pos by_ (b := 1152921504606846976) (by omega); omega
    · exact Int.tmod_lt_of_pos by_ (by omega)
  generalize by_.tmod 1152921504606846976 = b at hbb
  refine ALoop.invg (ps := [(1, 1), (2, 2)]) (ts := [2, 3, 9, 11, 13, 14]) (nx := 3) (fun x : O × O × Int × Nat => j_mv l c p ob xs b x.1 x.2.1 x.2.2.1 (x.2.2.2 : Nat)) (fun x => Mv (wait + 1) b x.1 x.2.1 x.2.2.1 x.2.2.2) (fun x => 100 - x.2.2.2) ?_ (by kernel_rfl) (newC M (wait + 1) 1, newC M (wait + 1) 1, 0, 0) (by kernel_rfl) ⟨⟨new_ok hgood, rfl, rfl, rfl, Int.le_refl _, by simp, Nat.zero_le _⟩, new_ok hgood, rfl, rfl, rfl, rfl, rfl, rfl, rfl, fun h => by cases h⟩
  rintro ⟨s, t, now, i⟩ g
  simp only at g ⊢
  refine (t_mvA I _ _ l c p ob xs b s t now (i : Nat)).mpr (bsplit_both (fun hx => bsplit_both (fun hy => ?_) (fun hy => rfl)) (fun hx => rfl))
  have hx := of_decide_eq_true hx
  have hy := of_decide_eq_true hy
  have hi : i < xs.length := by omega
  have hx0 := xs_u16 ho hi
  refine must_mk (decide_eq_true ⟨by omega, hx⟩) (xget_mk (by rw [Int.toNat_natCast]; exact List.getElem?_eq_getElem hi) ?_)
  generalize (xs[i]).i 0 = d at hx0
  have := g.a.n0; have := g.a.n1
  rw [w_id (n := d) (by omega) (by omega), w_id (n := now + d) (by omega) (by omega), w_id (n := now + d + b) (by omega) (by omega)]
  have g' := g.next (by omega) hbb hx0 (by omega)
  have he := g.same (by omega) hbb hx0
  have hr : askR t (now + d + b) = askR s (now + d) := by unfold askR; rw [he, g.rc]
  rw [he, hr]
  refine bs_f (by simp) (bs_f (by simp) ⟨(askS s (now + d), askS t (now + d + b), now + d, i + 1), g', by show 100 - (i + 1) < 100 - i; omega, ?_⟩)
  rw [w_id (n := (i : Int) + 1) (by omega) (by omega)]
  rfl
end Go.Tb.W
