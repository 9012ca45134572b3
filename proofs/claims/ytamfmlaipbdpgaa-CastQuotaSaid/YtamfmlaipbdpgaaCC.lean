/- Searches: the quota, and what is told; laws. -/
import Derived.Test.YtamfmlaipbdpgaaCB
set_option linter.all false
set_option maxRecDepth 100000
namespace Go.Tb.W
open Go Go.Proofs
theorem mleft_mem {es : List (Rw × Nat)} {seen : List Nat} {e : Rw × Nat} (h : e ∈ mleft es seen) : e ∈ es ∧ seen.contains e.2 = false := by
  unfold mleft at h
  obtain ⟨h1, h2⟩ := List.mem_filter.1 h
  exact ⟨h1, by simpa using h2⟩
theorem matB_mem : ∀ {es : List (Rw × Nat)} {e : Rw × Nat}, es.Pairwise (fun a b => a.2 ≠ b.2) → e ∈ es → matB e.2 es = some e
  | [], _, _, h => by simp at h
  | a :: l, e, hp, he => by
    obtain ⟨hp1, hp2⟩ := List.pairwise_cons.1 hp
    simp only [matB]
    rcases List.mem_cons.1 he with rfl | he
    · have : Nat.beq e.2 e.2 = true := Nat.beq_refl _
      rw [this]
    · have : Nat.beq a.2 e.2 = false := by
        cases hb : Nat.beq a.2 e.2 with
        | false => rfl
        | true => exact absurd (Nat.eq_of_beq_eq_true hb) (hp1 e he)
      rw [this]
      exact matB_mem hp2 he
theorem CInv.lost' {s : O} {es : List (Rw × Nat)} {clk : Nat} (h : CInv s es clk) (id : Int) : CInv (lostS s id) (mdel (.int .i64 id) es) clk := by
  cases he : hasC s id with
  | true => exact h.lost he
  | false =>
    have e1 : lostS s id = s := by unfold lostS; rw [if_neg (by rw [he]; decide)]
    have e2 : mdel (.int .i64 id) es = es := by
      rw [mdel_eq h.key]
      refine List.filter_eq_self.2 fun e hm => ?_
      have hn : id ∉ s.ids := by simpa [hasC] using he
      have : e.1.i 0 ≠ id := fun hk => hn (h.pm.mem_iff.1 (List.mem_map.2 ⟨e, hm, hk⟩))
      simp [this]
    rw [e1, e2]; exact h
theorem foundS_same {s : O} {id : Int} (h : foundE s id ≠ 0) : foundS s id = s := by unfold foundS; rw [if_neg h]
theorem foundS_eq (s : O) (id : Int) : (foundS s id).q = s.q ∧ (foundS s id).w = s.w ∧ (foundS s id).wt = s.wt ∧ (foundS s id).ak = s.ak := by
  unfold foundS; split <;> exact ⟨rfl, rfl, rfl, rfl⟩
structure Qu (q : Int) (s : O) (es : List (Rw × Nat)) (clk i : Nat) : Prop where
  a : CInv s es clk
  q : s.q = q
  w : s.w = 5
  wt : s.wt = 5
  ak : s.ak = false
  il : i ≤ 40
theorem Qu.full {q : Int} {s : O} {es : List (Rw × Nat)} {clk i : Nat} (h : Qu q s es clk i) : fullC s = ((es.length : Int) == q) := by
  rw [h.a.len]
  have := h.a.ok.ln
  have hq := h.q
  unfold fullC
  rw [Bool.eq_iff_iff]; simp; omega
theorem Qu.due {q : Int} {s : O} {es : List (Rw × Nat)} {clk i : Nat} (h : Qu q s es clk i) : (askE s 0 == 0) = !fullC s := by
  unfold askE mayE
  rw [h.ak, h.wt]
  cases fullC s <;> simp
theorem Qu.last {q : Int} {s : O} {es : List (Rw × Nat)} {clk i : Nat} (h : Qu q s es clk i) {id : Int} (hi : id ∈ s.ids) : lostE (askS s 0) id = 0 ∧ askE (lostS (askS s 0) id) 1125899906842624 = 0 ∧ askR (lostS (askS s 0) id) 1125899906842624 = 1 := by
  obtain ⟨e1, e2, e3, e4⟩ := askS_same s 0
  have hh : hasC (askS s 0) id = true := by unfold hasC; rw [e4]; simpa using hi
  have eS : lostS (askS s 0) id = { askS s 0 with ids := (askS s 0).ids.filter (fun x => !(x == id)), rc := 1, wt := (askS s 0).w } := by unfold lostS; rw [if_pos hh]
  have hlt : ((askS s 0).ids.filter (fun x => !(x == id))).length < s.ids.length := by
    rw [e4]
    exact List.length_filter_lt_length_iff_exists.2 ⟨id, hi, by simp⟩
  have hfr : (askS s 0).ak = true → (askS s 0).fr ≤ 1125899906842624 := by
    unfold askS
    split
    · intro _; show 0 + s.wt ≤ _; rw [h.wt]; omega
    · intro hk; rw [h.ak] at hk; cases hk
  have h0 : askE (lostS (askS s 0) id) 1125899906842624 = 0 := by
    rw [eS]
    refine may0 ?_ hfr ?_
    · have := h.a.ok.ln
      refine decide_eq_false ?_
      show ¬ ((((askS s 0).ids.filter (fun x => !(x == id))).length : Nat) : Int) ≥ (askS s 0).q
      rw [e3]; omega
    · show (1125899906842624 : Int) ≤ 9223372036854775807 - (askS s 0).w
      rw [e2, h.w]; omega
  refine ⟨by unfold lostE; rw [if_pos hh], h0, ?_⟩
  unfold askR
  rw [if_pos h0, eS]
theorem xs_u8 {ob : Obj} {xs : List Rw} (ho : RgOs [(.out ob [.i .u8] xs : AO O)]) {j : Nat} (hj : j < xs.length) : 0 ≤ (xs[j]).i 0 ∧ (xs[j]).i 0 ≤ 255 := by
  have := ho.1 xs[j] (List.getElem_mem hj)
  simp only [encR, encS, rgs, rg, Bool.and_eq_true] at this
  exact r_u8 this.1
theorem xs_i8 {ob : Obj} {xs : List Rw} (ho : RgOs [(.out ob [.i .i8] xs : AO O)]) {j : Nat} (hj : j < xs.length) : -128 ≤ (xs[j]).i 0 ∧ (xs[j]).i 0 ≤ 127 := by
  have := ho.1 xs[j] (List.getElem_mem hj)
  simp only [encR, encS, rgs, rg, Bool.and_eq_true] at this
  exact r_i8 this.1
theorem quo {qu : Int} (h : 0 ≤ qu ∧ qu ≤ 255) : ∃ q, IntKind.i64.wrap (IntKind.i64.wrap (qu.tmod 16) + 1) = q ∧ 1 ≤ q ∧ q ≤ 16 := by
  have h1 : 0 ≤ qu.tmod 16 := Int.tmod_nonneg 16 h.1
  have h2 : qu.tmod 16 < 16 := Int.tmod_lt_of_pos qu (by omega)
  refine ⟨_, rfl, ?_⟩
  rw [w_id (n := qu.tmod 16) (by omega) (by omega), w_id (by omega) (by omega)]
  omega
variable {I : Interp O} (hI : I.R = pk.R)
include hI
theorem l_quota (qu : Int) (l c : Nat) (p : Bool) (ob : Obj) (xs : List Rw) (hxs : xs.length = l) :
    ACall I P 5 [.int .u8 qu, .slq 0 l c p] (Tr.ofList 0 [.out ob [.i .u8] xs] .leaf) (fun v _ => v = .bool true) := by
  refine ocall mix (gB2 hI) (fn := Try.f5) (by kernel_rfl) (by kernel_rfl) (by kernel_rfl) [.out ob [.i .u8] xs] _ rfl rfl (fun hr ho => ?_)
  simp only [rgs, rg, Bool.and_eq_true, Nat.ble_eq] at hr
  obtain ⟨hq, ⟨hlc, hc⟩, _⟩ := hr
  obtain ⟨q, eq, hq1, hq2⟩ := quo (r_u8 hq)
  have hgood : badC 200 5 q = false := decide_eq_false (by omega)
  refine (t_lquota I (fun v _ _ => v = .bool true) qu l c p ob xs).mpr ?_
  rw [eq]
  refine ⟨fun h => absurd h (by rw [hgood]; decide), fun _ => ?_⟩
  refine ALoop.invg (ps := [(1, 1), (2, 2)]) (ts := [1, 5, 6, 8, 9]) (nx := 3) (fun x : O × List (Rw × Nat) × Nat × Nat => j_qu l c p ob xs q x.1 x.2.1 x.2.2.1 (x.2.2.2 : Nat)) (fun x => Qu q x.1 x.2.1 x.2.2.1 x.2.2.2) (fun x => 40 - x.2.2.2) ?_ (by kernel_rfl) (newC 200 5 q, [], 0, 0) (by kernel_rfl)
    ⟨⟨new_ok hgood, List.Pairwise.nil, List.Pairwise.nil, fun e he => (by cases he), fun e he => (by cases he), List.Perm.refl _⟩, rfl, rfl, rfl, rfl, Nat.zero_le _⟩
  rintro ⟨s, es, clk, i⟩ g
  simp only at g ⊢
  refine (t_quA I _ _ l c p ob xs q s es clk (i : Nat)).mpr (bsplit_both (fun hx => bsplit_both (fun hy => ?_) (fun hy => ?_)) (fun hx => ?_))
  · have hx := of_decide_eq_true hx
    have hy := of_decide_eq_true hy
    have hi : i < xs.length := by omega
    have hx0 := xs_u8 ho hi
    refine must_mk (decide_eq_true ⟨by omega, hx⟩) (xget_mk (by rw [Int.toNat_natCast]; exact List.getElem?_eq_getElem hi) ?_)
    generalize (xs[i]).i 0 = d at hx0
    rw [w_id (n := d) (by omega) (by omega), g.a.has d, show acells (AV.bool true) = [AV.bool true] from rfl]
    have hl := g.a.ln
    have e3 : IntKind.i64.wrap ((i : Int) + 1) = ((i + 1 : Nat) : Int) := by rw [w_id (by omega) (by omega)]; omega
    have fin : ∀ (s' : O) (es' : List (Rw × Nat)) (clk' : Nat), Qu q s' es' clk' (i + 1) → ∀ s0 : St O, s0 = j_qu l c p ob xs q s' es' clk' ((i + 1 : Nat) : Int) →
        ∃ y : O × List (Rw × Nat) × Nat × Nat, Qu q y.1 y.2.1 y.2.2.1 y.2.2.2 ∧ 40 - y.2.2.2 < 40 - i ∧ s0 = j_qu l c p ob xs q y.1 y.2.1 y.2.2.1 (y.2.2.2 : Nat) := fun s' es' clk' g' s0 h0 => ⟨(s', es', clk', i + 1), g', by show 40 - (i + 1) < 40 - i; omega, h0⟩
    rw [e3]
    refine bsplit_both (fun ha => ?_) (fun ha => ⟨by omega, bsplit_both (fun hb => ?_) (fun hb => ?_)⟩)
    · have hE : foundE s d = 11 := by unfold foundE; rw [if_neg (by omega), if_pos ha]
      rw [foundS_same (s := s) (id := d) (by rw [hE]; decide), hE]
      have g' : Qu q s es clk (i + 1) := { g with il := by omega }
      have f2 : (!fullC s == ((es.length : Int) == q)) = false := by rw [g'.full]; simp
      have f3 : ((askE s 0 == 0) == fullC s) = false := by rw [g'.due]; cases fullC s <;> rfl
      exact bs_f (by decide) fun _ => ⟨fun hn => ⟨by omega, bs_f (by rw [g.a.len, hn]; rfl) ⟨by omega, bs_f f2 (bs_f f3 (fin _ _ _ g' _ rfl))⟩⟩, fun hp c2 room => ⟨by omega, bs_f (by rw [g.a.len]; simp) ⟨by omega, bs_f f2 (bs_f f3 (fin _ _ _ g' _ rfl))⟩⟩⟩
    · have hE : foundE s d = 4 := by unfold foundE; rw [if_neg (by omega), if_neg (by rw [ha]; decide), if_pos (by rw [g.full]; exact hb)]
      rw [foundS_same (s := s) (id := d) (by rw [hE]; decide), hE]
      have g' : Qu q s es clk (i + 1) := { g with il := by omega }
      have f2 : (!fullC s == ((es.length : Int) == q)) = false := by rw [g'.full]; simp
      have f3 : ((askE s 0 == 0) == fullC s) = false := by rw [g'.due]; cases fullC s <;> rfl
      exact bs_f (by decide) fun _ => ⟨fun hn => ⟨by omega, bs_f (by rw [g.a.len, hn]; rfl) ⟨by omega, bs_f f2 (bs_f f3 (fin _ _ _ g' _ rfl))⟩⟩, fun hp c2 room => ⟨by omega, bs_f (by rw [g.a.len]; simp) ⟨by omega, bs_f f2 (bs_f f3 (fin _ _ _ g' _ rfl))⟩⟩⟩
    · have hE : foundE s d = 0 := by unfold foundE; rw [if_neg (by omega), if_neg (by rw [ha]; decide), if_neg (by rw [g.full, hb]; decide)]
      have inv := g.a.found (id := d) (by omega) hE
      obtain ⟨k1, k2, k3, k4⟩ := foundS_eq s d
      have g' : Qu q (foundS s d) (mput (rwA [.int .i64 d, .bool true]) (.int .i64 d) clk es) (mclk (.int .i64 d) es clk) (i + 1) := ⟨inv, by rw [k1, g.q], by rw [k2, g.w], by rw [k3, g.wt], by rw [k4, g.ak], by omega⟩
      rw [hE]
      generalize foundS s d = s' at *
      generalize mput (rwA [AV.int IntKind.i64 d, AV.bool true]) (AV.int IntKind.i64 d) clk es = es' at *
      generalize mclk (AV.int IntKind.i64 d) es clk = clk' at *
      have hl := g'.a.ln
      have f2 : (!fullC s' == ((es'.length : Int) == q)) = false := by rw [g'.full]; simp
      have f3 : ((askE s' 0 == 0) == fullC s') = false := by rw [g'.due]; cases fullC s' <;> rfl
      exact bs_f (by decide) fun _ => ⟨fun hn => ⟨by omega, bs_f (by rw [g'.a.len, hn]; rfl) ⟨by omega, bs_f f2 (bs_f f3 (fin _ _ _ g' _ rfl))⟩⟩, fun hp c2 room => ⟨by omega, bs_f (by rw [g'.a.len]; simp) ⟨by omega, bs_f f2 (bs_f f3 (fin _ _ _ g' _ rfl))⟩⟩⟩
  all_goals
    refine ALoop.start [(1, 1), (2, 2), (3, 3)] [6, 91] 4 (j_quB ob xs s es clk clk [] clk none) (by kernel_rfl) (by kernel_rfl) ?_
    refine ALoop.stepg [(1, 1), (2, 2), (3, 3)] [6, 91] 4 ?_
    refine (t_quB I _ (fun _ => True) _ ob xs s es clk clk [] clk none).mpr (must_mk rfl ⟨fun _ => rfl, fun x b hm => ?_⟩)
    obtain ⟨h1, _⟩ := mleft_mem hm
    have hid : x.i 0 ∈ s.ids := g.a.pm.mem_iff.1 (List.mem_map.2 ⟨(x, b), h1, rfl⟩)
    obtain ⟨z1, z2, z3⟩ := g.last hid
    refine must_mk (Nat.beq_refl _) ⟨matB_mem g.a.brn h1, ?_⟩
    show bsplit (lostE (askS s 0) (x.i 0) != 0) _
    rw [z1]
    refine bs_f (by decide) ?_
    show bsplit (askE (lostS (askS s 0) (x.i 0)) 1125899906842624 == 0) _
    rw [z2]
    refine bs_t (by decide) ?_
    show AV.bool (askR (lostS (askS s 0) (x.i 0)) 1125899906842624 == 1) = _
    rw [z3]; rfl
structure Id (q : Int) (s : O) (es : List (Rw × Nat)) (clk i : Nat) : Prop where
  a : CInv s es clk
  q : s.q = q
  il : i ≤ 60
theorem l_ids (qu : Int) (l c : Nat) (p : Bool) (ob : Obj) (xs : List Rw) (hxs : xs.length = l) :
    ACall I P 7 [.int .u8 qu, .slq 0 l c p] (Tr.ofList 0 [.out ob [.i .i8] xs] .leaf) (fun v _ => v = .bool true) := by
  refine ocall mix (gB2 hI) (fn := Try.f7) (by kernel_rfl) (by kernel_rfl) (by kernel_rfl) [.out ob [.i .i8] xs] _ rfl rfl (fun hr ho => ?_)
  simp only [rgs, rg, Bool.and_eq_true, Nat.ble_eq] at hr
  obtain ⟨hq, ⟨hlc, hc⟩, _⟩ := hr
  obtain ⟨q, eq, hq1, hq2⟩ := quo (r_u8 hq)
  have hgood : badC 9 9 q = false := decide_eq_false (by omega)
  refine (t_lids I (fun v _ _ => v = .bool true) qu l c p ob xs).mpr ?_
  rw [eq]
  refine ⟨fun h => absurd h (by rw [hgood]; decide), fun _ => ?_⟩
  refine ALoop.invg (ps := [(1, 1), (2, 2)]) (ts := [1, 5, 6, 8, 9]) (nx := 3) (fun x : O × List (Rw × Nat) × Nat × Nat => j_id l c p ob xs q x.1 x.2.1 x.2.2.1 (x.2.2.2 : Nat)) (fun x => Id q x.1 x.2.1 x.2.2.1 x.2.2.2) (fun x => 60 - x.2.2.2) ?_ (by kernel_rfl) (newC 9 9 q, [], 0, 0) (by kernel_rfl)
    ⟨⟨new_ok hgood, List.Pairwise.nil, List.Pairwise.nil, fun e he => (by cases he), fun e he => (by cases he), List.Perm.refl _⟩, rfl, Nat.zero_le _⟩
  rintro ⟨s, es, clk, i⟩ g
  simp only at g ⊢
  refine (t_idA I _ _ l c p ob xs q s es clk (i : Nat)).mpr (bsplit_both (fun hx => bsplit_both (fun hy => ?_) (fun hy => rfl)) (fun hx => rfl))
  have hx := of_decide_eq_true hx
  have hy := of_decide_eq_true hy
  have hi : i < xs.length := by omega
  have hx0 := xs_i8 ho hi
  refine must_mk (decide_eq_true ⟨by omega, hx⟩) (xget_mk (by rw [Int.toNat_natCast]; exact List.getElem?_eq_getElem hi) ?_)
  generalize (xs[i]).i 0 = d at hx0
  rw [w_id (n := d) (by omega) (by omega), w_id (n := -1 - d) (by omega) (by omega), g.a.has (-1 - d), show acells (AV.bool true) = [AV.bool true] from rfl]
  have e3 : IntKind.i64.wrap ((i : Int) + 1) = ((i + 1 : Nat) : Int) := by rw [w_id (by omega) (by omega)]; omega
  have fin : ∀ (s' : O) (es' : List (Rw × Nat)) (clk' : Nat), Id q s' es' clk' (i + 1) → ∀ s0 : St O, s0 = j_id l c p ob xs q s' es' clk' ((i + 1 : Nat) : Int) →
      ∃ y : O × List (Rw × Nat) × Nat × Nat, Id q y.1 y.2.1 y.2.2.1 y.2.2.2 ∧ 60 - y.2.2.2 < 60 - i ∧ s0 = j_id l c p ob xs q y.1 y.2.1 y.2.2.1 (y.2.2.2 : Nat) := fun s' es' clk' g' s0 h0 => ⟨(s', es', clk', i + 1), g', by show 60 - (i + 1) < 60 - i; omega, h0⟩
  have hlostE : (!(lostE s (-1 - d) == 0) == hasC s (-1 - d)) = false := by unfold lostE; cases hasC s (-1 - d) <;> rfl
  have hgL : Id q (lostS s (-1 - d)) (mdel (.int .i64 (-1 - d)) es) clk (i + 1) := ⟨g.a.lost' (-1 - d), by unfold lostS; split <;> exact g.q, by omega⟩
  refine bsplit_both (fun ha => ?_) (fun ha => bsplit_both (fun hb => ?_) (fun hb => ?_))
  · clear ha
    generalize lostS s (-1 - d) = s' at *
    generalize mdel (AV.int IntKind.i64 (-1 - d)) es = es' at *
    have g' := hgL
    have hl := g'.a.ln
    have hln := g'.a.len
    have hcap := g'.a.ok.ln
    have hqq := g'.q
    refine ⟨bs_f hlostE fun hok => ⟨fun hn => ⟨by omega, bs_f (by rw [hln, hn]; rfl) (bs_f (decide_eq_false (by omega)) ?_)⟩, fun hp c2 room => ⟨by omega, bs_f (by rw [hln]; simp) (bs_f (decide_eq_false (by omega)) ?_)⟩⟩, bs_f hlostE fun hok => ⟨fun hn => ⟨by omega, bs_f (by rw [hln, hn]; rfl) (bs_f (decide_eq_false (by omega)) ?_)⟩, fun hp c2 room => ⟨by omega, bs_f (by rw [hln]; simp) (bs_f (decide_eq_false (by omega)) ?_)⟩⟩⟩
    · refine ALoop.start [(1, 1), (2, 2)] [1, 5, 6, 8, 9, 11, 76, 77] 3 (j_idB l c p ob xs q s' es' clk (i : Nat)) (by kernel_rfl) (by kernel_rfl) ?_
      refine ALoop.stepg [(1, 1), (2, 2)] [1, 5, 6, 8, 9, 11, 76, 77] 3 ?_
      refine (t_idB I _ _ _ l c p ob xs q s' es' clk (i : Nat)).mpr (fin s' es' clk g' _ ?_)
      rw [e3]; rfl
    · refine ALoop.invg (ps := [(1, 1), (2, 2), (3, 3)]) (ts := [1, 5, 6, 8, 9, 11, 76, 77]) (nx := 4) (fun k : Nat => j_idC l c p ob xs q s' es' clk (i : Nat) s'.ids.length c2 (s'.ids.map iR) room (k : Nat)) (fun k => k ≤ s'.ids.length) (fun k => s'.ids.length - k) ?_ (by kernel_rfl) 0 (by kernel_rfl) (Nat.zero_le _)
      intro k hk
      refine (t_idC I _ _ _ l c p ob xs q s' es' clk (i : Nat) s'.ids.length c2 (s'.ids.map iR) room (k : Nat)).mpr (bsplit_both (fun h1 => ?_) (fun h1 => fin s' es' clk g' _ (by rw [e3]; rfl)))
      have h1 := of_decide_eq_true h1
      have hk2 : k < s'.ids.length := by omega
      have get : ∀ j : Nat, (hj : j < s'.ids.length) → (s'.ids.map iR)[((j : Nat) : Int).toNat]? = some (iR (s'.ids[j])) := fun j hj => by rw [Int.toNat_natCast, List.getElem?_map, List.getElem?_eq_getElem hj]; rfl
      have hb' : decide ((0 : Int) ≤ (k : Int) ∧ (k : Int) < (s'.ids.length : Int)) = true := decide_eq_true ⟨by omega, by omega⟩
      have go : ∀ s0 : St O, s0 = j_idC l c p ob xs q s' es' clk (i : Nat) s'.ids.length c2 (s'.ids.map iR) room ((k + 1 : Nat) : Int) → ∃ y : Nat, y ≤ s'.ids.length ∧ s'.ids.length - y < s'.ids.length - k ∧ s0 = j_idC l c p ob xs q s' es' clk (i : Nat) s'.ids.length c2 (s'.ids.map iR) room (y : Nat) := fun s0 h0 => ⟨k + 1, by omega, by omega, h0⟩
      have e4 : IntKind.i64.wrap ((k : Int) + 1) = ((k + 1 : Nat) : Int) := by rw [w_id (by omega) (by omega)]; omega
      refine must_mk hb' (xget_mk (get k hk2) (bs_f ?_ (bsplit_both (fun h2 => ?_) (fun h2 => go _ (by rw [e4]; rfl)))))
      · show (!(mrow (.int .i64 (s'.ids[k])) es').b 1) = false
        rw [g'.a.has]
        simp [hasC]
      · have h2 := of_decide_eq_true h2
        have e5 : IntKind.i64.wrap ((k : Int) - 1) = ((k - 1 : Nat) : Int) := by rw [w_id (by omega) (by omega)]; omega
        rw [e5]
        refine must_mk (decide_eq_true ⟨by omega, by omega⟩) (must_mk hb' (xget_mk (get (k - 1) (by omega)) (xget_mk (get k hk2) (bs_f ?_ (go _ (by rw [e4]; rfl))))))
        have := List.pairwise_iff_getElem.1 g'.a.ok.so (k - 1) k (by omega) hk2 (by omega)
        refine decide_eq_false ?_
        show ¬ (s'.ids[k - 1] ≥ s'.ids[k])
        omega
    · refine ALoop.start [(1, 1), (2, 2)] [1, 5, 6, 8, 9, 11, 76, 77] 3 (j_idB l c p ob xs q s' es' clk (i : Nat)) (by kernel_rfl) (by kernel_rfl) ?_
      refine ALoop.stepg [(1, 1), (2, 2)] [1, 5, 6, 8, 9, 11, 76, 77] 3 ?_
      refine (t_idB I _ _ _ l c p ob xs q s' es' clk (i : Nat)).mpr (fin s' es' clk g' _ ?_)
      rw [e3]; rfl
    · refine ALoop.invg (ps := [(1, 1), (2, 2), (3, 3)]) (ts := [1, 5, 6, 8, 9, 11, 76, 77]) (nx := 4) (fun k : Nat => j_idC l c p ob xs q s' es' clk (i : Nat) s'.ids.length c2 (s'.ids.map iR) room (k : Nat)) (fun k => k ≤ s'.ids.length) (fun k => s'.ids.length - k) ?_ (by kernel_rfl) 0 (by kernel_rfl) (Nat.zero_le _)
      intro k hk
      refine (t_idC I _ _ _ l c p ob xs q s' es' clk (i : Nat) s'.ids.length c2 (s'.ids.map iR) room (k : Nat)).mpr (bsplit_both (fun h1 => ?_) (fun h1 => fin s' es' clk g' _ (by rw [e3]; rfl)))
      have h1 := of_decide_eq_true h1
      have hk2 : k < s'.ids.length := by omega
      have get : ∀ j : Nat, (hj : j < s'.ids.length) → (s'.ids.map iR)[((j : Nat) : Int).toNat]? = some (iR (s'.ids[j])) := fun j hj => by rw [Int.toNat_natCast, List.getElem?_map, List.getElem?_eq_getElem hj]; rfl
      have hb' : decide ((0 : Int) ≤ (k : Int) ∧ (k : Int) < (s'.ids.length : Int)) = true := decide_eq_true ⟨by omega, by omega⟩
      have go : ∀ s0 : St O, s0 = j_idC l c p ob xs q s' es' clk (i : Nat) s'.ids.length c2 (s'.ids.map iR) room ((k + 1 : Nat) : Int) → ∃ y : Nat, y ≤ s'.ids.length ∧ s'.ids.length - y < s'.ids.length - k ∧ s0 = j_idC l c p ob xs q s' es' clk (i : Nat) s'.ids.length c2 (s'.ids.map iR) room (y : Nat) := fun s0 h0 => ⟨k + 1, by omega, by omega, h0⟩
      have e4 : IntKind.i64.wrap ((k : Int) + 1) = ((k + 1 : Nat) : Int) := by rw [w_id (by omega) (by omega)]; omega
      refine must_mk hb' (xget_mk (get k hk2) (bs_f ?_ (bsplit_both (fun h2 => ?_) (fun h2 => go _ (by rw [e4]; rfl)))))
      · show (!(mrow (.int .i64 (s'.ids[k])) es').b 1) = false
        rw [g'.a.has]
        simp [hasC]
      · have h2 := of_decide_eq_true h2
        have e5 : IntKind.i64.wrap ((k : Int) - 1) = ((k - 1 : Nat) : Int) := by rw [w_id (by omega) (by omega)]; omega
        rw [e5]
        refine must_mk (decide_eq_true ⟨by omega, by omega⟩) (must_mk hb' (xget_mk (get (k - 1) (by omega)) (xget_mk (get k hk2) (bs_f ?_ (go _ (by rw [e4]; rfl))))))
        have := List.pairwise_iff_getElem.1 g'.a.ok.so (k - 1) k (by omega) hk2 (by omega)
        refine decide_eq_false ?_
        show ¬ (s'.ids[k - 1] ≥ s'.ids[k])
        omega
  · have hE : foundE s d = 0 := by simpa using hb
    have inv := g.a.found (id := d) (by omega) hE
    obtain ⟨k1, k2, k3, k4⟩ := foundS_eq s d
    have g' : Id q (foundS s d) (mput (rwA [.int .i64 d, .bool true]) (.int .i64 d) clk es) (mclk (.int .i64 d) es clk) (i + 1) := ⟨inv, by rw [k1, g.q], by omega⟩
    clear hgL hlostE
    generalize foundS s d = s' at *
    generalize mput (rwA [AV.int IntKind.i64 d, AV.bool true]) (AV.int IntKind.i64 d) clk es = es' at *
    generalize mclk (AV.int IntKind.i64 d) es clk = clk' at *
    have hl := g'.a.ln
    have hln := g'.a.len
    have hcap := g'.a.ok.ln
    have hqq := g'.q
    refine fun hok => ⟨fun hn => ⟨by omega, bs_f (by rw [hln, hn]; rfl) (bs_f (decide_eq_false (by omega)) ?_)⟩, fun hp c2 room => ⟨by omega, bs_f (by rw [hln]; simp) (bs_f (decide_eq_false (by omega)) ?_)⟩⟩
    · refine ALoop.start [(1, 1), (2, 2)] [1, 5, 6, 8, 9, 11, 76, 77] 3 (j_idB l c p ob xs q s' es' clk' (i : Nat)) (by kernel_rfl) (by kernel_rfl) ?_
      refine ALoop.stepg [(1, 1), (2, 2)] [1, 5, 6, 8, 9, 11, 76, 77] 3 ?_
      refine (t_idB I _ _ _ l c p ob xs q s' es' clk' (i : Nat)).mpr (fin s' es' clk' g' _ ?_)
      rw [e3]; rfl
    · refine ALoop.invg (ps := [(1, 1), (2, 2), (3, 3)]) (ts := [1, 5, 6, 8, 9, 11, 76, 77]) (nx := 4) (fun k : Nat => j_idC l c p ob xs q s' es' clk' (i : Nat) s'.ids.length c2 (s'.ids.map iR) room (k : Nat)) (fun k => k ≤ s'.ids.length) (fun k => s'.ids.length - k) ?_ (by kernel_rfl) 0 (by kernel_rfl) (Nat.zero_le _)
      intro k hk
      refine (t_idC I _ _ _ l c p ob xs q s' es' clk' (i : Nat) s'.ids.length c2 (s'.ids.map iR) room (k : Nat)).mpr (bsplit_both (fun h1 => ?_) (fun h1 => fin s' es' clk' g' _ (by rw [e3]; rfl)))
      have h1 := of_decide_eq_true h1
      have hk2 : k < s'.ids.length := by omega
      have get : ∀ j : Nat, (hj : j < s'.ids.length) → (s'.ids.map iR)[((j : Nat) : Int).toNat]? = some (iR (s'.ids[j])) := fun j hj => by rw [Int.toNat_natCast, List.getElem?_map, List.getElem?_eq_getElem hj]; rfl
      have hb' : decide ((0 : Int) ≤ (k : Int) ∧ (k : Int) < (s'.ids.length : Int)) = true := decide_eq_true ⟨by omega, by omega⟩
      have go : ∀ s0 : St O, s0 = j_idC l c p ob xs q s' es' clk' (i : Nat) s'.ids.length c2 (s'.ids.map iR) room ((k + 1 : Nat) : Int) → ∃ y : Nat, y ≤ s'.ids.length ∧ s'.ids.length - y < s'.ids.length - k ∧ s0 = j_idC l c p ob xs q s' es' clk' (i : Nat) s'.ids.length c2 (s'.ids.map iR) room (y : Nat) := fun s0 h0 => ⟨k + 1, by omega, by omega, h0⟩
      have e4 : IntKind.i64.wrap ((k : Int) + 1) = ((k + 1 : Nat) : Int) := by rw [w_id (by omega) (by omega)]; omega
      refine must_mk hb' (xget_mk (get k hk2) (bs_f ?_ (bsplit_both (fun h2 => ?_) (fun h2 => go _ (by rw [e4]; rfl)))))
      · show (!(mrow (.int .i64 (s'.ids[k])) es').b 1) = false
        rw [g'.a.has]
        simp [hasC]
      · have h2 := of_decide_eq_true h2
        have e5 : IntKind.i64.wrap ((k : Int) - 1) = ((k - 1 : Nat) : Int) := by rw [w_id (by omega) (by omega)]; omega
        rw [e5]
        refine must_mk (decide_eq_true ⟨by omega, by omega⟩) (must_mk hb' (xget_mk (get (k - 1) (by omega)) (xget_mk (get k hk2) (bs_f ?_ (go _ (by rw [e4]; rfl))))))
        have := List.pairwise_iff_getElem.1 g'.a.ok.so (k - 1) k (by omega) hk2 (by omega)
        refine decide_eq_false ?_
        show ¬ (s'.ids[k - 1] ≥ s'.ids[k])
        omega
  · have hE : foundE s d ≠ 0 := by simpa using hb
    rw [foundS_same hE]
    have g' : Id q s es clk (i + 1) := { g with il := by omega }
    have hl := g'.a.ln
    have hln := g'.a.len
    have hcap := g'.a.ok.ln
    have hqq := g'.q
    clear hgL hlostE
    generalize hs' : s = s' at *
    generalize hes' : es = es' at *
    refine fun hok => ⟨fun hn => ⟨by omega, bs_f (by rw [hln, hn]; rfl) (bs_f (decide_eq_false (by omega)) ?_)⟩, fun hp c2 room => ⟨by omega, bs_f (by rw [hln]; simp) (bs_f (decide_eq_false (by omega)) ?_)⟩⟩
    · refine ALoop.start [(1, 1), (2, 2)] [1, 5, 6, 8, 9, 11, 76, 77] 3 (j_idB l c p ob xs q s' es' clk (i : Nat)) (by kernel_rfl) (by kernel_rfl) ?_
      refine ALoop.stepg [(1, 1), (2, 2)] [1, 5, 6, 8, 9, 11, 76, 77] 3 ?_
      refine (t_idB I _ _ _ l c p ob xs q s' es' clk (i : Nat)).mpr (fin s' es' clk g' _ ?_)
      rw [e3]; rfl
    · refine ALoop.invg (ps := [(1, 1), (2, 2), (3, 3)]) (ts := [1, 5, 6, 8, 9, 11, 76, 77]) (nx := 4) (fun k : Nat => j_idC l c p ob xs q s' es' clk (i : Nat) s'.ids.length c2 (s'.ids.map iR) room (k : Nat)) (fun k => k ≤ s'.ids.length) (fun k => s'.ids.length - k) ?_ (by kernel_rfl) 0 (by kernel_rfl) (Nat.zero_le _)
      intro k hk
      refine (t_idC I _ _ _ l c p ob xs q s' es' clk (i : Nat) s'.ids.length c2 (s'.ids.map iR) room (k : Nat)).mpr (bsplit_both (fun h1 => ?_) (fun h1 => fin s' es' clk g' _ (by rw [e3]; rfl)))
      have h1 := of_decide_eq_true h1
      have hk2 : k < s'.ids.length := by omega
      have get : ∀ j : Nat, (hj : j < s'.ids.length) → (s'.ids.map iR)[((j : Nat) : Int).toNat]? = some (iR (s'.ids[j])) := fun j hj => by rw [Int.toNat_natCast, List.getElem?_map, List.getElem?_eq_getElem hj]; rfl
      have hb' : decide ((0 : Int) ≤ (k : Int) ∧ (k : Int) < (s'.ids.length : Int)) = true := decide_eq_true ⟨by omega, by omega⟩
      have go : ∀ s0 : St O, s0 = j_idC l c p ob xs q s' es' clk (i : Nat) s'.ids.length c2 (s'.ids.map iR) room ((k + 1 : Nat) : Int) → ∃ y : Nat, y ≤ s'.ids.length ∧ s'.ids.length - y < s'.ids.length - k ∧ s0 = j_idC l c p ob xs q s' es' clk (i : Nat) s'.ids.length c2 (s'.ids.map iR) room (y : Nat) := fun s0 h0 => ⟨k + 1, by omega, by omega, h0⟩
      have e4 : IntKind.i64.wrap ((k : Int) + 1) = ((k + 1 : Nat) : Int) := by rw [w_id (by omega) (by omega)]; omega
      refine must_mk hb' (xget_mk (get k hk2) (bs_f ?_ (bsplit_both (fun h2 => ?_) (fun h2 => go _ (by rw [e4]; rfl)))))
      · show (!(mrow (.int .i64 (s'.ids[k])) es').b 1) = false
        rw [g'.a.has]
        simp [hasC]
      · have h2 := of_decide_eq_true h2
        have e5 : IntKind.i64.wrap ((k : Int) - 1) = ((k - 1 : Nat) : Int) := by rw [w_id (by omega) (by omega)]; omega
        rw [e5]
        refine must_mk (decide_eq_true ⟨by omega, by omega⟩) (must_mk hb' (xget_mk (get (k - 1) (by omega)) (xget_mk (get k hk2) (bs_f ?_ (go _ (by rw [e4]; rfl))))))
        have := List.pairwise_iff_getElem.1 g'.a.ok.so (k - 1) k (by omega) hk2 (by omega)
        refine decide_eq_false ?_
        show ¬ (s'.ids[k - 1] ≥ s'.ids[k])
        omega
end Go.Tb.W
