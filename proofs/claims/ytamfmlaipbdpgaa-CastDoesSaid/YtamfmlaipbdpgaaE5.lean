/- Searches: each answer is the document's; law (printed by a program of mine, mkE5.py). -/
import Derived.Test.YtamfmlaipbdpgaaE4
set_option linter.all false
set_option maxRecDepth 100000
set_option maxHeartbeats 4000000
namespace Go.Tb.W
open Go Go.Proofs
/-- The document's search is the program's. -/
structure ER (s : O) (quota m w q t fr : Int) (ak : Bool) (i : Nat) : Prop where
  ok : okC s
  hm : m = s.m
  hw : w = s.w
  hq : q = s.q
  qu : s.q = quota
  hfr : fr = s.fr
  hak : ak = s.ak
  t0 : 0 ≤ t
  t1 : t ≤ i
  rc : s.rc = minI (2 ^ t.toNat) s.m
  wt : s.wt = wtD s.w t
  il : i ≤ 100
theorem ER.bd {s : O} {quota m w q t fr : Int} {ak : Bool} {i : Nat} (h : ER s quota m w q t fr ak i) : 0 ≤ t ∧ t ≤ 1000 ∧ 1 ≤ w ∧ w ≤ 1099511627776 ∧ 1 ≤ m ∧ m ≤ 255 := by
  have := h.t0; have := h.t1; have := h.il; have := h.hw; have := h.hm; have := h.ok.w1; have := h.ok.w2; have := h.ok.m1; have := h.ok.m2
  omega
theorem ER.full {s : O} {quota m w q t fr : Int} {ak : Bool} {i n : Nat} (h : ER s quota m w q t fr ak i) (hn : n = s.ids.length) : (!fullC s == decide ((n : Int) ≥ quota)) = false := by
  subst hn
  unfold fullC
  rw [h.qu]; simp
theorem ER.may {s : O} {quota m w q t fr : Int} {ak : Bool} {i n : Nat} (h : ER s quota m w q t fr ak i) (hn : n = s.ids.length) (now : Int) : mayD n q w t ak fr now = askE s now := by
  subst hn
  unfold mayD askE fullC
  rw [h.hq, h.hw, h.hak, h.hfr, h.wt]
theorem ER.askR {s : O} {quota m w q t fr : Int} {ak : Bool} {i n : Nat} (h : ER s quota m w q t fr ak i) (hn : n = s.ids.length) (now : Int) : eR (mayD n q w t ak fr now) t m = askR s now := by
  rw [h.may hn]
  unfold eR Go.Tb.W.askR
  rw [h.rc, h.hm]
theorem wt_dbl {w t : Int} (hw : 1 ≤ w) (ht : 0 ≤ t) : minI (2 * wtD w t) (64 * w) = wtD w (t + 1) := by
  unfold wtD
  by_cases h : t < 6
  · have e1 : min t.toNat 6 = t.toNat := by omega
    have e2 : min (t + 1).toNat 6 = t.toNat + 1 := by omega
    rw [e1, e2, Int.pow_succ]
    obtain ⟨p1, p2⟩ := pow_bd (k := t.toNat + 1) (by omega)
    have e3 : 2 * (w * 2 ^ t.toNat) = w * (2 ^ t.toNat * 2) := by rw [Int.mul_comm 2, Int.mul_assoc]
    rw [e3]
    have a1 : w * 2 ^ (t.toNat + 1) ≤ w * 64 := Int.mul_le_mul_of_nonneg_left p2 (by omega)
    rw [Int.pow_succ] at a1
    unfold minI
    rw [if_neg (by omega)]
  · have e1 : min t.toNat 6 = 6 := by omega
    have e2 : min (t + 1).toNat 6 = 6 := by omega
    rw [e1, e2]
    unfold minI
    split <;> omega
theorem ER.ask {s : O} {quota m w q t fr : Int} {ak : Bool} {i n : Nat} (h : ER s quota m w q t fr ak i) (hn : n = s.ids.length) (hi : i < 100) (now : Int) :
    ER (askS s now) quota m w q (eT (mayD n q w t ak fr now) t) (eF (mayD n q w t ak fr now) fr (now + wtD w t)) (eA (mayD n q w t ak fr now) ak) (i + 1) := by
  rw [h.may hn]
  obtain ⟨k1, k2, k3, k4⟩ := askS_same s now
  have ok := askS_ok (now := now) h.ok
  have := h.t0; have := h.t1; have := h.ok.w1; have := h.ok.m1
  unfold eT eF eA
  by_cases h0 : askE s now = 0
  · rw [if_pos h0, if_pos h0, if_pos h0]
    have eS : askS s now = { s with rc := minI (2 * s.rc) s.m, wt := minI (2 * s.wt) (64 * s.w), fr := now + s.wt, ak := true } := by unfold askS; rw [if_pos h0]
    refine ⟨ok, by rw [k1, h.hm], by rw [k2, h.hw], by rw [k3, h.hq], by rw [k3, h.qu], by rw [eS, h.hw, ← h.wt], by rw [eS], by omega, by omega, ?_, ?_, by omega⟩
    · rw [eS]
      show minI (2 * s.rc) s.m = minI (2 ^ (t + 1).toNat) s.m
      rw [h.rc, minI_dbl (by omega), show (t + 1).toNat = t.toNat + 1 by omega, Int.pow_succ, Int.mul_comm]
    · rw [eS]
      show minI (2 * s.wt) (64 * s.w) = wtD s.w (t + 1)
      rw [h.wt, wt_dbl (by omega) h.t0]
  · rw [if_neg h0, if_neg h0, if_neg h0]
    have eS : askS s now = s := by unfold askS; rw [if_neg h0]
    rw [eS]
    exact { h with t1 := by omega, il := by omega }
theorem ER.stay {s : O} {quota m w q t fr : Int} {ak : Bool} {i : Nat} (h : ER s quota m w q t fr ak i) (hi : i < 100) : ER s quota m w q t fr ak (i + 1) := by
  have := h.t1
  exact { h with t1 := by omega, il := by omega }
theorem ER.found {s : O} {quota m w q t fr : Int} {ak : Bool} {i : Nat} (h : ER s quota m w q t fr ak i) (hi : i < 100) {id : Int} (hid : id ≤ 9223372036854775807) : ER (foundS s id) quota m w q t fr ak (i + 1) := by
  have ok := foundS_ok (id := id) h.ok hid
  have := h.t1
  have e : (foundS s id).m = s.m ∧ (foundS s id).w = s.w ∧ (foundS s id).q = s.q ∧ (foundS s id).fr = s.fr ∧ (foundS s id).ak = s.ak ∧ (foundS s id).rc = s.rc ∧ (foundS s id).wt = s.wt := by
    unfold foundS; split <;> exact ⟨rfl, rfl, rfl, rfl, rfl, rfl, rfl⟩
  obtain ⟨e1, e2, e3, e4, e5, e6, e7⟩ := e
  exact ⟨ok, by rw [e1, h.hm], by rw [e2, h.hw], by rw [e3, h.hq], by rw [e3, h.qu], by rw [e4, h.hfr], by rw [e5, h.hak], h.t0, by omega, by rw [e6, e1, h.rc], by rw [e7, e2, h.wt], by omega⟩
theorem ER.lost {s : O} {quota m w q t fr : Int} {ak : Bool} {i : Nat} (h : ER s quota m w q t fr ak i) (hi : i < 100) {id : Int} (hh : hasC s id = true) : ER (lostS s id) quota m w q 0 fr ak (i + 1) := by
  have ok := lostS_ok (id := id) h.ok
  have := h.ok.m1
  have eS : lostS s id = { s with ids := s.ids.filter (fun x => !(x == id)), rc := 1, wt := s.w } := by unfold lostS; rw [if_pos hh]
  rw [eS] at ok ⊢
  refine ⟨ok, h.hm, h.hw, h.hq, h.qu, h.hfr, h.hak, by omega, by omega, ?_, ?_, by omega⟩
  · show (1 : Int) = minI (2 ^ 0) s.m
    unfold minI
    rw [Int.pow_zero]
    split <;> omega
  · show s.w = wtD s.w 0
    unfold wtD
    simp
/-- The document's servers are the program's. -/
structure EB (ids : List Int) (n : Nat) (ys : List Rw) : Prop where
  le : n ≤ ys.length
  eq : (ys.take n).map (fun x => x.i 0) = ids
theorem EB.len {ids : List Int} {n : Nat} {ys : List Rw} (h : EB ids n ys) : n = ids.length := by
  have := congrArg List.length h.eq
  have := h.le
  simp at *; omega
theorem EB.of {ids : List Int} {L : List Rw} (h : L.map (fun x => x.i 0) = ids) {n : Nat} (hn : n = L.length) : EB ids n L := ⟨by omega, by rw [List.take_of_length_le (by omega)]; exact h⟩
theorem EB.z {ids : List Int} {n : Nat} {ys : List Rw} (h : EB ids n ys) : ∀ j, j < n → ∃ x y, (ids.map iR)[j]? = some x ∧ ys[j]? = some y ∧ x.i 0 = y.i 0 := fun j hj => by
  have hl := h.len
  have hle := h.le
  refine ⟨iR (ids[j]'(by omega)), ys[j]'(by omega), by rw [List.getElem?_map, List.getElem?_eq_getElem (by omega)]; rfl, List.getElem?_eq_getElem (by omega), ?_⟩
  show ids[j]'(by omega) = _
  have := congrArg (fun l => l[j]?) h.eq
  simp only [List.getElem?_map, List.getElem?_take, if_pos hj, List.getElem?_eq_getElem (show j < ys.length by omega), List.getElem?_eq_getElem (show j < ids.length by omega), Option.map_some] at this
  exact (Option.some.inj this).symm
theorem place_mem (id : Int) (L : List Rw) : 0 ≤ placeD id L ↔ id ∈ L.map (fun x => x.i 0) := by
  unfold placeD
  cases h : L.findIdx? (fun x => x.i 0 == id) with
  | none =>
    have := List.findIdx?_eq_none_iff.1 h
    constructor
    · intro hx; simp at hx
    · intro hm
      obtain ⟨x, hx, he⟩ := List.mem_map.1 hm
      have := this x hx
      simp at this; exact absurd he this
  | some i =>
    obtain ⟨hi, he, _⟩ := List.findIdx?_eq_some_iff_getElem.1 h
    constructor
    · intro _; exact List.mem_map.2 ⟨L[i], List.getElem_mem hi, by simpa using he⟩
    · intro _; show (0 : Int) ≤ (i : Int); omega
theorem EB.has {s : O} {n : Nat} {ys : List Rw} (h : EB s.ids n ys) (id : Int) : 0 ≤ placeD id (ys.take n) ↔ hasC s id = true := by
  rw [place_mem, h.eq]; unfold hasC; simp
theorem EB.foundE {s : O} {quota m w q t fr : Int} {ak : Bool} {i n : Nat} {ys : List Rw} (r : ER s quota m w q t fr ak i) (h : EB s.ids n ys) (id : Int) : foundD id (ys.take n) n q = foundE s id := by
  unfold foundD Go.Tb.W.foundE fullC
  have hn := h.len
  subst hn
  have hh := h.has id
  rw [r.hq]
  by_cases h1 : id < 0
  · rw [if_pos h1, if_pos h1]
  · rw [if_neg h1, if_neg h1]
    by_cases h2 : hasC s id = true
    · rw [if_pos (hh.2 h2), if_pos h2]
    · rw [if_neg (fun hx => h2 (hh.1 hx)), if_neg h2]
      simp
theorem srt_ins {id : Int} : ∀ {l : List Int}, l.Pairwise (fun x y => x < y) → l.takeWhile (fun x => decide (x < id)) = l.filter (fun x => decide (x < id)) ∧ l.dropWhile (fun x => decide (x < id)) = l.filter (fun x => !decide (x < id))
  | [], _ => ⟨rfl, rfl⟩
  | x :: t, h => by
    obtain ⟨h1, h2⟩ := List.pairwise_cons.1 h
    obtain ⟨e1, e2⟩ := srt_ins (id := id) h2
    by_cases hx : x < id
    · simp only [List.takeWhile_cons, List.dropWhile_cons, List.filter_cons, hx, decide_true, if_true, Bool.not_true]
      exact ⟨by rw [e1], e2⟩
    · have hf : ∀ y ∈ t, ¬ y < id := fun y hy hl => by have := h1 y hy; omega
      have f1 : t.filter (fun x => decide (x < id)) = [] := List.filter_eq_nil_iff.2 fun y hy => by simpa using hf y hy
      have f2 : t.filter (fun x => !decide (x < id)) = t := List.filter_eq_self.2 fun y hy => by simpa using hf y hy
      simp [List.takeWhile_cons, List.dropWhile_cons, List.filter_cons, hx, f1, f2]
theorem EB.found {s : O} {n : Nat} {ys : List Rw} (h : EB s.ids n ys) (ok : okC s) {id : Int} (he : Go.Tb.W.foundE s id = 0) : EB (foundS s id).ids (n + 1) (tkD id (ys.take n) ++ iR id :: drD id (ys.take n)) := by
  obtain ⟨e1, e2⟩ := srt_ins (id := id) ok.so
  have hS : (foundS s id).ids = insI id s.ids := by unfold foundS; rw [if_pos he]
  rw [hS]
  refine EB.of ?_ ?_
  · rw [List.map_append, List.map_cons]
    have a1 : (tkD id (ys.take n)).map (fun x => x.i 0) = s.ids.takeWhile (fun x => decide (x < id)) := by unfold tkD; rw [← h.eq, List.takeWhile_map]; rfl
    have a2 : (drD id (ys.take n)).map (fun x => x.i 0) = s.ids.dropWhile (fun x => decide (x < id)) := by unfold drD; rw [← h.eq, List.dropWhile_map]; rfl
    rw [a1, a2, e1, e2]; rfl
  · have : (tkD id (ys.take n) ++ drD id (ys.take n)).length = n := by unfold tkD drD; rw [List.takeWhile_append_dropWhile, List.length_take]; have := h.le; omega
    simp at *; omega
theorem erase_eq {id : Int} : ∀ {l : List Int} {i : Nat}, l.Pairwise (fun x y => x < y) → (hi : i < l.length) → l[i] = id → l.take i ++ l.drop (i + 1) = l.filter (fun x => !(x == id))
  | x :: t, 0, h, _, he => by
    obtain ⟨h1, h2⟩ := List.pairwise_cons.1 h
    have he : x = id := he
    subst he
    rw [List.filter_cons_of_neg (by simp)]
    refine (List.filter_eq_self.2 fun y hy => ?_).symm
    have := h1 y hy
    simp; omega
  | x :: t, i + 1, h, hi, he => by
    obtain ⟨h1, h2⟩ := List.pairwise_cons.1 h
    have he : t[i]'(by simpa using hi) = id := he
    have := h1 id (he ▸ List.getElem_mem _)
    rw [List.filter_cons_of_pos (by simp; omega), ← erase_eq h2 (by simpa using hi) he]
    rfl
theorem EB.lost {s : O} {n : Nat} {ys : List Rw} (h : EB s.ids n ys) (ok : okC s) {id : Int} (hp : 0 ≤ placeD id (ys.take n)) : EB (lostS s id).ids (n - 1) (rmD id (ys.take n)) := by
  have hh := (h.has id).1 hp
  have hS : (lostS s id).ids = s.ids.filter (fun x => !(x == id)) := by unfold lostS; rw [if_pos hh]
  rw [hS]
  have hlen : (ys.take n).length = n := by have := h.le; simp; omega
  have hn := h.len
  unfold rmD
  cases hf : (ys.take n).findIdx? (fun x => x.i 0 == id) with
  | none => unfold placeD at hp; rw [hf] at hp; simp at hp
  | some i =>
    obtain ⟨hi, he, _⟩ := List.findIdx?_eq_some_iff_getElem.1 hf
    have hpl : placeD id (ys.take n) = i := by unfold placeD; rw [hf]
    rw [hpl, Int.toNat_natCast]
    refine EB.of ?_ (by simp only [List.length_append, List.length_take, List.length_drop]; have := h.le; simp at hi; omega)
    rw [List.map_append, List.map_take, List.map_drop, h.eq]
    refine erase_eq ok.so (by omega) ?_
    have h2 := congrArg (fun l => l[i]?) h.eq
    simp only [List.getElem?_map, List.getElem?_eq_getElem hi, List.getElem?_eq_getElem (show i < s.ids.length by omega), Option.map_some] at h2
    have h3 := Option.some.inj h2
    rw [← h3]; simpa using he
theorem lost_no {s : O} {id : Int} (h : hasC s id = false) : lostS s id = s ∧ lostE s id = 10 := by
  unfold lostS lostE
  rw [if_neg (by rw [h]; decide), if_neg (by rw [h]; decide)]
  exact ⟨rfl, rfl⟩
structure Ea where
  s : O
  m : Int
  w : Int
  q : Int
  t : Int
  fr : Int
  ak : Bool
  i : Nat
  o : Option (Nat × Nat × List Rw × Nat)
noncomputable abbrev Ej (quota : Int) (l c : Nat) (p : Bool) (ob : Obj) (xs : List Rw) (x : Ea) : St O := match x.o with
  | none => j_eA quota l c p ob xs x.s x.m x.w x.q x.t x.fr x.ak (x.i : Nat)
  | some y => j_eB quota l c p ob xs x.s x.m x.w x.q x.t x.fr x.ak (x.i : Nat) y.1 y.2.1 y.2.2.1 y.2.2.2
def Eg (quota : Int) (x : Ea) : Prop := ER x.s quota x.m x.w x.q x.t x.fr x.ak x.i ∧ match x.o with
  | none => x.s.ids = []
  | some y => EB x.s.ids y.1 y.2.2.1
theorem xs_a {ob : Obj} {xs : List Rw} (ho : RgOs [(.out ob aS xs : AO O)]) {j : Nat} (hj : j < xs.length) : (xs[j]).i (0 + 1) ≤ 9223372036854775807 := by
  have := ho.1 xs[j] (List.getElem_mem hj)
  simp only [encR, encS, rgs, rg, Bool.and_eq_true] at this
  exact (r_i64 this.2.1).2
theorem gB3 {I : Interp O} (hI : I.R = pk.R) : GOk I P (Gm B3) := Gm.consH (Gm.consH (Gm.consH (Gm.consH (Gm.consH (gB2 hI) k_dlost) k_dfound) k_dask) k_dmay) k_dnew
variable {I : Interp O} (hI : I.R = pk.R)
include hI
theorem l_does (far wait quota : Int) (l c : Nat) (p : Bool) (ob : Obj) (xs : List Rw) (hxs : xs.length = l) :
    ACall I P 3 [.int .i64 far, .int .i64 wait, .int .i64 quota, .slq 0 l c p] (Tr.ofList 0 [.out ob aS xs] .leaf) (fun v _ => v = .bool true) := by
  refine ocall mix (gB3 hI) (fn := Try.f3) (by kernel_rfl) (by kernel_rfl) (by kernel_rfl) [.out ob aS xs] _ rfl rfl (fun hr ho => ?_)
  simp only [rgs, rg, Bool.and_eq_true, Nat.ble_eq] at hr
  obtain ⟨_, _, _, ⟨hlc, hc⟩, _⟩ := hr
  refine (t_ldoes I (fun v _ _ => v = .bool true) far wait quota l c p ob xs).mpr ⟨fun hb => ⟨fun _ => ?_, fun h => absurd h (by rw [hb]; decide)⟩, fun hb => ⟨fun h => absurd h (by rw [hb]; decide), fun _ => ?_⟩⟩
  · refine ALoop.start [] [2, 3, 9, 11, 13] 4 (j_eN quota l c p ob xs) (by kernel_rfl) (by kernel_rfl) ?_
    refine ALoop.stepg [] [2, 3, 9, 11, 13] 4 ?_
    exact (t_eN I _ _ quota l c p ob xs).mpr (bsplit_both (fun _ => rfl) (fun _ => rfl))
  · refine ALoop.start [(1, 1), (2, 2)] [2, 3, 9, 11, 13] 4 (j_eA quota l c p ob xs (newC far wait quota) far wait quota 0 0 false 0) (by kernel_rfl) (by kernel_rfl) ?_
    have hnew : ER (newC far wait quota) quota far wait quota 0 0 false 0 := by
      have ok := new_ok hb
      refine ⟨ok, rfl, rfl, rfl, rfl, rfl, rfl, Int.le_refl _, Int.le_refl _, ?_, ?_, Nat.zero_le _⟩
      · show (1 : Int) = minI (2 ^ 0) far
        have := ok.m1
        have : 1 ≤ far := this
        unfold minI
        rw [Int.pow_zero]
        split <;> omega
      · show wait = wtD wait 0
        unfold wtD; simp
    refine ALoop.invjL (pss := [[(1, 1), (2, 2)], [(1, 1), (2, 2), (3, 3)], [(1, 1), (2, 2), (4, 3)], [(1, 1), (2, 2), (5, 3)], [(1, 1), (2, 2), (6, 3)], [(1, 1), (2, 2), (7, 3)], [(1, 1), (2, 2), (8, 3)], [(1, 1), (2, 2), (9, 3)], [(1, 1), (2, 2), (10, 3)], [(1, 1), (2, 2), (11, 3)], [(1, 1), (2, 2), (12, 3)], [(1, 1), (2, 2), (13, 3)]]) (ts := [2, 3, 9, 11, 13]) (nx := 4) (Ej quota l c p ob xs) (Eg quota) (fun x => 100 - x.i) ?_ ⟨newC far wait quota, far, wait, quota, 0, 0, false, 0, none⟩ ⟨hnew, rfl⟩
    rintro ⟨s, m, w, q, t, fr, ak, i, o⟩ ⟨g, hk⟩
    replace g : ER s quota m w q t fr ak i := g
    have finA : ∀ (s' : O) (m w q t' fr' : Int) (ak' : Bool), ER s' quota m w q t' fr' ak' (i + 1) → s'.ids = [] → ∃ y, Eg quota y ∧ 100 - y.i < 100 - i ∧ j_eA quota l c p ob xs s' m w q t' fr' ak' (IntKind.i64.wrap ((i : Int) + 1)) = Ej quota l c p ob xs y := fun s' m w q t' fr' ak' h hn => by
      have := h.il
      refine ⟨⟨s', m, w, q, t', fr', ak', i + 1, none⟩, ⟨h, hn⟩, by show 100 - (i + 1) < 100 - i; omega, ?_⟩
      rw [w_id (n := (i : Int) + 1) (by omega) (by omega)]; rfl
    have finB : ∀ (s' : O) (m w q t' fr' : Int) (ak' : Bool) (n' d' : Nat) (ys' : List Rw) (room' : Nat), ER s' quota m w q t' fr' ak' (i + 1) → EB s'.ids n' ys' → ∃ y, Eg quota y ∧ 100 - y.i < 100 - i ∧ j_eB quota l c p ob xs s' m w q t' fr' ak' (IntKind.i64.wrap ((i : Int) + 1)) n' d' ys' room' = Ej quota l c p ob xs y := fun s' m w q t' fr' ak' n' d' ys' room' h hn => by
      have := h.il
      refine ⟨⟨s', m, w, q, t', fr', ak', i + 1, some (n', d', ys', room')⟩, ⟨h, hn⟩, by show 100 - (i + 1) < 100 - i; omega, ?_⟩
      rw [w_id (n := (i : Int) + 1) (by omega) (by omega)]; rfl
    have bd := g.bd
    cases o with
    | none =>
      have hnil : s.ids = [] := hk
      clear hk
      refine (t_eA I _ _ quota l c p ob xs s m w q t fr ak (i : Nat)).mpr (bsplit_both (fun hx => bsplit_both (fun hy => ?_) (fun hy => rfl)) (fun hx => rfl))
      have hx : (i : Int) < (l : Int) := of_decide_eq_true hx
      have hy : (i : Int) < 100 := of_decide_eq_true hy
      have hi : i < xs.length := by omega
      have hid := xs_a ho hi
      have hn0 : 0 = s.ids.length := by rw [hnil]; rfl
      have eb0 : EB s.ids 0 [] := by rw [hnil]; exact EB.of (L := []) rfl rfl
      refine must_mk (decide_eq_true ⟨by omega, hx⟩) (xget_mk (by rw [Int.toNat_natCast]; exact List.getElem?_eq_getElem hi) ⟨rfl, bd, bs_f (by rw [g.may hn0]; simp) (bsplit_both (fun _ => ⟨bd, bs_f (by rw [g.askR hn0]; simp) (bs_f (by rw [g.may hn0]; simp) ?_)⟩) (fun _ => bsplit_both (fun _ => ⟨rfl, bd, ?_, ?_⟩) (fun _ => bsplit_both (fun _ => ⟨rfl, bd, ?_⟩) (fun _ => ?_))))⟩)
      · have er := g.ask hn0 (by omega) ((xs[i]).i (0 + 1 + 1))
        have nil' : (askS s ((xs[i]).i (0 + 1 + 1))).ids = [] := by rw [(askS_same s _).2.2.2, hnil]
        have hfull := (er).full (n := 0) (by rw [nil']; rfl)
        exact fun _ => ⟨fun e => ⟨bs_f hfull (ALoop.start [(1, 1), (2, 2)] [2, 3, 9, 11, 13, 19, 146, 147] 5 (j_iA quota l c p ob xs (askS s ((xs[i]).i (0 + 1 + 1))) m w q (eT (mayD 0 q w t ak fr ((xs[i]).i (0 + 1 + 1))) t) (eF (mayD 0 q w t ak fr ((xs[i]).i (0 + 1 + 1))) fr (((xs[i]).i (0 + 1 + 1)) + wtD w t)) (eA (mayD 0 q w t ak fr ((xs[i]).i (0 + 1 + 1))) ak) (i : Nat)) (by kernel_rfl) (by kernel_rfl) (lpA _ _ quota l c p ob xs (askS s ((xs[i]).i (0 + 1 + 1))) m w q (eT (mayD 0 q w t ak fr ((xs[i]).i (0 + 1 + 1))) t) (eF (mayD 0 q w t ak fr ((xs[i]).i (0 + 1 + 1))) fr (((xs[i]).i (0 + 1 + 1)) + wtD w t)) (eA (mayD 0 q w t ak fr ((xs[i]).i (0 + 1 + 1))) ak) (i : Nat) (finA _ _ _ _ _ _ _ er nil'))), bs_f hfull (ALoop.start [(1, 1), (2, 2)] [2, 3, 9, 11, 13, 19, 146, 147] 5 (j_iA quota l c p ob xs (askS s ((xs[i]).i (0 + 1 + 1))) m w q (eT (mayD 0 q w t ak fr ((xs[i]).i (0 + 1 + 1))) t) (eF (mayD 0 q w t ak fr ((xs[i]).i (0 + 1 + 1))) fr (((xs[i]).i (0 + 1 + 1)) + wtD w t)) (eA (mayD 0 q w t ak fr ((xs[i]).i (0 + 1 + 1))) ak) (i : Nat)) (by kernel_rfl) (by kernel_rfl) (lpA _ _ quota l c p ob xs (askS s ((xs[i]).i (0 + 1 + 1))) m w q (eT (mayD 0 q w t ak fr ((xs[i]).i (0 + 1 + 1))) t) (eF (mayD 0 q w t ak fr ((xs[i]).i (0 + 1 + 1))) fr (((xs[i]).i (0 + 1 + 1)) + wtD w t)) (eA (mayD 0 q w t ak fr ((xs[i]).i (0 + 1 + 1))) ak) (i : Nat) (finA _ _ _ _ _ _ _ er nil')))⟩, fun hp => absurd hp (by rw [nil']; decide)⟩
      · intro hne
        have he := EB.foundE g eb0 ((xs[i]).i (0 + 1))
        have he : foundD ((xs[i]).i (0 + 1)) [] 0 q = foundE s ((xs[i]).i (0 + 1)) := he
        rw [he] at hne ⊢
        refine bs_f (by simp) ?_
        rw [foundS_same hne]
        have er := g.stay (by omega)
        have hfull := (er).full (n := 0) (by rw [hnil]; rfl)
        exact fun _ => ⟨fun e => ⟨bs_f hfull (ALoop.start [(1, 1), (2, 2)] [2, 3, 9, 11, 13, 19, 146, 147] 5 (j_iA quota l c p ob xs s m w q t fr ak (i : Nat)) (by kernel_rfl) (by kernel_rfl) (lpA _ _ quota l c p ob xs s m w q t fr ak (i : Nat) (finA _ _ _ _ _ _ _ er hnil))), bs_f hfull (ALoop.start [(1, 1), (2, 2)] [2, 3, 9, 11, 13, 19, 146, 147] 5 (j_iA quota l c p ob xs s m w q t fr ak (i : Nat)) (by kernel_rfl) (by kernel_rfl) (lpA _ _ quota l c p ob xs s m w q t fr ak (i : Nat) (finA _ _ _ _ _ _ _ er hnil)))⟩, fun hp => absurd hp (by rw [hnil]; decide)⟩
      · intro h0 c' room'
        have he : foundD ((xs[i]).i (0 + 1)) [] 0 q = foundE s ((xs[i]).i (0 + 1)) := EB.foundE g eb0 ((xs[i]).i (0 + 1))
        rw [he] at h0
        refine bs_f (by rw [h0]; rfl) ?_
        have er := g.found (by omega) hid
        have eb := eb0.found g.ok h0
        have hlen : ((foundS s ((xs[i]).i (0 + 1)))).ids.length = 1 := (eb).len.symm
        have hfull := (er).full (eb).len
        have hn1k : 1 ≤ 1000 := by have := (er).ok.ln; have := (er).ok.q2; omega
        exact fun _ => ⟨fun e => absurd hlen (by rw [e]; simp), fun hp c2 r2 => bs_f (by rw [hlen]; simp) ⟨bs_f hfull (ALoop.start [(1, 1), (2, 2), (5, 3), (6, 4)] [2, 3, 9, 11, 13, 19, 146, 147] 5 (j_iC quota l c p ob xs (foundS s ((xs[i]).i (0 + 1))) m w q t fr ak (i : Nat) 1 c' [iR ((xs[i]).i (0 + 1))] room' 1 c2 (((foundS s ((xs[i]).i (0 + 1)))).ids.map iR) r2 0) (by rw [hlen]; kernel_rfl) (by rw [hlen]; kernel_rfl) (lpC _ _ quota l c p ob xs (foundS s ((xs[i]).i (0 + 1))) m w q t fr ak (i : Nat) 1 c' [iR ((xs[i]).i (0 + 1))] room' c2 (((foundS s ((xs[i]).i (0 + 1)))).ids.map iR) r2 hn1k (eb).z (finB _ _ _ _ _ _ _ _ c' _ room' er eb))), bs_f hfull (ALoop.start [(1, 1), (2, 2), (5, 3), (6, 4)] [2, 3, 9, 11, 13, 19, 146, 147] 5 (j_iC quota l c p ob xs (foundS s ((xs[i]).i (0 + 1))) m w q t fr ak (i : Nat) 1 c' [iR ((xs[i]).i (0 + 1))] room' 1 c2 (((foundS s ((xs[i]).i (0 + 1)))).ids.map iR) r2 0) (by rw [hlen]; kernel_rfl) (by rw [hlen]; kernel_rfl) (lpC _ _ quota l c p ob xs (foundS s ((xs[i]).i (0 + 1))) m w q t fr ak (i : Nat) 1 c' [iR ((xs[i]).i (0 + 1))] room' c2 (((foundS s ((xs[i]).i (0 + 1)))).ids.map iR) r2 hn1k (eb).z (finB _ _ _ _ _ _ _ _ c' _ room' er eb)))⟩⟩
      · have hno : hasC s ((xs[i]).i (0 + 1)) = false := by unfold hasC; rw [hnil]; rfl
        obtain ⟨l1, l2⟩ := lost_no hno
        rw [l1, l2]
        refine bs_f (by decide) ?_
        have er := g.stay (by omega)
        have hfull := (er).full (n := 0) (by rw [hnil]; rfl)
        exact fun _ => ⟨fun e => ⟨bs_f hfull (ALoop.start [(1, 1), (2, 2)] [2, 3, 9, 11, 13, 19, 146, 147] 5 (j_iA quota l c p ob xs s m w q t fr ak (i : Nat)) (by kernel_rfl) (by kernel_rfl) (lpA _ _ quota l c p ob xs s m w q t fr ak (i : Nat) (finA _ _ _ _ _ _ _ er hnil))), bs_f hfull (ALoop.start [(1, 1), (2, 2)] [2, 3, 9, 11, 13, 19, 146, 147] 5 (j_iA quota l c p ob xs s m w q t fr ak (i : Nat)) (by kernel_rfl) (by kernel_rfl) (lpA _ _ quota l c p ob xs s m w q t fr ak (i : Nat) (finA _ _ _ _ _ _ _ er hnil)))⟩, fun hp => absurd hp (by rw [hnil]; decide)⟩
      · have er := g.stay (by omega)
        have hfull := (er).full (n := 0) (by rw [hnil]; rfl)
        exact fun _ => ⟨fun e => ⟨bs_f hfull (ALoop.start [(1, 1), (2, 2)] [2, 3, 9, 11, 13, 19, 146, 147] 5 (j_iA quota l c p ob xs s m w q t fr ak (i : Nat)) (by kernel_rfl) (by kernel_rfl) (lpA _ _ quota l c p ob xs s m w q t fr ak (i : Nat) (finA _ _ _ _ _ _ _ er hnil))), bs_f hfull (ALoop.start [(1, 1), (2, 2)] [2, 3, 9, 11, 13, 19, 146, 147] 5 (j_iA quota l c p ob xs s m w q t fr ak (i : Nat)) (by kernel_rfl) (by kernel_rfl) (lpA _ _ quota l c p ob xs s m w q t fr ak (i : Nat) (finA _ _ _ _ _ _ _ er hnil)))⟩, fun hp => absurd hp (by rw [hnil]; decide)⟩
    | some y =>
      obtain ⟨n, d, ys, room⟩ := y
      have eb : EB s.ids n ys := hk
      clear hk
      refine (t_eB I _ _ quota l c p ob xs s m w q t fr ak (i : Nat) n d ys room).mpr (bsplit_both (fun hx => bsplit_both (fun hy => ?_) (fun hy => rfl)) (fun hx => rfl))
      have hx : (i : Int) < (l : Int) := of_decide_eq_true hx
      have hy : (i : Int) < 100 := of_decide_eq_true hy
      have hi : i < xs.length := by omega
      have hid := xs_a ho hi
      have hn0 := eb.len
      have bd : n ≤ ys.length ∧ n ≤ 1000 ∧ 0 ≤ t ∧ t ≤ 1000 ∧ 1 ≤ w ∧ w ≤ 1099511627776 ∧ 1 ≤ m ∧ m ≤ 255 := ⟨eb.le, by have := g.ok.ln; have := g.ok.q2; omega, bd⟩
      refine must_mk (decide_eq_true ⟨by omega, hx⟩) (xget_mk (by rw [Int.toNat_natCast]; exact List.getElem?_eq_getElem hi) ⟨rfl, bd, bs_f (by rw [g.may hn0]; simp) (bsplit_both (fun _ => ⟨bd, bs_f (by rw [g.askR hn0]; simp) (bs_f (by rw [g.may hn0]; simp) ?_)⟩) (fun _ => bsplit_both (fun _ => ⟨rfl, bd, ?_, ?_⟩) (fun _ => bsplit_both (fun _ => ⟨rfl, bd, ?_, ?_⟩) (fun _ => ?_))))⟩)
      · have er := g.ask hn0 (by omega) ((xs[i]).i (0 + 1 + 1))
        have eb' : EB (askS s ((xs[i]).i (0 + 1 + 1))).ids n ys := by rw [(askS_same s _).2.2.2]; exact eb
        have hlen : ((askS s ((xs[i]).i (0 + 1 + 1)))).ids.length = n := (eb').len.symm
        have hfull := (er).full (eb').len
        have hn1k : n ≤ 1000 := by have := (er).ok.ln; have := (er).ok.q2; omega
        exact fun _ => ⟨fun e => bs_f (by rw [← hlen, e]; rfl) ⟨bs_f hfull (ALoop.start [(1, 1), (2, 2), (3, 3)] [2, 3, 9, 11, 13, 19, 146, 147] 5 (j_iB quota l c p ob xs (askS s ((xs[i]).i (0 + 1 + 1))) m w q (eT (mayD n q w t ak fr ((xs[i]).i (0 + 1 + 1))) t) (eF (mayD n q w t ak fr ((xs[i]).i (0 + 1 + 1))) fr (((xs[i]).i (0 + 1 + 1)) + wtD w t)) (eA (mayD n q w t ak fr ((xs[i]).i (0 + 1 + 1))) ak) (i : Nat) n d ys room) (by kernel_rfl) (by kernel_rfl) (lpB _ _ quota l c p ob xs (askS s ((xs[i]).i (0 + 1 + 1))) m w q (eT (mayD n q w t ak fr ((xs[i]).i (0 + 1 + 1))) t) (eF (mayD n q w t ak fr ((xs[i]).i (0 + 1 + 1))) fr (((xs[i]).i (0 + 1 + 1)) + wtD w t)) (eA (mayD n q w t ak fr ((xs[i]).i (0 + 1 + 1))) ak) (i : Nat) n d ys room (finB _ _ _ _ _ _ _ _ d _ room er eb'))), bs_f hfull (ALoop.start [(1, 1), (2, 2), (3, 3)] [2, 3, 9, 11, 13, 19, 146, 147] 5 (j_iB quota l c p ob xs (askS s ((xs[i]).i (0 + 1 + 1))) m w q (eT (mayD n q w t ak fr ((xs[i]).i (0 + 1 + 1))) t) (eF (mayD n q w t ak fr ((xs[i]).i (0 + 1 + 1))) fr (((xs[i]).i (0 + 1 + 1)) + wtD w t)) (eA (mayD n q w t ak fr ((xs[i]).i (0 + 1 + 1))) ak) (i : Nat) n d ys room) (by kernel_rfl) (by kernel_rfl) (lpB _ _ quota l c p ob xs (askS s ((xs[i]).i (0 + 1 + 1))) m w q (eT (mayD n q w t ak fr ((xs[i]).i (0 + 1 + 1))) t) (eF (mayD n q w t ak fr ((xs[i]).i (0 + 1 + 1))) fr (((xs[i]).i (0 + 1 + 1)) + wtD w t)) (eA (mayD n q w t ak fr ((xs[i]).i (0 + 1 + 1))) ak) (i : Nat) n d ys room (finB _ _ _ _ _ _ _ _ d _ room er eb')))⟩, fun hp c2 r2 => bs_f (by rw [hlen]; simp) ⟨bs_f hfull (ALoop.start [(1, 1), (2, 2), (3, 3), (5, 4)] [2, 3, 9, 11, 13, 19, 146, 147] 5 (j_iC quota l c p ob xs (askS s ((xs[i]).i (0 + 1 + 1))) m w q (eT (mayD n q w t ak fr ((xs[i]).i (0 + 1 + 1))) t) (eF (mayD n q w t ak fr ((xs[i]).i (0 + 1 + 1))) fr (((xs[i]).i (0 + 1 + 1)) + wtD w t)) (eA (mayD n q w t ak fr ((xs[i]).i (0 + 1 + 1))) ak) (i : Nat) n d ys room n c2 (((askS s ((xs[i]).i (0 + 1 + 1)))).ids.map iR) r2 0) (by rw [hlen]; kernel_rfl) (by rw [hlen]; kernel_rfl) (lpC _ _ quota l c p ob xs (askS s ((xs[i]).i (0 + 1 + 1))) m w q (eT (mayD n q w t ak fr ((xs[i]).i (0 + 1 + 1))) t) (eF (mayD n q w t ak fr ((xs[i]).i (0 + 1 + 1))) fr (((xs[i]).i (0 + 1 + 1)) + wtD w t)) (eA (mayD n q w t ak fr ((xs[i]).i (0 + 1 + 1))) ak) (i : Nat) n d ys room c2 (((askS s ((xs[i]).i (0 + 1 + 1)))).ids.map iR) r2 hn1k (eb').z (finB _ _ _ _ _ _ _ _ d _ room er eb'))), bs_f hfull (ALoop.start [(1, 1), (2, 2), (3, 3), (5, 4)] [2, 3, 9, 11, 13, 19, 146, 147] 5 (j_iC quota l c p ob xs (askS s ((xs[i]).i (0 + 1 + 1))) m w q (eT (mayD n q w t ak fr ((xs[i]).i (0 + 1 + 1))) t) (eF (mayD n q w t ak fr ((xs[i]).i (0 + 1 + 1))) fr (((xs[i]).i (0 + 1 + 1)) + wtD w t)) (eA (mayD n q w t ak fr ((xs[i]).i (0 + 1 + 1))) ak) (i : Nat) n d ys room n c2 (((askS s ((xs[i]).i (0 + 1 + 1)))).ids.map iR) r2 0) (by rw [hlen]; kernel_rfl) (by rw [hlen]; kernel_rfl) (lpC _ _ quota l c p ob xs (askS s ((xs[i]).i (0 + 1 + 1))) m w q (eT (mayD n q w t ak fr ((xs[i]).i (0 + 1 + 1))) t) (eF (mayD n q w t ak fr ((xs[i]).i (0 + 1 + 1))) fr (((xs[i]).i (0 + 1 + 1)) + wtD w t)) (eA (mayD n q w t ak fr ((xs[i]).i (0 + 1 + 1))) ak) (i : Nat) n d ys room c2 (((askS s ((xs[i]).i (0 + 1 + 1)))).ids.map iR) r2 hn1k (eb').z (finB _ _ _ _ _ _ _ _ d _ room er eb')))⟩⟩
      · intro hne
        rw [EB.foundE g eb] at hne ⊢
        refine bs_f (by simp) ?_
        rw [foundS_same hne]
        have er := g.stay (by omega)
        have hlen : (s).ids.length = n := (eb).len.symm
        have hfull := (er).full (eb).len
        have hn1k : n ≤ 1000 := by have := (er).ok.ln; have := (er).ok.q2; omega
        exact fun _ => ⟨fun e => bs_f (by rw [← hlen, e]; rfl) ⟨bs_f hfull (ALoop.start [(1, 1), (2, 2), (3, 3)] [2, 3, 9, 11, 13, 19, 146, 147] 5 (j_iB quota l c p ob xs s m w q t fr ak (i : Nat) n d ys room) (by kernel_rfl) (by kernel_rfl) (lpB _ _ quota l c p ob xs s m w q t fr ak (i : Nat) n d ys room (finB _ _ _ _ _ _ _ _ d _ room er eb))), bs_f hfull (ALoop.start [(1, 1), (2, 2), (3, 3)] [2, 3, 9, 11, 13, 19, 146, 147] 5 (j_iB quota l c p ob xs s m w q t fr ak (i : Nat) n d ys room) (by kernel_rfl) (by kernel_rfl) (lpB _ _ quota l c p ob xs s m w q t fr ak (i : Nat) n d ys room (finB _ _ _ _ _ _ _ _ d _ room er eb)))⟩, fun hp c2 r2 => bs_f (by rw [hlen]; simp) ⟨bs_f hfull (ALoop.start [(1, 1), (2, 2), (3, 3), (5, 4)] [2, 3, 9, 11, 13, 19, 146, 147] 5 (j_iC quota l c p ob xs s m w q t fr ak (i : Nat) n d ys room n c2 ((s).ids.map iR) r2 0) (by rw [hlen]; kernel_rfl) (by rw [hlen]; kernel_rfl) (lpC _ _ quota l c p ob xs s m w q t fr ak (i : Nat) n d ys room c2 ((s).ids.map iR) r2 hn1k (eb).z (finB _ _ _ _ _ _ _ _ d _ room er eb))), bs_f hfull (ALoop.start [(1, 1), (2, 2), (3, 3), (5, 4)] [2, 3, 9, 11, 13, 19, 146, 147] 5 (j_iC quota l c p ob xs s m w q t fr ak (i : Nat) n d ys room n c2 ((s).ids.map iR) r2 0) (by rw [hlen]; kernel_rfl) (by rw [hlen]; kernel_rfl) (lpC _ _ quota l c p ob xs s m w q t fr ak (i : Nat) n d ys room c2 ((s).ids.map iR) r2 hn1k (eb).z (finB _ _ _ _ _ _ _ _ d _ room er eb)))⟩⟩
      · intro h0 c' room'
        rw [EB.foundE g eb] at h0
        refine bs_f (by rw [h0]; rfl) ?_
        have er := g.found (by omega) hid
        have eb' := eb.found g.ok h0
        have hlen : ((foundS s ((xs[i]).i (0 + 1)))).ids.length = (n + 1) := (eb').len.symm
        have hfull := (er).full (eb').len
        have hn1k : (n + 1) ≤ 1000 := by have := (er).ok.ln; have := (er).ok.q2; omega
        exact fun _ => ⟨fun e => absurd hlen (by rw [e]; simp), fun hp c2 r2 => bs_f (by rw [hlen]; simp) ⟨bs_f hfull (ALoop.start [(1, 1), (2, 2), (5, 3), (6, 4)] [2, 3, 9, 11, 13, 19, 146, 147] 5 (j_iC quota l c p ob xs (foundS s ((xs[i]).i (0 + 1))) m w q t fr ak (i : Nat) (n + 1) c' (tkD ((xs[i]).i (0 + 1)) (ys.take n) ++ iR ((xs[i]).i (0 + 1)) :: drD ((xs[i]).i (0 + 1)) (ys.take n)) room' (n + 1) c2 (((foundS s ((xs[i]).i (0 + 1)))).ids.map iR) r2 0) (by rw [hlen]; kernel_rfl) (by rw [hlen]; kernel_rfl) (lpC _ _ quota l c p ob xs (foundS s ((xs[i]).i (0 + 1))) m w q t fr ak (i : Nat) (n + 1) c' (tkD ((xs[i]).i (0 + 1)) (ys.take n) ++ iR ((xs[i]).i (0 + 1)) :: drD ((xs[i]).i (0 + 1)) (ys.take n)) room' c2 (((foundS s ((xs[i]).i (0 + 1)))).ids.map iR) r2 hn1k (eb').z (finB _ _ _ _ _ _ _ _ c' _ room' er eb'))), bs_f hfull (ALoop.start [(1, 1), (2, 2), (5, 3), (6, 4)] [2, 3, 9, 11, 13, 19, 146, 147] 5 (j_iC quota l c p ob xs (foundS s ((xs[i]).i (0 + 1))) m w q t fr ak (i : Nat) (n + 1) c' (tkD ((xs[i]).i (0 + 1)) (ys.take n) ++ iR ((xs[i]).i (0 + 1)) :: drD ((xs[i]).i (0 + 1)) (ys.take n)) room' (n + 1) c2 (((foundS s ((xs[i]).i (0 + 1)))).ids.map iR) r2 0) (by rw [hlen]; kernel_rfl) (by rw [hlen]; kernel_rfl) (lpC _ _ quota l c p ob xs (foundS s ((xs[i]).i (0 + 1))) m w q t fr ak (i : Nat) (n + 1) c' (tkD ((xs[i]).i (0 + 1)) (ys.take n) ++ iR ((xs[i]).i (0 + 1)) :: drD ((xs[i]).i (0 + 1)) (ys.take n)) room' c2 (((foundS s ((xs[i]).i (0 + 1)))).ids.map iR) r2 hn1k (eb').z (finB _ _ _ _ _ _ _ _ c' _ room' er eb')))⟩⟩
      · intro hlt
        have hno : hasC s ((xs[i]).i (0 + 1)) = false := by
          cases hc : hasC s ((xs[i]).i (0 + 1)) with
          | false => rfl
          | true => have := (eb.has _).2 hc; omega
        obtain ⟨l1, l2⟩ := lost_no hno
        rw [l1, l2]
        refine bs_f (by decide) ?_
        have er := g.stay (by omega)
        have hlen : (s).ids.length = n := (eb).len.symm
        have hfull := (er).full (eb).len
        have hn1k : n ≤ 1000 := by have := (er).ok.ln; have := (er).ok.q2; omega
        exact fun _ => ⟨fun e => bs_f (by rw [← hlen, e]; rfl) ⟨bs_f hfull (ALoop.start [(1, 1), (2, 2), (3, 3)] [2, 3, 9, 11, 13, 19, 146, 147] 5 (j_iB quota l c p ob xs s m w q t fr ak (i : Nat) n d ys room) (by kernel_rfl) (by kernel_rfl) (lpB _ _ quota l c p ob xs s m w q t fr ak (i : Nat) n d ys room (finB _ _ _ _ _ _ _ _ d _ room er eb))), bs_f hfull (ALoop.start [(1, 1), (2, 2), (3, 3)] [2, 3, 9, 11, 13, 19, 146, 147] 5 (j_iB quota l c p ob xs s m w q t fr ak (i : Nat) n d ys room) (by kernel_rfl) (by kernel_rfl) (lpB _ _ quota l c p ob xs s m w q t fr ak (i : Nat) n d ys room (finB _ _ _ _ _ _ _ _ d _ room er eb)))⟩, fun hp c2 r2 => bs_f (by rw [hlen]; simp) ⟨bs_f hfull (ALoop.start [(1, 1), (2, 2), (3, 3), (5, 4)] [2, 3, 9, 11, 13, 19, 146, 147] 5 (j_iC quota l c p ob xs s m w q t fr ak (i : Nat) n d ys room n c2 ((s).ids.map iR) r2 0) (by rw [hlen]; kernel_rfl) (by rw [hlen]; kernel_rfl) (lpC _ _ quota l c p ob xs s m w q t fr ak (i : Nat) n d ys room c2 ((s).ids.map iR) r2 hn1k (eb).z (finB _ _ _ _ _ _ _ _ d _ room er eb))), bs_f hfull (ALoop.start [(1, 1), (2, 2), (3, 3), (5, 4)] [2, 3, 9, 11, 13, 19, 146, 147] 5 (j_iC quota l c p ob xs s m w q t fr ak (i : Nat) n d ys room n c2 ((s).ids.map iR) r2 0) (by rw [hlen]; kernel_rfl) (by rw [hlen]; kernel_rfl) (lpC _ _ quota l c p ob xs s m w q t fr ak (i : Nat) n d ys room c2 ((s).ids.map iR) r2 hn1k (eb).z (finB _ _ _ _ _ _ _ _ d _ room er eb)))⟩⟩
      · intro hge c' room'
        have hh := (eb.has _).1 hge
        refine bs_f (by unfold lostE; rw [if_pos hh]; rfl) ?_
        have er := g.lost (by omega) hh
        have eb' := eb.lost g.ok hge
        have hlen : ((lostS s ((xs[i]).i (0 + 1)))).ids.length = (n - 1) := (eb').len.symm
        have hfull := (er).full (eb').len
        have hn1k : (n - 1) ≤ 1000 := by have := (er).ok.ln; have := (er).ok.q2; omega
        exact fun _ => ⟨fun e => bs_f (by rw [← hlen, e]; rfl) ⟨bs_f hfull (ALoop.start [(1, 1), (2, 2), (5, 3)] [2, 3, 9, 11, 13, 19, 146, 147] 5 (j_iB quota l c p ob xs (lostS s ((xs[i]).i (0 + 1))) m w q 0 fr ak (i : Nat) (n - 1) c' (rmD ((xs[i]).i (0 + 1)) (ys.take n)) room') (by kernel_rfl) (by kernel_rfl) (lpB _ _ quota l c p ob xs (lostS s ((xs[i]).i (0 + 1))) m w q 0 fr ak (i : Nat) (n - 1) c' (rmD ((xs[i]).i (0 + 1)) (ys.take n)) room' (finB _ _ _ _ _ _ _ _ c' _ room' er eb'))), bs_f hfull (ALoop.start [(1, 1), (2, 2), (5, 3)] [2, 3, 9, 11, 13, 19, 146, 147] 5 (j_iB quota l c p ob xs (lostS s ((xs[i]).i (0 + 1))) m w q 0 fr ak (i : Nat) (n - 1) c' (rmD ((xs[i]).i (0 + 1)) (ys.take n)) room') (by kernel_rfl) (by kernel_rfl) (lpB _ _ quota l c p ob xs (lostS s ((xs[i]).i (0 + 1))) m w q 0 fr ak (i : Nat) (n - 1) c' (rmD ((xs[i]).i (0 + 1)) (ys.take n)) room' (finB _ _ _ _ _ _ _ _ c' _ room' er eb')))⟩, fun hp c2 r2 => bs_f (by rw [hlen]; simp) ⟨bs_f hfull (ALoop.start [(1, 1), (2, 2), (5, 3), (6, 4)] [2, 3, 9, 11, 13, 19, 146, 147] 5 (j_iC quota l c p ob xs (lostS s ((xs[i]).i (0 + 1))) m w q 0 fr ak (i : Nat) (n - 1) c' (rmD ((xs[i]).i (0 + 1)) (ys.take n)) room' (n - 1) c2 (((lostS s ((xs[i]).i (0 + 1)))).ids.map iR) r2 0) (by rw [hlen]; kernel_rfl) (by rw [hlen]; kernel_rfl) (lpC _ _ quota l c p ob xs (lostS s ((xs[i]).i (0 + 1))) m w q 0 fr ak (i : Nat) (n - 1) c' (rmD ((xs[i]).i (0 + 1)) (ys.take n)) room' c2 (((lostS s ((xs[i]).i (0 + 1)))).ids.map iR) r2 hn1k (eb').z (finB _ _ _ _ _ _ _ _ c' _ room' er eb'))), bs_f hfull (ALoop.start [(1, 1), (2, 2), (5, 3), (6, 4)] [2, 3, 9, 11, 13, 19, 146, 147] 5 (j_iC quota l c p ob xs (lostS s ((xs[i]).i (0 + 1))) m w q 0 fr ak (i : Nat) (n - 1) c' (rmD ((xs[i]).i (0 + 1)) (ys.take n)) room' (n - 1) c2 (((lostS s ((xs[i]).i (0 + 1)))).ids.map iR) r2 0) (by rw [hlen]; kernel_rfl) (by rw [hlen]; kernel_rfl) (lpC _ _ quota l c p ob xs (lostS s ((xs[i]).i (0 + 1))) m w q 0 fr ak (i : Nat) (n - 1) c' (rmD ((xs[i]).i (0 + 1)) (ys.take n)) room' c2 (((lostS s ((xs[i]).i (0 + 1)))).ids.map iR) r2 hn1k (eb').z (finB _ _ _ _ _ _ _ _ c' _ room' er eb')))⟩⟩
      · have er := g.stay (by omega)
        have hlen : (s).ids.length = n := (eb).len.symm
        have hfull := (er).full (eb).len
        have hn1k : n ≤ 1000 := by have := (er).ok.ln; have := (er).ok.q2; omega
        exact fun _ => ⟨fun e => bs_f (by rw [← hlen, e]; rfl) ⟨bs_f hfull (ALoop.start [(1, 1), (2, 2), (3, 3)] [2, 3, 9, 11, 13, 19, 146, 147] 5 (j_iB quota l c p ob xs s m w q t fr ak (i : Nat) n d ys room) (by kernel_rfl) (by kernel_rfl) (lpB _ _ quota l c p ob xs s m w q t fr ak (i : Nat) n d ys room (finB _ _ _ _ _ _ _ _ d _ room er eb))), bs_f hfull (ALoop.start [(1, 1), (2, 2), (3, 3)] [2, 3, 9, 11, 13, 19, 146, 147] 5 (j_iB quota l c p ob xs s m w q t fr ak (i : Nat) n d ys room) (by kernel_rfl) (by kernel_rfl) (lpB _ _ quota l c p ob xs s m w q t fr ak (i : Nat) n d ys room (finB _ _ _ _ _ _ _ _ d _ room er eb)))⟩, fun hp c2 r2 => bs_f (by rw [hlen]; simp) ⟨bs_f hfull (ALoop.start [(1, 1), (2, 2), (3, 3), (5, 4)] [2, 3, 9, 11, 13, 19, 146, 147] 5 (j_iC quota l c p ob xs s m w q t fr ak (i : Nat) n d ys room n c2 ((s).ids.map iR) r2 0) (by rw [hlen]; kernel_rfl) (by rw [hlen]; kernel_rfl) (lpC _ _ quota l c p ob xs s m w q t fr ak (i : Nat) n d ys room c2 ((s).ids.map iR) r2 hn1k (eb).z (finB _ _ _ _ _ _ _ _ d _ room er eb))), bs_f hfull (ALoop.start [(1, 1), (2, 2), (3, 3), (5, 4)] [2, 3, 9, 11, 13, 19, 146, 147] 5 (j_iC quota l c p ob xs s m w q t fr ak (i : Nat) n d ys room n c2 ((s).ids.map iR) r2 0) (by rw [hlen]; kernel_rfl) (by rw [hlen]; kernel_rfl) (lpC _ _ quota l c p ob xs s m w q t fr ak (i : Nat) n d ys room c2 ((s).ids.map iR) r2 hn1k (eb).z (finB _ _ _ _ _ _ _ _ d _ room er eb)))⟩⟩
end Go.Tb.W
