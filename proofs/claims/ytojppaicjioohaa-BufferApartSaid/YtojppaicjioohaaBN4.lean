/- Buffers: things of one interval are no matter to another one's; law. -/
import Derived.Test.YtojppaicjioohaaBN3
set_option linter.all false
set_option maxRecDepth 100000
set_option maxHeartbeats 0
namespace Go.Tb.W
open Go Go.Proofs
/-- What the law keeps: what is wanted; its room; the buffer. -/
structure PG (W : List ByteArray) (e rm : Nat) (st : Bf) (i : Nat) : Prop where
  w : lineOf st.th 7 = W
  al : ∀ p ∈ st.th, p.1 = 3 ∨ p.1 = 7
  ln : st.th.length ≤ i
  d0 : 0 ≤ st.dropped
  d1 : st.dropped ≤ i
  cp : e * 1 ≤ rm
theorem PG.put {W : List ByteArray} {e rm : Nat} {st : Bf} {i : Nat} (g : PG W e rm st i) {k : Int} (hk : k = 3 ∨ k = 7) (t : ByteArray) (hn : putC st k t = 0 → k = 3) : PG W e rm (putS st k t) (i + 1) := by
  have h1 := g.ln
  have h2 := g.d0
  have h3 := g.d1
  rcases put_cases st k t with ⟨h, e, _⟩ | ⟨h, e, _⟩ | ⟨h, e, _⟩ | ⟨h, e, _⟩
  · rw [e]; exact ⟨g.w, g.al, by omega, h2, by omega, g.cp⟩
  · rw [e]; exact ⟨g.w, g.al, by omega, h2, by omega, g.cp⟩
  · rw [e]; exact ⟨g.w, g.al, by simp only; omega, by simp only; omega, by simp only; omega, g.cp⟩
  · have hk3 := hn h
    subst hk3
    rw [e]
    refine ⟨?_, fun p hp => ?_, ?_, h2, by simp only; omega, g.cp⟩
    · show lineOf (st.th ++ [(3, t)]) 7 = W
      rw [line_snoc, if_neg (by decide)]; exact g.w
    · rcases List.mem_append.1 hp with hp | hp
      · exact g.al p hp
      · simp at hp; subst hp; exact .inl rfl
    · simp; omega
theorem PG.put7 {W : List ByteArray} {e rm : Nat} {st : Bf} {i : Nat} (g : PG W e rm st i) (t : ByteArray) (hn : putC st 7 t = 0) (e' rm' : Nat) (h' : e' * 1 ≤ rm') : PG (W ++ [t]) e' rm' (putS st 7 t) (i + 1) := by
  have h1 := g.ln
  have h2 := g.d0
  have h3 := g.d1
  have e : putS st 7 t = { st with th := st.th ++ [(7, t)] } := by unfold putS; rw [if_pos hn]
  rw [e]
  refine ⟨?_, fun p hp => ?_, ?_, h2, by simp only; omega, h'⟩
  · show lineOf (st.th ++ [(7, t)]) 7 = _
    rw [line_snoc, if_pos rfl, g.w]
  · rcases List.mem_append.1 hp with hp | hp
    · exact g.al p hp
    · simp at hp; subst hp; exact .inr rfl
  · simp; omega
variable {I : Interp O} (hI : I.R = pk.R)
include hI
theorem l_apart (l c : Nat) (q : Bool) (ob : Obj) (xs : List Rw) (hxs : xs.length = l) (m d : Nat) (p : Bool) (oc : Obj) (ws : List Rw) (hws : ws.length = m) :
    ACall I P 7 [.slq 0 l c q, .slq 1 m d p] (Tr.ofList 0 [.out ob [.s] xs, .out oc [.b] ws] .leaf) (fun v _ => v = .bool true) := by
  refine ocall mix (gQ2 hI) (fn := Try.f7) (by kernel_rfl) (by kernel_rfl) (by kernel_rfl) [.out ob [.s] xs, .out oc [.b] ws] _ rfl rfl (fun hr ho => ?_)
  simp only [rgs, rg, Bool.and_eq_true, Nat.ble_eq] at hr
  obtain ⟨⟨hlc, hc⟩, ⟨hmd, hd⟩, _⟩ := hr
  refine (t_lapart I (fun v _ _ => v = .bool true) l c q ob xs m d p oc ws).mpr ⟨fun h => absurd h (by decide), fun _ s0 hs0 hok => bsplit_both (fun _ => rfl) (fun hl => ?_)⟩
  have hl : (l : Int) ≤ 60 := by have := of_decide_eq_false hl; omega
  refine ALoop.weak (Weak.asRows (n := 3) (l := 0) (sh := [.s]) (xs := []) rfl rfl rfl rfl) ?_
  refine ALoop.start [(2, 2), (3, 3)] [1, 5, 7, 29, 30, 31] 4 (j_ap l c q ob xs m d p oc ws s0 0 0 [] 0 0) (by kernel_rfl) (by kernel_rfl) ?_
  refine ALoop.invjL (pss := [[(2, 2), (3, 3)], [(2, 2), (4, 3)], [(2, 2), (5, 3)], [(2, 2), (6, 3)]]) (ts := [1, 5, 7, 29, 30, 31]) (nx := 4) (fun x : List ByteArray × Nat × Nat × Bf × Nat => j_ap l c q ob xs m d p oc ws x.2.2.2.1 x.1.length x.2.1 (x.1.map rowT) x.2.2.1 (x.2.2.2.2 : Nat)) (fun x => PG x.1 x.2.1 x.2.2.1 x.2.2.2.1 x.2.2.2.2 ∧ x.2.2.2.2 ≤ l) (fun x => l - x.2.2.2.2) ?_ ([], 0, 0, s0, 0) ⟨by subst hs0; exact ⟨rfl, fun p hp => (by cases hp), Nat.le_refl _, Int.le_refl _, Int.le_refl _, Nat.le_refl _⟩, Nat.zero_le _⟩
  rintro ⟨W, e, rm, st, i⟩ ⟨g, hil⟩
  replace g : PG W e rm st i := g
  replace hil : i ≤ l := hil
  simp only
  have hd0 := g.d0
  have hd1 := g.d1
  have hln := g.ln
  have hcp := g.cp
  have fin : ∀ W' e' rm' st', PG W' e' rm' st' (i + 1) → i < l → ∀ s0 : St O, s0 = j_ap l c q ob xs m d p oc ws st' W'.length e' (W'.map rowT) rm' ((i + 1 : Nat) : Int) → ∃ y : List ByteArray × Nat × Nat × Bf × Nat, (PG y.1 y.2.1 y.2.2.1 y.2.2.2.1 y.2.2.2.2 ∧ y.2.2.2.2 ≤ l) ∧ l - y.2.2.2.2 < l - i ∧ s0 = j_ap l c q ob xs m d p oc ws y.2.2.2.1 y.1.length y.2.1 (y.1.map rowT) y.2.2.1 (y.2.2.2.2 : Nat) :=
    fun W' e' rm' st' h hi s0 h0 => ⟨(W', e', rm', st', i + 1), ⟨h, hi⟩, by show l - (i + 1) < l - i; omega, h0⟩
  have hWl : W.length ≤ st.th.length := by rw [← g.w]; have := line_len st.th 7; omega
  refine (t_apA I _ _ l c q ob xs m d p oc ws st W.length e (W.map rowT) rm (i : Nat)).mpr (bsplit_both (fun hx => ?_) (fun hx => ?_))
  · have hx := of_decide_eq_true hx
    have hix : i < xs.length := by omega
    have e3 : IntKind.i64.wrap ((i : Int) + 1) = ((i + 1 : Nat) : Int) := by rw [w_id (by omega) (by omega)]; omega
    rw [e3]
    have three : ∀ t : ByteArray, (0 ≤ st.dropped ∧ st.dropped ≤ 1000000) := fun _ => ⟨hd0, by omega⟩
    refine must_mk (decide_eq_true ⟨by omega, hx⟩) (xget_mk (v := xs[i]) (by rw [Int.toNat_natCast]; exact List.getElem?_eq_getElem hix) (bsplit_both (fun _ => rfl) (fun _ => bsplit_both (fun hm => ?_) (fun _ => ⟨⟨hd0, by omega⟩, fun e7 s8 h1 h2 => ?_⟩))))
    · have hm := of_decide_eq_true hm
      have hiw : i < ws.length := by omega
      refine must_mk (decide_eq_true ⟨by omega, hm⟩) (xget_mk (v := ws[i]) (by rw [Int.toNat_natCast]; exact List.getElem?_eq_getElem hiw) (bsplit_both (fun _ => ⟨⟨hd0, by omega⟩, fun e2 s3 h1 h2 => ?_⟩) (fun _ => ⟨⟨hd0, by omega⟩, fun e5 s6 h1 h2 => ?_⟩)))
      · generalize (xs[i]).s 0 = t at *
        refine bsplit_both (fun h0 => ?_) (fun h0 => ?_)
        · have h0 := eq_of_beq h0
          have hm2 : (W.length.ble (W.map rowT).length && (e * [Sh.s].length).ble rm && Nat.blt 3 16777215) = true := by
            simp [Nat.ble_eq]; omega
          refine must_mk hm2 ⟨by omega, fun c' q1 q2 => ?_⟩
          have e2' : W.length + 1 = (W ++ [t]).length := by simp
          rw [map_snoc, e2']
          rw [h2]
          exact fin (W ++ [t]) c' (c' * 1) _ (g.put7 t (h1 ▸ h0) c' (c' * 1) (Nat.le_refl _)) (by omega) _ rfl
        · have h0 := ne_of_beq_false h0
          rw [h2]
          exact fin W e rm _ (g.put (.inr rfl) t (fun h => absurd (h1.trans h) h0)) (by omega) _ rfl
      · rw [h2]
        exact bsplit_both (fun _ => fin W e rm _ (g.put (.inl rfl) _ (fun _ => rfl)) (by omega) _ rfl) (fun _ => fin W e rm _ (g.put (.inl rfl) _ (fun _ => rfl)) (by omega) _ rfl)
    · rw [h2]
      exact bsplit_both (fun _ => fin W e rm _ (g.put (.inl rfl) _ (fun _ => rfl)) (by omega) _ rfl) (fun _ => fin W e rm _ (g.put (.inl rfl) _ (fun _ => rfl)) (by omega) _ rfl)
  · intro L9 s10 h1 h2
    have hll := line_len st.th 3
    have ht : s10.th = st.th.filter (fun p => !decide (p.1 = 3)) := by rw [h2]; rfl
    have a7 : ∀ p ∈ s10.th, p.1 = 7 := fun p hp => by
      rw [ht] at hp
      obtain ⟨h3, h4⟩ := List.mem_filter.1 hp
      have h4 : p.1 ≠ 3 := by simpa using h4
      exact (g.al p h3).resolve_left h4
    have l7 : lineOf s10.th 7 = W := by rw [ht, line_take, if_neg (by decide), g.w]
    have hlen : s10.th.length = W.length := by
      have h5 := line_len s10.th 7
      rw [l7, List.filter_eq_nil_iff.2 (fun p hp => by simp [a7 p hp])] at h5
      simp at h5; omega
    obtain ⟨q1, q2⟩ := drop_all (s := s10) (b := 7) (fun p hp => by rw [a7 p hp]; exact Int.le_refl _)
    have wl : IntKind.i64.wrap ((st.th.length : Int) - (L9.length : Int)) = (W.length : Int) := by
      rw [h1, w_id (by omega) (by omega)]
      rw [ht] at hlen; omega
    have tl : ∀ {KT : Prop} {KT2 : List ByteArray → Nat → Nat → Prop}, KT → (∀ L c r, KT2 L c r) → ∀ (L13 : List ByteArray) (s14 : Bf), L13 = lineOf s10.th 7 → s14 = takeS s10 7 → ((L13 = [] → W.length = 0 ∧ KT) ∧ (0 < L13.length → ∀ c r, (L13.length ≤ (L13.map rowT).length ∧ W.length ≤ (W.map rowT).length ∧ strsOf (L13.map rowT) L13.length = strsOf (W.map rowT) W.length) ∧ KT2 L13 c r)) := by
      intro KT KT2 k1 k2 L13 s14 h3 h4
      rw [l7] at h3
      subst h3
      exact ⟨fun e => ⟨by rw [e]; rfl, k1⟩, fun _ c r => ⟨⟨by simp, by simp, rfl⟩, k2 _ c r⟩⟩
    refine ⟨fun e => ?_, fun _ c2 r2 => ?_⟩
    · subst e
      simp only [List.length_nil, Int.natCast_zero] at wl
      refine bs_t (by rw [hlen]; show ((W.length : Int) == IntKind.i64.wrap ((st.th.length : Int) - 0)) = true; rw [wl]; simp) (bs_t (by show ((W.length : Int) == IntKind.i64.wrap ((st.th.length : Int) - 0)) = true; rw [wl]; simp) fun e11 s12 h3 h4 => ?_)
      rw [q2] at h3; rw [q1] at h4
      subst h3; subst h4
      refine bs_t rfl fun L13 s14 h5 h6 => ?_
      rw [l7] at h5
      subst h5
      exact ⟨fun e => ⟨by rw [e]; rfl, rfl⟩, fun _ c r => ⟨⟨by simp, by simp, rfl⟩, rfl⟩⟩
    · refine bs_t (by rw [hlen, wl]; simp) (bs_t (by rw [wl]; simp) fun e11 s12 h3 h4 => ?_)
      rw [q2] at h3; rw [q1] at h4
      subst h3; subst h4
      refine bs_t rfl fun L13 s14 h5 h6 => ?_
      rw [l7] at h5
      subst h5
      exact ⟨fun e => ⟨by rw [e]; rfl, rfl⟩, fun _ c r => ⟨⟨by simp, by simp, rfl⟩, rfl⟩⟩
end Go.Tb.W
