/- Texts of this proof, run together. -/
import Derived.Test.YtnljoapmieepeaaRtZ0
import Derived.Test.YtnljoapmieepeaaRtZ1
import Derived.Shelf.Small.Bits
/- Claims: the library's sort: by insertion, and the end turned about. -/
set_option linter.all false
set_option maxRecDepth 100000
set_option maxHeartbeats 2000000
namespace Go.Tb.W
open Go Go.Proofs
variable {I : Interp O}
theorem uniqE {n : Nat} (hb : Nat.blt n 16777215 = true) : uniq (pairs 0 [n]) = true := uniq1 hb
theorem isE_out {hp : Tr (AO O)} {n l : Nat} {K : List Rw → Nat → Prop} (h : isE hp n l K) : ∃ xs room, Nat.blt n 16777215 = true ∧ hp.get n = some (eO xs room) ∧ l = xs.length ∧ l ≤ 1000 ∧ NE xs ∧ K xs room := by
  unfold isE at h; split at h
  · rename_i xs room hb hg
    exact ⟨xs, room, hb, hg, h.1.1, h.1.2.1, h.1.2.2, h.2⟩
  · exact h.elim
/-- Put about, and in order but for one place. -/
structure Ins (xs0 xs : List Rw) (a b i : Nat) (j : Option Nat) : Prop where
  pr : PR xs0 xs a b
  so : ∀ p q, a ≤ p → p < q → q < i → j ≠ some q → kE xs p ≤ kE xs q
theorem Ins.swap {xs0 xs : List Rw} {a b i j : Nat} (h : Ins xs0 xs a b i (some (j + 1))) (hb : b ≤ xs.length) (ha : a ≤ j) (hib : i ≤ b) (hji : j + 1 < i) (hlt : kE xs (j + 1) < kE xs j) :
    Ins xs0 (sw xs (j + 1) j) a b i (some j) := by
  refine ⟨h.pr.sw (by omega) (by omega) (by omega) (by omega) hb, fun p q hap hpq hqi hne => ?_⟩
  have hne : q ≠ j := fun e => hne (by rw [e])
  rw [kE_sw (by omega) (by omega), kE_sw (by omega) (by omega)]
  rw [if_neg hne]
  have so := h.so
  by_cases hq : q = j + 1
  · rw [if_pos hq]
    by_cases hp : p = j
    · rw [if_pos hp]; omega
    · rw [if_neg hp, if_neg (by omega)]
      exact so p j hap (by omega) (by omega) (by simp)
  · rw [if_neg hq]
    by_cases hp : p = j
    · rw [if_pos hp]; exact so (j + 1) q (by omega) (by omega) hqi (by simp; omega)
    · rw [if_neg hp]
      by_cases hp2 : p = j + 1
      · rw [if_pos hp2]; exact so j q ha (by omega) hqi (by simp; omega)
      · rw [if_neg hp2]; exact so p q hap hpq hqi (by simp; omega)
theorem Ins.stop {xs0 xs : List Rw} {a b i j : Nat} (h : Ins xs0 xs a b i (some j)) (hj : j ≤ a ∨ kE xs (j - 1) ≤ kE xs j) : Ins xs0 xs a b i none := by
  refine ⟨h.pr, fun p q hap hpq hqi _ => ?_⟩
  by_cases hq : q = j
  · subst hq
    rcases hj with hj | hj
    · omega
    · by_cases hp : p = q - 1
      · rw [hp]; exact hj
      · have := h.so p (q - 1) hap (by omega) (by omega) (by simp; omega)
        omega
  · exact h.so p q hap hpq hqi (by simp; omega)
theorem k_insG : ∀ (args : List AV) (hp : Tr (AO O)) (nx : Nat) (K : AV → Tr (AO O) → Nat → Prop), c_insG args hp nx K → ACall I P 30 args hp (fun v hp' => ∃ nx', K v hp' nx') := by
  intro args hp nx K h
  unfold c_insG at h; split at h
  · rename_i n l c a b
    obtain ⟨xs0, room, hb, hg, hl, h1000, hne, ⟨ha, hab, hbl⟩, hk⟩ := isE_out h
    obtain ⟨a, rfl⟩ := Int.eq_ofNat_of_zero_le ha
    obtain ⟨b, rfl⟩ := Int.eq_ofNat_of_zero_le (Int.le_trans ha hab)
    simp only [Int.ofNat_eq_natCast, Int.toNat_natCast] at hk ⊢
    refine hcallG mix gS3 (fn := Try.f30) (by kernel_rfl) (by kernel_rfl) (by kernel_rfl) [n] [eO xs0 room] [.sl 0 0 l c, .int .i64 (a : Int), .int .i64 (b : Int), fnO] rfl (uniqE hb) rfl ⟨hg, trivial⟩ rfl rfl (fun hr ho => (t_insG I _ l c room xs0 (a : Int) (b : Int)).mpr ?_)
    refine ALoop.start [] [0, 1, 2, 3, 8] 1 (g_i1 l c room xs0 (a : Int) (b : Int) (IntKind.i64.wrap ((a : Int) + 1))) (by kernel_rfl) (by kernel_rfl) ?_
    rw [w_id (n := (a : Int) + 1) (by omega) (by omega)]
    refine ALoop.invj (ps := []) (ts := [0, 1, 2, 3, 8]) (nx := 1) (fun x : List Rw × Nat => g_i1 l c room x.1 (a : Int) (b : Int) (x.2 : Nat)) (fun x => Ins xs0 x.1 a b x.2 none ∧ a + 1 ≤ x.2) (fun x => b - x.2) ?_ (xs0, a + 1) ⟨⟨PR.refl _ _ _, fun p q h0 h1 h2 _ => by omega⟩, Nat.le_refl _⟩
    rintro ⟨xs, i⟩ ⟨g, g1⟩
    have g : Ins xs0 xs a b i none := g
    have g1 : a + 1 ≤ i := g1
    have hlen : xs.length = l := by rw [hl]; exact g.pr.len
    refine (t_li1 I _ _ l c room xs (a : Int) (b : Int) (i : Nat)).mpr (bsplit_both (fun hx => ?_) (fun hx => ?_))
    · have hx : (i : Int) < (b : Int) := of_decide_eq_true hx
      refine ALoop.invg (ps := []) (ts := [0, 1, 2, 3, 8, 9]) (nx := 1) (fun x : List Rw × Nat => g_i2 l c room x.1 (a : Int) (b : Int) (i : Nat) (x.2 : Nat)) (fun x => Ins xs0 x.1 a b (i + 1) (some x.2) ∧ x.2 ≤ i ∧ a ≤ x.2) (fun x => x.2) ?_ (by kernel_rfl) (xs, i) (by kernel_rfl) ⟨⟨g.pr, fun p q h0 h1 h2 h3 => g.so p q h0 h1 (by
          have : q ≠ i := fun e => h3 (by rw [e])
          omega) (by simp)⟩, Nat.le_refl _, by show a ≤ i; omega⟩
      rintro ⟨ys, j⟩ ⟨w, w1, w2⟩
      have w : Ins xs0 ys a b (i + 1) (some j) := w
      have w1 : j ≤ i := w1
      have w2 : a ≤ j := w2
      have hylen : l = ys.length := by rw [hl]; exact w.pr.len.symm
      have hny := hne.perm w.pr.pm
      have fin : Ins xs0 ys a b (i + 1) none → ∃ y : List Rw × Nat, (Ins xs0 y.1 a b y.2 none ∧ a + 1 ≤ y.2) ∧ b - y.2 < b - i ∧ g_i1 l c room ys (a : Int) (b : Int) (IntKind.i64.wrap ((i : Int) + 1)) = g_i1 l c room y.1 (a : Int) (b : Int) (y.2 : Nat) := fun hh => ⟨(ys, i + 1), ⟨hh, by show a + 1 ≤ i + 1; omega⟩, by show b - (i + 1) < b - i; omega, by rw [w_id (n := (i : Int) + 1) (by omega) (by omega)]; rfl⟩
      refine (t_li2 I _ _ _ l c room ys (a : Int) (b : Int) (i : Nat) (j : Nat)).mpr (bsplit_both (fun hj => ?_) (fun hj => fin (w.stop (.inl ?_))))
      · have hj : (j : Int) > (a : Int) := of_decide_eq_true hj
        obtain ⟨k, rfl⟩ : ∃ k, j = k + 1 := ⟨j - 1, by omega⟩
        have e1 : IntKind.i64.wrap (((k + 1 : Nat) : Int) - 1) = (k : Nat) := by rw [w_id (by omega) (by omega)]; omega
        rw [e1]
        refine cmpX hylen (by omega) (by omega) (by omega) (by omega) (fun hc => swpX hylen hny (by omega) (by omega) (by omega) (by omega) fun e0 e1 => ?_) (fun hc => fin (w.stop (.inr hc)))
        exact ⟨(sw ys (k + 1) k, k), ⟨w.swap (by omega) (by omega) (by omega) (by omega) hc, by show k ≤ i; omega, by show a ≤ k; omega⟩, by show k < k + 1; omega, by rw [e0, e1]; rfl⟩
      · have hj := of_decide_eq_false hj; omega
    · have hx : ¬ (i : Int) < (b : Int) := of_decide_eq_false hx
      exact ⟨[], nx, uniqE hb, trivial, rfl, rfl, hk xs g.pr (fun p q h1 h2 h3 => g.so p q h1 h2 (by omega) (by simp))⟩
  · rename_i a b
    obtain ⟨⟨⟨ha1, ha2⟩, hb1, hb2⟩, hk⟩ := h
    obtain rfl : a = 0 := by omega
    obtain rfl : b = 0 := by omega
    refine hcallG mix gS3 (fn := Try.f30) (by kernel_rfl) (by kernel_rfl) (by kernel_rfl) [] [] [.nils, .int .i64 0, .int .i64 0, fnO] rfl rfl rfl trivial rfl rfl (fun hr ho => (t_insN I _).mpr ?_)
    refine ALoop.start [] [0, 1, 2, 3, 8] 0 j_inN (by kernel_rfl) (by kernel_rfl) ?_
    refine ALoop.stepg [] [0, 1, 2, 3, 8] 0 ?_
    exact (t_in1N I _ _).mpr ⟨[], nx, rfl, trivial, rfl, rfl, hk⟩
  · exact h.elim
end Go.Tb.W

/- Claims: the library's sort: turned about, and by a heap. -/
set_option linter.all false
set_option maxRecDepth 100000
set_option maxHeartbeats 2000000
namespace Go.Tb.W
open Go Go.Proofs
variable {I : Interp O}
theorem k_rev : ∀ (args : List AV) (hp : Tr (AO O)) (nx : Nat) (K : AV → Tr (AO O) → Nat → Prop), c_rev args hp nx K → ACall I P 34 args hp (fun v hp' => ∃ nx', K v hp' nx') := by
  intro args hp nx K h
  unfold c_rev at h; split at h
  · rename_i n l c a b
    obtain ⟨xs0, room, hb, hg, hl, h1000, hne, ⟨ha, hab, hbl⟩, hk⟩ := isE_out h
    obtain ⟨a, rfl⟩ := Int.eq_ofNat_of_zero_le ha
    obtain ⟨b, rfl⟩ := Int.eq_ofNat_of_zero_le (Int.le_trans ha hab)
    simp only [Int.ofNat_eq_natCast, Int.toNat_natCast] at hk ⊢
    refine hcallG mix gS3 (fn := Try.f34) (by kernel_rfl) (by kernel_rfl) (by kernel_rfl) [n] [eO xs0 room] [.sl 0 0 l c, .int .i64 (a : Int), .int .i64 (b : Int), fnO] rfl (uniqE hb) rfl ⟨hg, trivial⟩ rfl rfl (fun hr ho => (t_rev I _ l c room xs0 (a : Int) (b : Int)).mpr ?_)
    refine ALoop.start [] [0, 8, 9] 1 (g_rv l c room xs0 ((a : Nat) : Int) (IntKind.i64.wrap ((b : Int) - 1))) (by kernel_rfl) (by kernel_rfl) ?_
    rw [w_id (n := (b : Int) - 1) (by omega) (by omega)]
    refine ALoop.invj (ps := []) (ts := [0, 8, 9]) (nx := 1) (fun x : List Rw × Nat × Int => g_rv l c room x.1 (x.2.1 : Nat) x.2.2) (fun x => PR xs0 x.1 a b ∧ a ≤ x.2.1 ∧ x.2.2 < b) (fun x => (x.2.2 - x.2.1).toNat) ?_ (xs0, a, (b : Int) - 1) ⟨PR.refl _ _ _, Nat.le_refl _, by show (b : Int) - 1 < b; omega⟩
    rintro ⟨xs, i, j⟩ ⟨g, g1, g2⟩
    have g : PR xs0 xs a b := g
    have g1 : a ≤ i := g1
    have g2 : j < (b : Int) := g2
    have hlen : l = xs.length := by rw [hl]; exact g.len.symm
    have hny := hne.perm g.pm
    refine (t_lrv I _ _ l c room xs (i : Nat) j).mpr (bsplit_both (fun hx => ?_) (fun hx => ?_))
    · have hx : (i : Int) < j := of_decide_eq_true hx
      refine swpX hlen hny (by omega) (by omega) (by omega) (by omega) fun e0 e1 => ?_
      refine ⟨(sw xs (i : Int).toNat j.toNat, i + 1, j - 1), ⟨g.sw (by show a ≤ i; omega) (by show i < b; omega) (by omega) (by omega) (by omega), by show a ≤ i + 1; omega, by show j - 1 < (b : Int); omega⟩, by show (j - 1 - ((i + 1 : Nat) : Int)).toNat < (j - (i : Int)).toNat; omega, ?_⟩
      rw [e0, e1, w_id (n := (i : Int) + 1) (by omega) (by omega), w_id (n := j - 1) (by omega) (by omega)]; rfl
    · exact ⟨[], nx, uniqE hb, trivial, rfl, rfl, hk xs g⟩
  · exact h.elim
abbrev ch (c j : Nat) : Prop := c = 2 * j + 1 ∨ c = 2 * j + 2
/-- A heap but for one place. -/
structure Sf (xs0 xs : List Rw) (f lo hi r : Nat) : Prop where
  pr : PR xs0 xs (f + lo) (f + hi)
  ge : lo ≤ r
  le : r ≤ hi
  hp : HF xs0 f (lo + 1) hi → (∀ j c, lo ≤ j → ch c j → c < hi → j ≠ r → kE xs (f + c) ≤ kE xs (f + j)) ∧ (∀ j c, lo ≤ j → ch r j → ch c r → c < hi → kE xs (f + c) ≤ kE xs (f + j))
theorem Sf.init {xs : List Rw} {f lo hi : Nat} (h : lo ≤ hi) : Sf xs xs f lo hi lo := ⟨PR.refl _ _ _, Nat.le_refl _, h, fun w => ⟨fun j c h1 h2 h3 h4 => w j c (by omega) h2 h3, fun j c h1 h2 _ _ => by rcases h2 with h2 | h2 <;> omega⟩⟩
theorem Sf.step {xs0 xs : List Rw} {f lo hi r c : Nat} (h : Sf xs0 xs f lo hi r) (hl : f + hi ≤ xs.length) (hc : ch c r) (hch : c < hi) (hlt : kE xs (f + r) < kE xs (f + c)) (ho : ∀ d, ch d r → d < hi → kE xs (f + d) ≤ kE xs (f + c)) : Sf xs0 (sw xs (f + r) (f + c)) f lo hi c := by
  have hge := h.ge
  have hcr : r < c := by rcases hc with e | e <;> omega
  have ks : ∀ j, kE (sw xs (f + r) (f + c)) (f + j) = if j = c then kE xs (f + r) else if j = r then kE xs (f + c) else kE xs (f + j) := fun j => by
    rw [kE_sw (by omega) (by omega)]
    by_cases e1 : j = c
    · rw [if_pos e1, if_pos (by omega)]
    · rw [if_neg e1, if_neg (by omega)]
      by_cases e2 : j = r
      · rw [if_pos e2, if_pos (by omega)]
      · rw [if_neg e2, if_neg (by omega)]
  refine ⟨h.pr.sw (by omega) (by omega) (by omega) (by omega) hl, by omega, by omega, fun w => ?_⟩
  obtain ⟨p1, p2⟩ := h.hp w
  refine ⟨fun j d hj hd hdh hne => ?_, fun j d hj hcj hd hdh => ?_⟩
  · rw [ks, ks, if_neg hne]
    by_cases e : j = r
    · subst e
      rw [if_pos rfl]
      by_cases e2 : d = c
      · rw [if_pos e2]; omega
      · rw [if_neg e2, if_neg (by rcases hd with e | e <;> omega)]; exact ho d hd hdh
    · rw [if_neg e]
      by_cases e2 : d = c
      · exact (e (by rcases hd with a | a <;> rcases hc with b | b <;> omega)).elim
      · rw [if_neg e2]
        by_cases e3 : d = r
        · rw [if_pos e3]; exact p2 j c hj (e3 ▸ hd) hc hch
        · rw [if_neg e3]; exact p1 j d hj hd hdh e
  · have e : j = r := by rcases hcj with a | a <;> rcases hc with b | b <;> omega
    subst e
    rw [ks, ks, if_neg (by rcases hd with a | a <;> omega), if_neg (by rcases hd with a | a <;> omega), if_neg (by omega), if_pos rfl]
    exact p1 c d (by omega) hd hdh (by omega)
theorem Sf.done {xs0 xs : List Rw} {f lo hi r : Nat} (h : Sf xs0 xs f lo hi r) (hd : ∀ d, ch d r → d < hi → kE xs (f + d) ≤ kE xs (f + r)) : HI xs0 xs f lo hi := fun w j c hj hc hch => by
  by_cases e : j = r
  · subst e; exact hd c hc hch
  · exact (h.hp w).1 j c hj hc hch e
theorem k_sift : ∀ (args : List AV) (hp : Tr (AO O)) (nx : Nat) (K : AV → Tr (AO O) → Nat → Prop), c_sift args hp nx K → ACall I P 50 args hp (fun v hp' => ∃ nx', K v hp' nx') := by
  intro args hp nx K h
  unfold c_sift at h; split at h
  · rename_i n l c lo hi f
    obtain ⟨xs0, room, hb, hg, hl, h1000, hne, ⟨ha, hab, hf, hbl⟩, hk⟩ := isE_out h
    obtain ⟨lo, rfl⟩ := Int.eq_ofNat_of_zero_le ha
    obtain ⟨hi, rfl⟩ := Int.eq_ofNat_of_zero_le (Int.le_trans ha hab)
    obtain ⟨f, rfl⟩ := Int.eq_ofNat_of_zero_le hf
    simp only [Int.ofNat_eq_natCast, Int.toNat_natCast] at hk ⊢
    refine hcallG mix gS3 (fn := Try.f50) (by kernel_rfl) (by kernel_rfl) (by kernel_rfl) [n] [eO xs0 room] [.sl 0 0 l c, .int .i64 (lo : Int), .int .i64 (hi : Int), .int .i64 (f : Int), fnO] rfl (uniqE hb) rfl ⟨hg, trivial⟩ rfl rfl (fun hr ho => (t_sift I _ l c room xs0 (lo : Int) (hi : Int) (f : Int)).mpr ?_)
    refine ALoop.start [] [0, 2, 3, 4, 10] 1 (g_sf l c room xs0 (hi : Int) (f : Int) (lo : Int)) (by kernel_rfl) (by kernel_rfl) ?_
    refine ALoop.invj (ps := []) (ts := [0, 2, 3, 4, 10]) (nx := 1) (fun x : List Rw × Nat => g_sf l c room x.1 (hi : Int) (f : Int) (x.2 : Nat)) (fun x => Sf xs0 x.1 f lo hi x.2) (fun x => hi - x.2) ?_ (xs0, lo) (Sf.init (by omega))
    rintro ⟨xs, r⟩ g
    have g : Sf xs0 xs f lo hi r := g
    have hlen : l = xs.length := by rw [hl]; exact g.pr.len.symm
    have hny := hne.perm g.pr.pm
    have hrh := g.le
    have done : (∀ d, ch d r → d < hi → kE xs (f + d) ≤ kE xs (f + r)) → ∀ (K' : Prop), (K' = K (.tup []) (sE hp n xs room) nx) → K' := fun hd K' e => by
      rw [e]
      refine hk xs ?_ (g.done hd)
      have := g.pr
      rwa [show ((f : Int) + (lo : Int)).toNat = f + lo by omega, show ((f : Int) + (hi : Int)).toNat = f + hi by omega]
    refine (t_lsf I _ _ l c room xs (hi : Int) (f : Int) (r : Nat)).mpr ?_
    rw [w_id (n := 2 * (r : Int)) (by omega) (by omega), w_id (n := 2 * (r : Int) + 1) (by omega) (by omega), w_id (n := 2 * (r : Int) + 1 + 1) (by omega) (by omega), w_id (n := (f : Int) + (2 * (r : Int) + 1)) (by omega) (by omega),
      w_id (n := (f : Int) + (2 * (r : Int) + 1) + 1) (by omega) (by omega), w_id (n := (f : Int) + (r : Int)) (by omega) (by omega), w_id (n := (f : Int) + (2 * (r : Int) + 1 + 1)) (by omega) (by omega)]
    have t0 : ((f : Int) + (r : Int)).toNat = f + r := by omega
    have t1 : ((f : Int) + (2 * (r : Int) + 1)).toNat = f + (2 * r + 1) := by omega
    have t2 : ((f : Int) + (2 * (r : Int) + 1 + 1)).toNat = f + (2 * r + 2) := by omega
    have t3 : ((f : Int) + (2 * (r : Int) + 1) + 1).toNat = f + (2 * r + 2) := by omega
    refine bsplit_both (fun hx => ?_) (fun hx => ?_)
    · have hx := of_decide_eq_true hx
      exact ⟨[], nx, uniqE hb, trivial, rfl, rfl, done (fun d hd hdh => by rcases hd with e | e <;> omega) _ rfl⟩
    · have hx := of_decide_eq_false hx
      have one : (∀ d, ch d r → d < hi → kE xs (f + d) ≤ kE xs (f + (2 * r + 1))) → kE xs (f + r) < kE xs (f + (2 * r + 1)) → ∃ y : List Rw × Nat, Sf xs0 y.1 f lo hi y.2 ∧ hi - y.2 < hi - r ∧ g_sf l c room (sw xs ((f : Int) + (r : Int)).toNat ((f : Int) + (2 * (r : Int) + 1)).toNat) (hi : Int) (f : Int) (2 * (r : Int) + 1) = g_sf l c room y.1 (hi : Int) (f : Int) (y.2 : Nat) := fun ho hlt =>
        ⟨(sw xs (f + r) (f + (2 * r + 1)), 2 * r + 1), g.step (by omega) (.inl rfl) (by omega) hlt ho, by show hi - (2 * r + 1) < hi - r; omega, by rw [t0, t1]; rfl⟩
      have two : (∀ d, ch d r → d < hi → kE xs (f + d) ≤ kE xs (f + (2 * r + 2))) → 2 * r + 2 < hi → kE xs (f + r) < kE xs (f + (2 * r + 2)) → ∃ y : List Rw × Nat, Sf xs0 y.1 f lo hi y.2 ∧ hi - y.2 < hi - r ∧ g_sf l c room (sw xs ((f : Int) + (r : Int)).toNat ((f : Int) + (2 * (r : Int) + 1 + 1)).toNat) (hi : Int) (f : Int) (2 * (r : Int) + 1 + 1) = g_sf l c room y.1 (hi : Int) (f : Int) (y.2 : Nat) := fun ho hh hlt =>
        ⟨(sw xs (f + r) (f + (2 * r + 2)), 2 * r + 2), g.step (by omega) (.inr rfl) (by omega) hlt ho, by show hi - (2 * r + 2) < hi - r; omega, by rw [t0, t2]; rfl⟩
      refine bsplit_both (fun hy => ?_) (fun hy => ?_)
      · have hy := of_decide_eq_true hy
        refine cmpX hlen (by omega) (by omega) (by omega) (by omega) (fun hc => ?_) (fun hc => ?_)
        · rw [t1, t3] at hc
          have ho : ∀ d, ch d r → d < hi → kE xs (f + d) ≤ kE xs (f + (2 * r + 2)) := fun d hd hdh => by
            rcases hd with e | e
            · subst e; omega
            · subst e; exact Int.le_refl _
          refine cmpN hlen (by omega) (by omega) (by omega) (by omega) (fun hq => ?_) (fun hq => ?_)
          · rw [t0, t2] at hq
            exact ⟨[], nx, uniqE hb, trivial, rfl, rfl, done (fun d hd hdh => Int.le_trans (ho d hd hdh) hq) _ rfl⟩
          · rw [t0, t2] at hq
            refine swpX hlen hny (by omega) (by omega) (by omega) (by omega) fun e0 e1 => ?_
            have := two ho (by omega) hq
            rw [e0, e1]; exact this
        · rw [t1, t3] at hc
          have ho : ∀ d, ch d r → d < hi → kE xs (f + d) ≤ kE xs (f + (2 * r + 1)) := fun d hd hdh => by
            rcases hd with e | e
            · subst e; exact Int.le_refl _
            · subst e; omega
          refine cmpN hlen (by omega) (by omega) (by omega) (by omega) (fun hq => ?_) (fun hq => ?_)
          · rw [t0, t1] at hq
            exact ⟨[], nx, uniqE hb, trivial, rfl, rfl, done (fun d hd hdh => Int.le_trans (ho d hd hdh) hq) _ rfl⟩
          · rw [t0, t1] at hq
            refine swpX hlen hny (by omega) (by omega) (by omega) (by omega) fun e0 e1 => ?_
            have := one ho hq
            rw [e0, e1]; exact this
      · have hy := of_decide_eq_false hy
        have ho : ∀ d, ch d r → d < hi → kE xs (f + d) ≤ kE xs (f + (2 * r + 1)) := fun d hd hdh => by
          rcases hd with e | e
          · subst e; exact Int.le_refl _
          · subst e; omega
        refine cmpN hlen (by omega) (by omega) (by omega) (by omega) (fun hq => ?_) (fun hq => ?_)
        · rw [t0, t1] at hq
          exact ⟨[], nx, uniqE hb, trivial, rfl, rfl, done (fun d hd hdh => Int.le_trans (ho d hd hdh) hq) _ rfl⟩
        · rw [t0, t1] at hq
          refine swpX hlen hny (by omega) (by omega) (by omega) (by omega) fun e0 e1 => ?_
          have := one ho hq
          rw [e0, e1]; exact this
  · exact h.elim
theorem gU6 : GOk I P (Gm U6) := Gm.consH gS3 k_sift
end Go.Tb.W

/- Claims: the library's sort by a heap. -/
set_option linter.all false
set_option maxRecDepth 100000
set_option maxHeartbeats 2000000
namespace Go.Tb.W
open Go Go.Proofs
variable {I : Interp O}
theorem HF.max {xs : List Rw} {f n : Nat} (h : HF xs f 0 n) : ∀ j, j < n → kE xs (f + j) ≤ kE xs (f + 0) := by
  intro j
  induction j using Nat.strongRecOn with
  | _ j ih =>
    intro hj
    by_cases e : j = 0
    · subst e; exact Int.le_refl _
    · have h1 := h ((j - 1) / 2) j (Nat.zero_le _) (by omega) hj
      have h2 := ih ((j - 1) / 2) (by omega) (by omega)
      omega
theorem k_heap : ∀ (args : List AV) (hp : Tr (AO O)) (nx : Nat) (K : AV → Tr (AO O) → Nat → Prop), c_heap args hp nx K → ACall I P 31 args hp (fun v hp' => ∃ nx', K v hp' nx') := by
  intro args hp nx K h
  unfold c_heap at h; split at h
  · rename_i n l c a b
    obtain ⟨xs0, room, hb, hg, hl, h1000, hne, ⟨ha, hab, hbl⟩, hk⟩ := isE_out h
    obtain ⟨a, rfl⟩ := Int.eq_ofNat_of_zero_le ha
    obtain ⟨b, rfl⟩ := Int.eq_ofNat_of_zero_le (Int.le_trans ha hab)
    simp only [Int.ofNat_eq_natCast, Int.toNat_natCast] at hk ⊢
    refine hcallG mix gU6 (fn := Try.f31) (by kernel_rfl) (by kernel_rfl) (by kernel_rfl) [n] [eO xs0 room] [.sl 0 0 l c, .int .i64 (a : Int), .int .i64 (b : Int), fnO] rfl (uniqE hb) rfl ⟨hg, trivial⟩ rfl rfl (fun hr ho => (t_heap I _ l c room xs0 (a : Int) (b : Int)).mpr ?_)
    obtain ⟨hi, hhi⟩ : ∃ hi : Nat, b = a + hi := ⟨b - a, by omega⟩
    subst hhi
    refine ALoop.start [] [0, 3, 8, 9, 10, 11] 1 (g_h1 l c room xs0 ((a : Nat) : Int) (IntKind.i64.wrap (((a + hi : Nat) : Int) - (a : Int))) (IntKind.i64.wrap ((IntKind.i64.wrap (IntKind.i64.wrap (((a + hi : Nat) : Int) - (a : Int)) - 1)).tdiv 2))) (by kernel_rfl) (by kernel_rfl) ?_
    have e0 : IntKind.i64.wrap (((a + hi : Nat) : Int) - (a : Int)) = (hi : Nat) := by rw [w_id (by omega) (by omega)]; omega
    rw [e0, w_id (n := (hi : Int) - 1) (by omega) (by omega)]
    obtain ⟨i0, hi0, hi1, hi2⟩ : ∃ i0 : Nat, ((hi : Int) - 1).tdiv 2 = (i0 : Nat) ∧ i0 ≤ hi ∧ hi ≤ 2 * i0 + 2 := by
      rcases Nat.eq_zero_or_pos hi with e | e
      · subst e; exact ⟨0, rfl, by omega, by omega⟩
      · refine ⟨(hi - 1) / 2, ?_, by omega, by omega⟩
        rw [Int.tdiv_eq_ediv_of_nonneg (by omega)]; omega
    rw [hi0, w_id (n := (i0 : Int)) (by omega) (by omega)]
    refine ALoop.invj (ps := []) (ts := [0, 3, 8, 9, 10, 11]) (nx := 1) (fun x : List Rw × Int => g_h1 l c room x.1 (a : Int) (hi : Int) x.2) (fun x => PR xs0 x.1 a (a + hi) ∧ -1 ≤ x.2 ∧ x.2 ≤ (hi : Int) ∧ HF x.1 a (x.2 + 1).toNat hi) (fun x => (x.2 + 1).toNat) ?_ (xs0, (i0 : Int))
      ⟨PR.refl _ _ _, by show (-1 : Int) ≤ (i0 : Int); omega, by show (i0 : Int) ≤ (hi : Int); omega, fun j c h1 h2 h3 => by
        have h1 : ((i0 : Int) + 1).toNat ≤ j := h1
        rcases h2 with e | e <;> omega⟩
    rintro ⟨xs, i⟩ ⟨g, g1, g2, g3⟩
    have g : PR xs0 xs a (a + hi) := g
    have g1 : -1 ≤ i := g1
    have g2 : i ≤ (hi : Int) := g2
    have g3 : HF xs a (i + 1).toNat hi := g3
    have hlen : l = xs.length := by rw [hl]; exact g.len.symm
    refine (t_lh1 I _ _ l c room xs (a : Int) (hi : Int) i).mpr (bsplit_both (fun hx => ?_) (fun hx => ?_))
    · have hx : i ≥ 0 := of_decide_eq_true hx
      refine ⟨⟨hlen, h1000, hne.perm g.pm⟩, ⟨hx, g2, by omega, by omega⟩, fun ys hpr hhf => ?_⟩
      rw [show ((a : Int) + i).toNat = a + i.toNat by omega, show ((a : Int) + (hi : Int)).toNat = a + hi by omega] at hpr
      rw [Int.toNat_natCast, Int.toNat_natCast] at hhf
      refine ⟨(ys, i - 1), ⟨g.trans (hpr.sub (by omega) (Nat.le_refl _)), by show -1 ≤ i - 1; omega, by show i - 1 ≤ (hi : Int); omega, ?_⟩, by show (i - 1 + 1).toNat < (i + 1).toNat; omega, by rw [w_id (n := i - 1) (by omega) (by omega)]; rfl⟩
      show HF ys a (i - 1 + 1).toNat hi
      rw [show (i - 1 + 1).toNat = i.toNat by omega]
      refine hhf ?_
      rwa [show i.toNat + 1 = (i + 1).toNat by omega]
    · have hx : ¬ i ≥ 0 := of_decide_eq_false hx
      rw [w_id (n := (hi : Int) - 1) (by omega) (by omega)]
      have g3 : HF xs a 0 hi := by rwa [show (i + 1).toNat = 0 by omega] at g3
      refine ALoop.invg (ps := []) (ts := [0, 3, 8, 9, 12]) (nx := 1) (fun x : List Rw × Int => g_h2 l c room x.1 (a : Int) x.2) (fun x => PR xs0 x.1 a (a + hi) ∧ -1 ≤ x.2 ∧ x.2 < (hi : Int) ∧ HF x.1 a 0 (x.2 + 1).toNat ∧ ∀ p q : Nat, p < q → q < hi → x.2 < (q : Int) → kE x.1 (a + p) ≤ kE x.1 (a + q)) (fun x => (x.2 + 1).toNat) ?_ (by kernel_rfl) (xs, (hi : Int) - 1) (by kernel_rfl)
        ⟨g, by show -1 ≤ (hi : Int) - 1; omega, by show (hi : Int) - 1 < (hi : Int); omega, by show HF xs a 0 ((hi : Int) - 1 + 1).toNat; rwa [show ((hi : Int) - 1 + 1).toNat = hi by omega], fun p q h1 h2 h3 => by
          have h3 : (hi : Int) - 1 < (q : Int) := h3
          omega⟩
      clear g g1 g2 g3 hx hlen
      rintro ⟨xs, i⟩ ⟨g, g1, g2, g3, g4⟩
      have g : PR xs0 xs a (a + hi) := g
      have g1 : -1 ≤ i := g1
      have g2 : i < (hi : Int) := g2
      have g3 : HF xs a 0 (i + 1).toNat := g3
      have g4 : ∀ p q : Nat, p < q → q < hi → i < (q : Int) → kE xs (a + p) ≤ kE xs (a + q) := g4
      have hlen : l = xs.length := by rw [hl]; exact g.len.symm
      have hny := hne.perm g.pm
      refine (t_lh2 I _ (fun _ => True) _ l c room xs (a : Int) i).mpr (bsplit_both (fun hx => ?_) (fun hx => ?_))
      · have hx : i ≥ 0 := of_decide_eq_true hx
        obtain ⟨i, rfl⟩ := Int.eq_ofNat_of_zero_le hx
        rw [w_id (n := (a : Int) + ((i : Nat) : Int)) (by omega) (by omega)]
        refine swpX hlen hny (by omega) (by omega) (by omega) (by omega) fun e0 e1 => ?_
        rw [e0, e1]
        have t1 : ((a : Int) + ((i : Nat) : Int)).toNat = a + i := by omega
        have hz : PR xs (sw xs (a : Int).toNat ((a : Int) + ((i : Nat) : Int)).toNat) a (a + hi) := by
          rw [t1, Int.toNat_natCast]; exact (PR.refl _ _ _).sw (by omega) (by omega) (by omega) (by omega) (by omega)
        have kz : ∀ j, kE (sw xs (a : Int).toNat ((a : Int) + ((i : Nat) : Int)).toNat) (a + j) = if j = i then kE xs (a + 0) else if j = 0 then kE xs (a + i) else kE xs (a + j) := fun j => by
          rw [t1, Int.toNat_natCast, kE_sw (by omega) (by omega)]
          by_cases e1 : j = i
          · rw [if_pos e1, if_pos (by omega)]; rfl
          · rw [if_neg e1, if_neg (by omega)]
            by_cases e2 : j = 0
            · rw [if_pos e2, if_pos (by omega)]
            · rw [if_neg e2, if_neg (by omega)]
        have hmax := g3.max
        refine ⟨⟨by show l = (sw xs (a : Int).toNat ((a : Int) + ((i : Nat) : Int)).toNat).length; rw [hz.len]; exact hlen, h1000, hny.perm hz.pm⟩, ⟨Int.le_refl _, hx, by omega, by omega⟩, fun ys hpr hhf => ?_⟩
        have hpr : PR (sw xs (a : Int).toNat ((a : Int) + ((i : Nat) : Int)).toNat) ys (a + 0) (a + i) := by
          rw [t1, show ((a : Int) + 0).toNat = a + 0 by omega] at hpr; exact hpr
        have hhf : HF (sw xs (a : Int).toNat ((a : Int) + ((i : Nat) : Int)).toNat) a 1 i → HF ys a 0 i := hhf
        refine ⟨(ys, (i : Int) - 1), ⟨g.trans (hz.trans (hpr.sub (by omega) (by omega))), by show -1 ≤ (i : Int) - 1; omega, by show (i : Int) - 1 < (hi : Int); omega, ?_, fun p q h1 h2 h3 => ?_⟩, by show ((i : Int) - 1 + 1).toNat < ((i : Int) + 1).toNat; omega, by rw [w_id (n := ((i : Nat) : Int) - 1) (by omega) (by omega)]; rfl⟩
        · show HF ys a 0 ((i : Int) - 1 + 1).toNat
          rw [show ((i : Int) - 1 + 1).toNat = i by omega]
          refine hhf fun j c h1 h2 h3 => ?_
          rw [kz, kz, if_neg (by omega), if_neg (by rcases h2 with e | e <;> omega), if_neg (by rcases h2 with e | e <;> omega), if_neg (by omega)]
          exact g3 j c (Nat.zero_le _) h2 (by omega)
        · have h3 : (i : Int) - 1 < (q : Int) := h3
          show kE ys (a + p) ≤ kE ys (a + q)
          rw [hpr.ko (a + q) (by omega), kz q]
          have pq : kE ys (a + p) ≤ kE xs (a + 0) ∨ (i < p ∧ kE ys (a + p) = kE xs (a + p)) := by
            by_cases e : p < i
            · obtain ⟨p', w1, w2, w3⟩ := hpr.ki (a + p) (by omega) (by omega)
              obtain ⟨p', rfl⟩ : ∃ z, p' = a + z := ⟨p' - a, by omega⟩
              rw [w3, kz]
              refine .inl ?_
              rw [if_neg (by omega)]
              split
              · exact hmax i (by omega)
              · exact hmax p' (by omega)
            · by_cases e2 : p = i
              · rw [hpr.ko (a + p) (by omega), kz p, if_pos e2]; exact .inl (Int.le_refl _)
              · rw [hpr.ko (a + p) (by omega), kz p, if_neg e2, if_neg (by omega)]; exact .inr ⟨by omega, rfl⟩
          by_cases e : q = i
          · rw [if_pos e]
            rcases pq with k | k
            · exact k
            · omega
          · rw [if_neg e, if_neg (by omega)]
            rcases pq with k | k
            · exact Int.le_trans k (g4 0 q (by omega) h2 (by omega))
            · rw [k.2]; exact g4 p q h1 h2 (by omega)
      · have hx : ¬ i ≥ 0 := of_decide_eq_false hx
        refine ⟨[], nx, uniqE hb, trivial, rfl, rfl, hk xs g (fun p q h1 h2 h3 => ?_)⟩
        have := g4 (p - a) (q - a) (by omega) (by omega) (by omega)
        rwa [show a + (p - a) = p by omega, show a + (q - a) = q by omega] at this
  · exact h.elim
end Go.Tb.W

/- Claims: the library's sort: what is parted by one of them. -/
set_option linter.all false
set_option maxRecDepth 100000
set_option maxHeartbeats 2000000
namespace Go.Tb.W
open Go Go.Proofs
variable {I : Interp O}
/-- Parted so far: A holds ahead of i, B behind j. -/
structure Pt (A B : Int → Prop) (xs0 xs : List Rw) (a b : Nat) (v : Int) (i j : Nat) : Prop where
  pr : PR xs0 xs a b
  pv : kE xs a = v
  ai : a + 1 ≤ i
  ij : i ≤ j + 1
  jb : j < b
  lo : ∀ q, a < q → q < i → A (kE xs q)
  hi : ∀ q, j < q → q < b → B (kE xs q)
theorem Pt.start {A B : Int → Prop} {xs0 : List Rw} {a b p : Nat} (hp : a ≤ p) (hpb : p < b) (hb : b ≤ xs0.length) : Pt A B xs0 (sw xs0 a p) a b (kE xs0 p) (a + 1) (b - 1) :=
  ⟨(PR.refl _ _ _).sw (Nat.le_refl _) (by omega) hp hpb hb, by
    rw [kE_sw (by omega) (by omega)]
    by_cases e : a = p
    · rw [if_pos e, e]
    · rw [if_neg e, if_pos rfl], Nat.le_refl _, by omega, by omega, fun q h1 h2 => by omega, fun q h1 h2 => by omega⟩
section
variable {A B : Int → Prop} {xs0 xs : List Rw} {a b i j : Nat} {v : Int}
theorem Pt.i1 (h : Pt A B xs0 xs a b v i j) (hij : i ≤ j) (k : A (kE xs i)) : Pt A B xs0 xs a b v (i + 1) j := ⟨h.pr, h.pv, by have := h.ai; omega, by omega, h.jb, fun q h1 h2 => by
  by_cases e : q = i
  · rw [e]; exact k
  · exact h.lo q h1 (by omega), h.hi⟩
theorem Pt.j1 (h : Pt A B xs0 xs a b v i j) (hij : i ≤ j) (k : B (kE xs j)) : Pt A B xs0 xs a b v i (j - 1) := ⟨h.pr, h.pv, h.ai, by have := h.ai; omega, by have := h.jb; omega, h.lo, fun q h1 h2 => by
  by_cases e : q = j
  · rw [e]; exact k
  · exact h.hi q (by omega) h2⟩
theorem Pt.sw (h : Pt A B xs0 xs a b v i j) (hb : b ≤ xs.length) (hij : i < j) (k : B (kE xs i)) (k2 : A (kE xs j)) : Pt A B xs0 (sw xs i j) a b v (i + 1) (j - 1) := by
  have h1 := h.ai
  have h2 := h.jb
  refine ⟨h.pr.sw (by omega) (by omega) (by omega) (by omega) hb, ?_, by omega, by omega, by omega, fun q q1 q2 => ?_, fun q q1 q2 => ?_⟩
  · rw [kE_sw (by omega) (by omega), if_neg (by omega), if_neg (by omega)]; exact h.pv
  · rw [kE_sw (by omega) (by omega), if_neg (by omega)]
    by_cases e : q = i
    · rw [if_pos e]; exact k2
    · rw [if_neg e]; exact h.lo q q1 (by omega)
  · rw [kE_sw (by omega) (by omega)]
    by_cases e : q = j
    · rw [if_pos e]; exact k
    · rw [if_neg e, if_neg (by omega)]; exact h.hi q (by omega) q2
end
theorem k_peq : ∀ (args : List AV) (hp : Tr (AO O)) (nx : Nat) (K : AV → Tr (AO O) → Nat → Prop), c_peq args hp nx K → ACall I P 36 args hp (fun v hp' => ∃ nx', K v hp' nx') := by
  intro args hp nx K h
  unfold c_peq at h; split at h
  · rename_i n l c a b p
    obtain ⟨xs0, room, hb, hg, hl, h1000, hne, ⟨⟨ha, hap, hpb, hbl⟩, hge⟩, hk⟩ := isE_out h
    obtain ⟨a, rfl⟩ := Int.eq_ofNat_of_zero_le ha
    obtain ⟨p, rfl⟩ := Int.eq_ofNat_of_zero_le (Int.le_trans ha hap)
    obtain ⟨b1, rfl⟩ : ∃ b1 : Nat, b = ((b1 + 1 : Nat) : Int) := ⟨(b - 1).toNat, by omega⟩
    simp only [Int.ofNat_eq_natCast, Int.toNat_natCast] at hk hge hap hpb ⊢
    refine hcallG mix gS3 (fn := Try.f36) (by kernel_rfl) (by kernel_rfl) (by kernel_rfl) [n] [eO xs0 room] [.sl 0 0 l c, .int .i64 (a : Int), .int .i64 ((b1 + 1 : Nat) : Int), .int .i64 (p : Int), fnO] rfl (uniqE hb) rfl ⟨hg, trivial⟩ rfl rfl (fun hr ho => (t_peq I _ l c room xs0 (a : Int) ((b1 + 1 : Nat) : Int) (p : Int)).mpr ?_)
    refine swpX hl hne (by omega) (by omega) (by omega) (by omega) fun e0 e1 => ?_
    rw [e0, e1]
    refine ALoop.start [] [0, 1, 4, 11, 12] 1 (g_pe l c room (sw xs0 (a : Int).toNat (p : Int).toNat) (a : Int) (IntKind.i64.wrap ((a : Int) + 1)) (IntKind.i64.wrap (((b1 + 1 : Nat) : Int) - 1))) (by kernel_rfl) (by kernel_rfl) ?_
    rw [w_id (n := (a : Int) + 1) (by omega) (by omega), show IntKind.i64.wrap (((b1 + 1 : Nat) : Int) - 1) = (b1 : Nat) by rw [w_id (by omega) (by omega)]; omega, Int.toNat_natCast, Int.toNat_natCast]
    have fin : ∀ xs i j, Pt (fun x => x ≤ kE xs0 p) (fun x => kE xs0 p < x) xs0 xs a (b1 + 1) (kE xs0 p) i j → ¬ i ≤ j → K (.int .i64 (i : Nat)) (sE hp n xs room) nx := fun xs i j g hij => by
      have h1 := g.ai
      have h2 := g.ij
      have h3 := g.jb
      refine hk xs (i : Nat) g.pr (by omega) (by omega) (fun q q1 q2 => ?_) (fun q q1 q2 => g.hi q (by omega) (by omega))
      by_cases e : q = a
      · rw [e]; exact g.pv
      · have := g.lo q (by omega) (by omega)
        obtain ⟨q', w1, w2, w3⟩ := g.pr.ki q (by omega) (by omega)
        have := hge q' (by omega) (by omega)
        omega
    refine ALoop.invj (ps := []) (ts := [0, 1, 4, 11, 12]) (nx := 1) (fun x : List Rw × Nat × Nat => g_pe l c room x.1 (a : Int) (x.2.1 : Nat) (x.2.2 : Nat)) (fun x => Pt (fun x => x ≤ kE xs0 p) (fun x => kE xs0 p < x) xs0 x.1 a (b1 + 1) (kE xs0 p) x.2.1 x.2.2) (fun x => x.2.2) ?_ (sw xs0 a p, a + 1, b1) (Pt.start (by omega) (by omega) (by omega))
    rintro ⟨xs, i0, j0⟩ g
    have g : Pt (fun x => x ≤ kE xs0 p) (fun x => kE xs0 p < x) xs0 xs a (b1 + 1) (kE xs0 p) i0 j0 := g
    have hlen : l = xs.length := by rw [hl]; exact g.pr.len.symm
    have hny := hne.perm g.pr.pm
    refine (t_lpe I _ _ l c room xs (a : Int) (i0 : Nat) (j0 : Nat)).mpr ?_
    refine ALoop.invg (ps := []) (ts := [0, 1, 4, 11, 12]) (nx := 1) (fun x : Nat => g_pe l c room xs (a : Int) (x : Nat) (j0 : Nat)) (fun x => Pt (fun x => x ≤ kE xs0 p) (fun x => kE xs0 p < x) xs0 xs a (b1 + 1) (kE xs0 p) x j0) (fun x => b1 + 1 - x) ?_ (by kernel_rfl) i0 (by kernel_rfl) g
    intro i g
    have h1 := g.ai
    have h2 := g.ij
    have h3 := g.jb
    refine (t_lpe1 I _ _ _ l c room xs (a : Int) (i : Nat) (j0 : Nat)).mpr (bsplit_both (fun hx => ?_) (fun hx => ?_))
    · have hx : (i : Int) ≤ (j0 : Int) := of_decide_eq_true hx
      refine cmpN hlen (by omega) (by omega) (by omega) (by omega) (fun hc => ?_) (fun hc => ?_)
      · simp only [Int.toNat_natCast] at hc
        exact ⟨i + 1, g.i1 (by omega) (by rw [g.pv] at hc; exact hc), by omega, by rw [w_id (n := (i : Int) + 1) (by omega) (by omega)]; rfl⟩
      · simp only [Int.toNat_natCast] at hc
        refine ALoop.invg (ps := []) (ts := [0, 1, 4, 11, 12]) (nx := 1) (fun x : Nat => g_pe l c room xs (a : Int) (i : Nat) (x : Nat)) (fun x => Pt (fun x => x ≤ kE xs0 p) (fun x => kE xs0 p < x) xs0 xs a (b1 + 1) (kE xs0 p) i x ∧ x ≤ j0) (fun x => x) ?_ (by kernel_rfl) j0 (by kernel_rfl) ⟨g, Nat.le_refl _⟩
        rintro j ⟨g, hj0⟩
        have h1 := g.ai
        have h2 := g.ij
        have h3 := g.jb
        refine (t_lpe2 I _ _ (fun _ => True) _ l c room xs (a : Int) (i : Nat) (j : Nat)).mpr (bsplit_both (fun hy => ?_) (fun hy => ?_))
        · have hy : (i : Int) ≤ (j : Int) := of_decide_eq_true hy
          refine cmpX hlen (by omega) (by omega) (by omega) (by omega) (fun hd => ?_) (fun hd => ?_)
          · simp only [Int.toNat_natCast] at hd
            exact ⟨j - 1, ⟨g.j1 (by omega) (by rw [g.pv] at hd; exact hd), by omega⟩, by omega, by rw [show IntKind.i64.wrap ((j : Int) - 1) = ((j - 1 : Nat) : Int) by rw [w_id (by omega) (by omega)]; omega]; rfl⟩
          · simp only [Int.toNat_natCast] at hd
            refine bs_f (decide_eq_false (by omega)) ?_
            refine swpX hlen hny (by omega) (by omega) (by omega) (by omega) fun e0 e1 => ?_
            have hne2 : i ≠ j := fun e => by subst e; omega
            refine ⟨(sw xs i j, i + 1, j - 1), g.sw (by omega) (by omega) (by rw [g.pv] at hc; exact hc) (by rw [g.pv] at hd; exact hd), by show j - 1 < j0; omega, ?_⟩
            rw [e0, e1, w_id (n := (i : Int) + 1) (by omega) (by omega), show IntKind.i64.wrap ((j : Int) - 1) = ((j - 1 : Nat) : Int) by rw [w_id (by omega) (by omega)]; omega]; rfl
        · have hy : ¬ (i : Int) ≤ (j : Int) := of_decide_eq_false hy
          exact bs_t (decide_eq_true (by omega)) ⟨[], nx, uniqE hb, trivial, rfl, rfl, fin xs i j g (by omega)⟩
    · have hx : ¬ (i : Int) ≤ (j0 : Int) := of_decide_eq_false hx
      refine ALoop.start [] [0, 1, 4, 11, 12] 1 (g_pe l c room xs (a : Int) (i : Nat) (j0 : Nat)) (by kernel_rfl) (by kernel_rfl) ?_
      refine ALoop.stepg [] [0, 1, 4, 11, 12] 1 ?_
      refine (t_lpe2 I _ _ (fun _ => True) _ l c room xs (a : Int) (i : Nat) (j0 : Nat)).mpr (bs_f (decide_eq_false (by omega)) (bs_t (decide_eq_true (by omega)) ?_))
      exact ⟨[], nx, uniqE hb, trivial, rfl, rfl, fin xs i j0 g (by omega)⟩
  · exact h.elim
end Go.Tb.W

/- Claims: the library's sort: parted about one of them. -/
set_option linter.all false
set_option maxRecDepth 100000
set_option maxHeartbeats 2000000
namespace Go.Tb.W
open Go Go.Proofs
variable {I : Interp O}
theorem k_part : ∀ (args : List AV) (hp : Tr (AO O)) (nx : Nat) (K : AV → Tr (AO O) → Nat → Prop), c_part args hp nx K → ACall I P 37 args hp (fun v hp' => ∃ nx', K v hp' nx') := by
  intro args hp nx K h
  unfold c_part at h; split at h
  · rename_i n l c a b p
    obtain ⟨xs0, room, hb, hg, hl, h1000, hne, ⟨ha, hap, hpb, hbl⟩, hk⟩ := isE_out h
    obtain ⟨a, rfl⟩ := Int.eq_ofNat_of_zero_le ha
    obtain ⟨p, rfl⟩ := Int.eq_ofNat_of_zero_le (Int.le_trans ha hap)
    obtain ⟨b1, rfl⟩ : ∃ b1 : Nat, b = ((b1 + 1 : Nat) : Int) := ⟨(b - 1).toNat, by omega⟩
    simp only [Int.ofNat_eq_natCast, Int.toNat_natCast] at hk hap hpb ⊢
    refine hcallG mix gS3 (fn := Try.f37) (by kernel_rfl) (by kernel_rfl) (by kernel_rfl) [n] [eO xs0 room] [.sl 0 0 l c, .int .i64 (a : Int), .int .i64 ((b1 + 1 : Nat) : Int), .int .i64 (p : Int), fnO] rfl (uniqE hb) rfl ⟨hg, trivial⟩ rfl rfl (fun hr ho => (t_part I _ l c room xs0 (a : Int) ((b1 + 1 : Nat) : Int) (p : Int)).mpr ?_)
    refine swpX hl hne (by omega) (by omega) (by omega) (by omega) fun e0 e1 => ?_
    rw [e0, e1]
    refine ALoop.start [] [0, 1, 4, 12, 13] 1 (g_pt l c room (sw xs0 (a : Int).toNat (p : Int).toNat) (a : Int) (IntKind.i64.wrap ((a : Int) + 1)) (IntKind.i64.wrap (((b1 + 1 : Nat) : Int) - 1))) (by kernel_rfl) (by kernel_rfl) ?_
    rw [w_id (n := (a : Int) + 1) (by omega) (by omega), show IntKind.i64.wrap (((b1 + 1 : Nat) : Int) - 1) = (b1 : Nat) by rw [w_id (by omega) (by omega)]; omega, Int.toNat_natCast, Int.toNat_natCast]
    have fin : ∀ xs i j r, Pt (fun x => x ≤ kE xs0 p) (fun x => kE xs0 p ≤ x) xs0 xs a (b1 + 1) (kE xs0 p) i j → ¬ i ≤ j → K (.tup [.int .i64 (j : Nat), .bool r]) (sE hp n (sw xs j a) room) nx := fun xs i j r g hij => by
      have h1 := g.ai
      have h2 := g.ij
      have h3 := g.jb
      have hlen := g.pr.len
      have ks := fun q => kE_sw (xs := xs) (i := j) (k := a) (by omega) (by omega) q
      have hjv : kE xs j ≤ kE xs0 p := by
        by_cases e : j = a
        · rw [e, g.pv]; exact Int.le_refl _
        · exact g.lo j (by omega) (by omega)
      have hja : kE (sw xs j a) j = kE xs0 p := by
        rw [ks]
        by_cases e : j = a
        · rw [if_pos e, e, g.pv]
        · rw [if_neg e, if_pos rfl, g.pv]
      refine hk (sw xs j a) (j : Nat) r (g.pr.sw (by omega) (by omega) (by omega) (by omega) (by omega)) (by omega) (by omega) (fun q q1 q2 => ?_) (by rw [Int.toNat_natCast]; exact hja) (fun q q1 q2 => ?_)
      · rw [ks]
        by_cases e : q = a
        · rw [if_pos e]; exact hjv
        · rw [if_neg e, if_neg (by omega)]; exact g.lo q (by omega) (by omega)
      · by_cases e : q = j
        · rw [e, hja]; exact Int.le_refl _
        · rw [ks, if_neg (by omega), if_neg e]; exact g.hi q (by omega) (by omega)
    have hst : Pt (fun x => x ≤ kE xs0 p) (fun x => kE xs0 p ≤ x) xs0 (sw xs0 a p) a (b1 + 1) (kE xs0 p) (a + 1) b1 := Pt.start (by omega) (by omega) (by omega)
    generalize sw xs0 a p = xs at hst ⊢
    have hlen : l = xs.length := by rw [hl]; exact hst.pr.len.symm
    have hny := hne.perm hst.pr.pm
    refine ALoop.invj (ps := []) (ts := [0, 1, 4, 12, 13]) (nx := 1) (fun x : Nat => g_pt l c room xs (a : Int) (x : Nat) (b1 : Nat)) (fun x => Pt (fun x => x ≤ kE xs0 p) (fun x => kE xs0 p ≤ x) xs0 xs a (b1 + 1) (kE xs0 p) x b1) (fun x => b1 + 1 - x) ?_ (a + 1) hst
    intro i g
    have h1 := g.ai
    have h2 := g.ij
    have h3 := g.jb
    refine (t_lpt I _ _ l c room xs (a : Int) (i : Nat) (b1 : Nat)).mpr (bsplit_both (fun hx => ?_) (fun hx => ?_))
    · have hx : (i : Int) ≤ (b1 : Int) := of_decide_eq_true hx
      refine cmpX hlen (by omega) (by omega) (by omega) (by omega) (fun hc => ?_) (fun hc => ?_)
      · simp only [Int.toNat_natCast] at hc
        exact ⟨i + 1, g.i1 (by omega) (by rw [g.pv] at hc; exact Int.le_of_lt hc), by omega, by rw [w_id (n := (i : Int) + 1) (by omega) (by omega)]; rfl⟩
      · simp only [Int.toNat_natCast] at hc
        refine ALoop.invg (ps := []) (ts := [0, 1, 4, 12, 13]) (nx := 1) (fun x : Nat => g_pt l c room xs (a : Int) (i : Nat) (x : Nat)) (fun x => Pt (fun x => x ≤ kE xs0 p) (fun x => kE xs0 p ≤ x) xs0 xs a (b1 + 1) (kE xs0 p) i x) (fun x => x) ?_ (by kernel_rfl) b1 (by kernel_rfl) g
        intro j g
        have h1 := g.ai
        have h2 := g.ij
        have h3 := g.jb
        refine (t_lpq I _ (fun _ => True) _ l c room xs (a : Int) (i : Nat) (j : Nat)).mpr (bsplit_both (fun hy => ?_) (fun hy => ?_))
        · have hy : (i : Int) ≤ (j : Int) := of_decide_eq_true hy
          refine cmpN hlen (by omega) (by omega) (by omega) (by omega) (fun hd => ?_) (fun hd => ?_)
          · simp only [Int.toNat_natCast] at hd
            exact ⟨j - 1, g.j1 (by omega) (by rw [g.pv] at hd; exact hd), by omega, by rw [show IntKind.i64.wrap ((j : Int) - 1) = ((j - 1 : Nat) : Int) by rw [w_id (by omega) (by omega)]; omega]; rfl⟩
          · simp only [Int.toNat_natCast] at hd
            refine bs_f (decide_eq_false (by omega)) ?_
            refine swpX hlen hny (by omega) (by omega) (by omega) (by omega) fun e0 e1 => ?_
            have hne2 : i ≠ j := fun e => by subst e; omega
            have gs := g.sw (by omega) (by omega) (by rw [g.pv] at hc; exact hc) (by rw [g.pv] at hd; exact Int.le_of_lt hd)
            rw [e0, e1, w_id (n := (i : Int) + 1) (by omega) (by omega), show IntKind.i64.wrap ((j : Int) - 1) = ((j - 1 : Nat) : Int) by rw [w_id (by omega) (by omega)]; omega]
            clear e0 e1
            refine ALoop.start [] [0, 1, 4, 12, 13] 1 (g_pt l c room (sw xs (i : Int).toNat (j : Int).toNat) (a : Int) ((i : Int) + 1) ((j - 1 : Nat) : Int)) (by kernel_rfl) (by kernel_rfl) ?_
            refine ALoop.invj (ps := []) (ts := [0, 1, 4, 12, 13]) (nx := 1) (fun x : List Rw × Nat × Nat => g_pt l c room x.1 (a : Int) (x.2.1 : Nat) (x.2.2 : Nat)) (fun x => Pt (fun x => x ≤ kE xs0 p) (fun x => kE xs0 p ≤ x) xs0 x.1 a (b1 + 1) (kE xs0 p) x.2.1 x.2.2) (fun x => x.2.2) ?_ (sw xs i j, i + 1, j - 1) gs
            clear gs hst hlen hny g h1 h2 h3 hx hc hy hd hne2
            rintro ⟨xs, i0, j0⟩ g
            have g : Pt (fun x => x ≤ kE xs0 p) (fun x => kE xs0 p ≤ x) xs0 xs a (b1 + 1) (kE xs0 p) i0 j0 := g
            have hlen : l = xs.length := by rw [hl]; exact g.pr.len.symm
            have hny := hne.perm g.pr.pm
            refine (t_lpr I _ (fun _ => True) (fun _ => True) _ l c room xs (a : Int) (i0 : Nat) (j0 : Nat)).mpr ?_
            refine ALoop.invg (ps := []) (ts := [0, 1, 4, 12, 13]) (nx := 1) (fun x : Nat => g_pt l c room xs (a : Int) (x : Nat) (j0 : Nat)) (fun x => Pt (fun x => x ≤ kE xs0 p) (fun x => kE xs0 p ≤ x) xs0 xs a (b1 + 1) (kE xs0 p) x j0) (fun x => b1 + 1 - x) ?_ (by kernel_rfl) i0 (by kernel_rfl) g
            intro i g
            have h1 := g.ai
            have h2 := g.ij
            have h3 := g.jb
            refine (t_lps I _ (fun _ => True) (fun _ => True) _ _ l c room xs (a : Int) (i : Nat) (j0 : Nat)).mpr (bsplit_both (fun hx => ?_) (fun hx => ?_))
            · have hx : (i : Int) ≤ (j0 : Int) := of_decide_eq_true hx
              refine cmpX hlen (by omega) (by omega) (by omega) (by omega) (fun hc => ?_) (fun hc => ?_)
              · simp only [Int.toNat_natCast] at hc
                exact ⟨i + 1, g.i1 (by omega) (by rw [g.pv] at hc; exact Int.le_of_lt hc), by omega, by rw [w_id (n := (i : Int) + 1) (by omega) (by omega)]; rfl⟩
              · simp only [Int.toNat_natCast] at hc
                refine ALoop.invg (ps := []) (ts := [0, 1, 4, 12, 13]) (nx := 1) (fun x : Nat => g_pt l c room xs (a : Int) (i : Nat) (x : Nat)) (fun x => Pt (fun x => x ≤ kE xs0 p) (fun x => kE xs0 p ≤ x) xs0 xs a (b1 + 1) (kE xs0 p) i x ∧ x ≤ j0) (fun x => x) ?_ (by kernel_rfl) j0 (by kernel_rfl) ⟨g, Nat.le_refl _⟩
                rintro j ⟨g, hj0⟩
                have h1 := g.ai
                have h2 := g.ij
                have h3 := g.jb
                refine (t_lpu I _ (fun _ => True) (fun _ => True) _ (fun _ => True) _ l c room xs (a : Int) (i : Nat) (j : Nat)).mpr (bsplit_both (fun hy => ?_) (fun hy => ?_))
                · have hy : (i : Int) ≤ (j : Int) := of_decide_eq_true hy
                  refine cmpN hlen (by omega) (by omega) (by omega) (by omega) (fun hd => ?_) (fun hd => ?_)
                  · simp only [Int.toNat_natCast] at hd
                    exact ⟨j - 1, ⟨g.j1 (by omega) (by rw [g.pv] at hd; exact hd), by omega⟩, by omega, by rw [show IntKind.i64.wrap ((j : Int) - 1) = ((j - 1 : Nat) : Int) by rw [w_id (by omega) (by omega)]; omega]; rfl⟩
                  · simp only [Int.toNat_natCast] at hd
                    refine bs_f (decide_eq_false (by omega)) ?_
                    refine swpX hlen hny (by omega) (by omega) (by omega) (by omega) fun e0 e1 => ?_
                    have hne2 : i ≠ j := fun e => by subst e; omega
                    refine ⟨(sw xs i j, i + 1, j - 1), g.sw (by omega) (by omega) (by rw [g.pv] at hc; exact hc) (by rw [g.pv] at hd; exact Int.le_of_lt hd), by show j - 1 < j0; omega, ?_⟩
                    rw [e0, e1, w_id (n := (i : Int) + 1) (by omega) (by omega), show IntKind.i64.wrap ((j : Int) - 1) = ((j - 1 : Nat) : Int) by rw [w_id (by omega) (by omega)]; omega]; rfl
                · have hy : ¬ (i : Int) ≤ (j : Int) := of_decide_eq_false hy
                  refine bs_t (decide_eq_true (by omega)) (swpX hlen hny (by omega) (by omega) (by omega) (by omega) fun e0 e1 => ?_)
                  refine ⟨[], nx, uniqE hb, trivial, rfl, rfl, ?_⟩
                  rw [e0, e1]
                  exact fin xs i j _ g (by omega)
            · have hx : ¬ (i : Int) ≤ (j0 : Int) := of_decide_eq_false hx
              refine ALoop.start [] [0, 1, 4, 12, 13] 1 (g_pt l c room xs (a : Int) (i : Nat) (j0 : Nat)) (by kernel_rfl) (by kernel_rfl) ?_
              refine ALoop.stepg [] [0, 1, 4, 12, 13] 1 ?_
              refine (t_lpu I _ (fun _ => True) (fun _ => True) _ (fun _ => True) _ l c room xs (a : Int) (i : Nat) (j0 : Nat)).mpr (bs_f (decide_eq_false (by omega)) (bs_t (decide_eq_true (by omega)) ?_))
              refine swpX hlen hny (by omega) (by omega) (by omega) (by omega) fun e0 e1 => ?_
              refine ⟨[], nx, uniqE hb, trivial, rfl, rfl, ?_⟩
              rw [e0, e1]
              exact fin xs i j0 _ g (by omega)
        · have hy : ¬ (i : Int) ≤ (j : Int) := of_decide_eq_false hy
          refine bs_t (decide_eq_true (by omega)) (swpX hlen hny (by omega) (by omega) (by omega) (by omega) fun e0 e1 => ?_)
          refine ⟨[], nx, uniqE hb, trivial, rfl, rfl, ?_⟩
          rw [e0, e1]
          exact fin xs i j _ g (by omega)
    · have hx : ¬ (i : Int) ≤ (b1 : Int) := of_decide_eq_false hx
      refine ALoop.start [] [0, 1, 4, 12, 13] 1 (g_pt l c room xs (a : Int) (i : Nat) (b1 : Nat)) (by kernel_rfl) (by kernel_rfl) ?_
      refine ALoop.stepg [] [0, 1, 4, 12, 13] 1 ?_
      refine (t_lpq I _ (fun _ => True) _ l c room xs (a : Int) (i : Nat) (b1 : Nat)).mpr (bs_f (decide_eq_false (by omega)) (bs_t (decide_eq_true (by omega)) ?_))
      refine swpX hlen hny (by omega) (by omega) (by omega) (by omega) fun e0 e1 => ?_
      refine ⟨[], nx, uniqE hb, trivial, rfl, rfl, ?_⟩
      rw [e0, e1]
      exact fin xs i b1 _ g (by omega)
  · exact h.elim
end Go.Tb.W

/- Claims: the library's sort: what is in order but for a few. -/
set_option linter.all false
set_option maxRecDepth 100000
set_option maxHeartbeats 2000000
namespace Go.Tb.W
open Go Go.Proofs
variable {I : Interp O}
theorem Ins.far {xs0 xs : List Rw} {a b i j k : Nat} (h : Ins xs0 xs a b i none) (hb : b ≤ xs.length) (hi : a ≤ i) (hj : i ≤ j) (hj' : j < b) (hk : i ≤ k) (hk' : k < b) : Ins xs0 (sw xs j k) a b i none :=
  ⟨h.pr.sw (by omega) hj' (by omega) hk' hb, fun p q h1 h2 h3 h4 => by
    rw [kE_sw (by omega) (by omega), kE_sw (by omega) (by omega), if_neg (by omega), if_neg (by omega), if_neg (by omega), if_neg (by omega)]
    exact h.so p q h1 h2 h3 h4⟩
theorem Ins.one {xs0 xs : List Rw} {a b i : Nat} (h : Ins xs0 xs a b i none) (hb : b ≤ xs.length) (hi : a + 1 ≤ i) (hib : i < b) : Ins xs0 (sw xs i (i - 1)) a b i (some (i - 1)) :=
  ⟨h.pr.sw (by omega) hib (by omega) (by omega) hb, fun p q h1 h2 h3 h4 => by
    have h4 : i - 1 ≠ q := fun e => h4 (by rw [e])
    rw [kE_sw (by omega) (by omega), kE_sw (by omega) (by omega), if_neg (by omega), if_neg (by omega), if_neg (by omega), if_neg (by omega)]
    exact h.so p q h1 h2 h3 (by simp)⟩
theorem Ins.more {xs0 xs : List Rw} {a b i : Nat} (h : Ins xs0 xs a b i none) (hi : a + 1 ≤ i) (k : kE xs (i - 1) ≤ kE xs i) : Ins xs0 xs a b (i + 1) none :=
  ⟨h.pr, fun p q h1 h2 h3 h4 => by
    by_cases e : q = i
    · subst e
      by_cases e2 : p = q - 1
      · rw [e2]; exact k
      · exact Int.le_trans (h.so p (q - 1) h1 (by omega) (by omega) (by simp)) k
    · exact h.so p q h1 h2 (by omega) h4⟩
theorem k_pins : ∀ (args : List AV) (hp : Tr (AO O)) (nx : Nat) (K : AV → Tr (AO O) → Nat → Prop), c_pins args hp nx K → ACall I P 35 args hp (fun v hp' => ∃ nx', K v hp' nx') := by
  intro args hp nx K h
  unfold c_pins at h; split at h
  · rename_i n l c a b
    obtain ⟨xs0, room, hb, hg, hl, h1000, hne, ⟨ha, hab, hbl, hle⟩, hk⟩ := isE_out h
    obtain ⟨a, rfl⟩ := Int.eq_ofNat_of_zero_le ha
    obtain ⟨b, rfl⟩ := Int.eq_ofNat_of_zero_le (Int.le_trans ha (Int.le_of_lt hab))
    simp only [Int.ofNat_eq_natCast, Int.toNat_natCast] at hk hle hab hbl ⊢
    refine hcallG mix gS3 (fn := Try.f35) (by kernel_rfl) (by kernel_rfl) (by kernel_rfl) [n] [eO xs0 room] [.sl 0 0 l c, .int .i64 (a : Int), .int .i64 (b : Int), fnO] rfl (uniqE hb) rfl ⟨hg, trivial⟩ rfl rfl (fun hr ho => (t_pins I _ l c room xs0 (a : Int) (b : Int)).mpr ?_)
    have lex : ∀ {xs i j}, Ins xs0 xs a b i j → 0 < a → kE xs (a - 1) ≤ kE xs a := fun g h0 => by
      obtain ⟨q, w1, w2, w3⟩ := g.pr.ki a (Nat.le_refl _) (by omega)
      rw [g.pr.ko (a - 1) (by omega), w3]
      exact hle (a - 1) q (by omega) w1 w2
    refine ALoop.start [] [0, 1, 2, 3, 9, 10] 1 (g_p1 l c room xs0 (a : Int) (b : Int) (IntKind.i64.wrap ((a : Int) + 1)) 0) (by kernel_rfl) (by kernel_rfl) ?_
    rw [w_id (n := (a : Int) + 1) (by omega) (by omega)]
    refine ALoop.invj (ps := []) (ts := [0, 1, 2, 3, 9, 10]) (nx := 1) (fun x : List Rw × Nat × Nat => g_p1 l c room x.1 (a : Int) (b : Int) (x.2.1 : Nat) (x.2.2 : Nat)) (fun x => Ins xs0 x.1 a b x.2.1 none ∧ a + 1 ≤ x.2.1 ∧ x.2.1 ≤ b) (fun x => 5 - x.2.2) ?_ (xs0, a + 1, 0) ⟨⟨PR.refl _ _ _, fun p q h1 h2 h3 _ => by
      have h3 : q < a + 1 := h3
      omega⟩, Nat.le_refl _, by show a + 1 ≤ b; omega⟩
    rintro ⟨xs, i0, j⟩ ⟨g, g1, g2⟩
    have g : Ins xs0 xs a b i0 none := g
    have g1 : a + 1 ≤ i0 := g1
    have g2 : i0 ≤ b := g2
    have hlen : l = xs.length := by rw [hl]; exact g.pr.len.symm
    have hny := hne.perm g.pr.pm
    refine (t_lp1 I _ _ l c room xs (a : Int) (b : Int) (i0 : Nat) (j : Nat)).mpr (bsplit_both (fun hj => ?_) (fun hj => ?_))
    · have hj : (j : Int) < 5 := of_decide_eq_true hj
      have nxt : ∀ (ys : List Rw) (i : Nat), Ins xs0 ys a b i none → a + 1 ≤ i → i ≤ b → ∃ y : List Rw × Nat × Nat, (Ins xs0 y.1 a b y.2.1 none ∧ a + 1 ≤ y.2.1 ∧ y.2.1 ≤ b) ∧ 5 - y.2.2 < 5 - j ∧ g_p1 l c room ys (a : Int) (b : Int) (i : Nat) (IntKind.i64.wrap ((j : Int) + 1)) = g_p1 l c room y.1 (a : Int) (b : Int) (y.2.1 : Nat) (y.2.2 : Nat) := fun ys i w w1 w2 =>
        ⟨(ys, i, j + 1), ⟨w, w1, w2⟩, by show 5 - (j + 1) < 5 - j; omega, by rw [w_id (n := (j : Int) + 1) (by omega) (by omega)]; rfl⟩
      refine ALoop.invg (ps := []) (ts := [0, 1, 2, 3, 9, 10]) (nx := 1) (fun x : Nat => g_p1 l c room xs (a : Int) (b : Int) (x : Nat) (j : Nat)) (fun x => Ins xs0 xs a b x none ∧ a + 1 ≤ x ∧ x ≤ b) (fun x => b - x) ?_ (by kernel_rfl) i0 (by kernel_rfl) ⟨g, g1, g2⟩
      clear g g1 g2
      rintro i ⟨g, g1, g2⟩
      have e1 : IntKind.i64.wrap ((i : Int) - 1) = ((i - 1 : Nat) : Int) := by rw [w_id (by omega) (by omega)]; omega
      refine (t_lp2 I _ _ _ l c room xs (a : Int) (b : Int) (i : Nat) (j : Nat)).mpr (bsplit_both (fun hx => ?_) (fun hx => ?_))
      · have hx : (i : Int) < (b : Int) := of_decide_eq_true hx
        rw [e1]
        refine cmpN hlen (by omega) (by omega) (by omega) (by omega) (fun hc => ?_) (fun hc => ?_)
        · simp only [Int.toNat_natCast] at hc
          exact ⟨i + 1, ⟨g.more g1 hc, by omega, by omega⟩, by omega, by rw [w_id (n := (i : Int) + 1) (by omega) (by omega)]; rfl⟩
        · simp only [Int.toNat_natCast] at hc
          refine bs_f (by rw [beq_eq_false_iff_ne]; omega) (bsplit_both (fun h50 => ?_) (fun h50 => ?_))
          · exact ⟨[], nx, uniqE hb, trivial, rfl, rfl, hk xs false g.pr (fun e => by cases e)⟩
          · refine swpX hlen hny (by omega) (by omega) (by omega) (by omega) fun e0 e1 => ?_
            rw [e0, e1]
            clear e0 e1
            simp only [Int.toNat_natCast]
            have w := g.one (by omega) g1 (by omega)
            have hzl : b ≤ (sw xs i (i - 1)).length := by rw [w.pr.len]; omega
            show bsplit _ _
            generalize hz : (xs.set i (gE xs (i - 1))).set (i - 1) (gE xs i) = zs
            have hz : sw xs i (i - 1) = zs := hz
            rw [hz] at w hzl
            refine bsplit_both (fun h2 => ?_) (fun h2 => ?_)
            · refine ALoop.start [] [0, 1, 2, 3, 9, 10, 11] 1 (g_p3 l c room zs (a : Int) (b : Int) (i : Nat) (j : Nat) ((i - 1 : Nat) : Int)) (by kernel_rfl) (by kernel_rfl) ?_
              refine ALoop.invj (ps := []) (ts := [0, 1, 2, 3, 9, 10, 11]) (nx := 1) (fun x : List Rw × Nat => g_p3 l c room x.1 (a : Int) (b : Int) (i : Nat) (j : Nat) (x.2 : Nat)) (fun x => Ins xs0 x.1 a b i (some x.2) ∧ a ≤ x.2 ∧ x.2 < i) (fun x => x.2) ?_ (zs, i - 1) ⟨w, by show a ≤ i - 1; omega, by show i - 1 < i; omega⟩
              clear w hzl
              rintro ⟨ys, k⟩ ⟨w, w1, w2⟩
              have w : Ins xs0 ys a b i (some k) := w
              have w1 : a ≤ k := w1
              have w2 : k < i := w2
              have hyl : l = ys.length := by rw [hl]; exact w.pr.len.symm
              have hyn := hne.perm w.pr.pm
              refine (t_lp3 I _ _ (fun _ => True) _ l c room ys (a : Int) (b : Int) (i : Nat) (j : Nat) (k : Nat)).mpr (bsplit_both (fun hk1 => ?_) (fun hk1 => ?_))
              · have hk1 : (k : Int) ≥ 1 := of_decide_eq_true hk1
                rw [show IntKind.i64.wrap ((k : Int) - 1) = ((k - 1 : Nat) : Int) by rw [w_id (by omega) (by omega)]; omega]
                refine cmpN hyl (by omega) (by omega) (by omega) (by omega) (fun hd => ?_) (fun hd => ?_)
                · simp only [Int.toNat_natCast] at hd
                  have w3 := w.stop (.inr hd)
                  refine bsplit_both (fun h3 => ?_) (fun h3 => nxt ys i w3 g1 g2)
                  refine ALoop.start [] [0, 1, 2, 3, 9, 10, 12] 1 (g_p4 l c room ys (a : Int) (b : Int) (i : Nat) (j : Nat) (IntKind.i64.wrap ((i : Int) + 1))) (by kernel_rfl) (by kernel_rfl) ?_
                  rw [w_id (n := (i : Int) + 1) (by omega) (by omega)]
                  refine ALoop.invj (ps := []) (ts := [0, 1, 2, 3, 9, 10, 12]) (nx := 1) (fun x : List Rw × Nat => g_p4 l c room x.1 (a : Int) (b : Int) (i : Nat) (j : Nat) (x.2 : Nat)) (fun x => Ins xs0 x.1 a b i none ∧ i + 1 ≤ x.2) (fun x => b - x.2) ?_ (ys, i + 1) ⟨w3, Nat.le_refl _⟩
                  clear w w1 w2 hyl hyn hd w3 hk1
                  rintro ⟨ys, k⟩ ⟨w, w1⟩
                  have w : Ins xs0 ys a b i none := w
                  have w1 : i + 1 ≤ k := w1
                  have hyl : l = ys.length := by rw [hl]; exact w.pr.len.symm
                  have hyn := hne.perm w.pr.pm
                  refine (t_lp4 I _ _ (fun _ => True) _ l c room ys (a : Int) (b : Int) (i : Nat) (j : Nat) (k : Nat)).mpr (bsplit_both (fun hk1 => ?_) (fun hk1 => nxt ys i w g1 g2))
                  have hk1 : (k : Int) < (b : Int) := of_decide_eq_true hk1
                  rw [show IntKind.i64.wrap ((k : Int) - 1) = ((k - 1 : Nat) : Int) by rw [w_id (by omega) (by omega)]; omega]
                  refine cmpN hyl (by omega) (by omega) (by omega) (by omega) (fun hd => nxt ys i w g1 g2) (fun hd => ?_)
                  refine swpX hyl hyn (by omega) (by omega) (by omega) (by omega) fun e0 e1 => ?_
                  exact ⟨(sw ys k (k - 1), k + 1), ⟨w.far (by omega) (by omega) (by omega) (by omega) (by omega) (by omega), by show i + 1 ≤ k + 1; omega⟩, by show b - (k + 1) < b - k; omega, by rw [e0, e1, w_id (n := (k : Int) + 1) (by omega) (by omega)]; rfl⟩
                · simp only [Int.toNat_natCast] at hd
                  have hak : a < k := by
                    rcases Nat.lt_or_ge a k with h | h
                    · exact h
                    · obtain rfl : k = a := by omega
                      have := lex w (by omega)
                      omega
                  refine swpX hyl hyn (by omega) (by omega) (by omega) (by omega) fun e0 e1 => ?_
                  have w4 : Ins xs0 (sw ys k (k - 1)) a b i (some (k - 1)) := by
                    obtain ⟨k', rfl⟩ : ∃ k', k = k' + 1 := ⟨k - 1, by omega⟩
                    exact w.swap (by omega) (by omega) (by omega) w2 hd
                  exact ⟨(sw ys k (k - 1), k - 1), ⟨w4, by show a ≤ k - 1; omega, by show k - 1 < i; omega⟩, by show k - 1 < k; omega, by rw [e0, e1]; rfl⟩
              · have hk1 : ¬ (k : Int) ≥ 1 := of_decide_eq_false hk1
                have w3 := w.stop (.inl (by omega))
                refine bsplit_both (fun h3 => ?_) (fun h3 => nxt ys i w3 g1 g2)
                refine ALoop.start [] [0, 1, 2, 3, 9, 10, 12] 1 (g_p4 l c room ys (a : Int) (b : Int) (i : Nat) (j : Nat) (IntKind.i64.wrap ((i : Int) + 1))) (by kernel_rfl) (by kernel_rfl) ?_
                rw [w_id (n := (i : Int) + 1) (by omega) (by omega)]
                refine ALoop.invj (ps := []) (ts := [0, 1, 2, 3, 9, 10, 12]) (nx := 1) (fun x : List Rw × Nat => g_p4 l c room x.1 (a : Int) (b : Int) (i : Nat) (j : Nat) (x.2 : Nat)) (fun x => Ins xs0 x.1 a b i none ∧ i + 1 ≤ x.2) (fun x => b - x.2) ?_ (ys, i + 1) ⟨w3, Nat.le_refl _⟩
                clear w w1 w2 hyl hyn w3 hk1
                rintro ⟨ys, k⟩ ⟨w, w1⟩
                have w : Ins xs0 ys a b i none := w
                have w1 : i + 1 ≤ k := w1
                have hyl : l = ys.length := by rw [hl]; exact w.pr.len.symm
                have hyn := hne.perm w.pr.pm
                refine (t_lp4 I _ _ (fun _ => True) _ l c room ys (a : Int) (b : Int) (i : Nat) (j : Nat) (k : Nat)).mpr (bsplit_both (fun hk1 => ?_) (fun hk1 => nxt ys i w g1 g2))
                have hk1 : (k : Int) < (b : Int) := of_decide_eq_true hk1
                rw [show IntKind.i64.wrap ((k : Int) - 1) = ((k - 1 : Nat) : Int) by rw [w_id (by omega) (by omega)]; omega]
                refine cmpN hyl (by omega) (by omega) (by omega) (by omega) (fun hd => nxt ys i w g1 g2) (fun hd => ?_)
                refine swpX hyl hyn (by omega) (by omega) (by omega) (by omega) fun e0 e1 => ?_
                exact ⟨(sw ys k (k - 1), k + 1), ⟨w.far (by omega) (by omega) (by omega) (by omega) (by omega) (by omega), by show i + 1 ≤ k + 1; omega⟩, by show b - (k + 1) < b - k; omega, by rw [e0, e1, w_id (n := (k : Int) + 1) (by omega) (by omega)]; rfl⟩
            · have h2 := of_decide_eq_false h2
              rw [w_id (by omega) (by omega)] at h2
              have w3 := w.stop (.inl (by omega))
              refine bsplit_both (fun h3 => ?_) (fun h3 => nxt zs i w3 g1 g2)
              refine ALoop.start [] [0, 1, 2, 3, 9, 10, 12] 1 (g_p4 l c room zs (a : Int) (b : Int) (i : Nat) (j : Nat) (IntKind.i64.wrap ((i : Int) + 1))) (by kernel_rfl) (by kernel_rfl) ?_
              rw [w_id (n := (i : Int) + 1) (by omega) (by omega)]
              refine ALoop.invj (ps := []) (ts := [0, 1, 2, 3, 9, 10, 12]) (nx := 1) (fun x : List Rw × Nat => g_p4 l c room x.1 (a : Int) (b : Int) (i : Nat) (j : Nat) (x.2 : Nat)) (fun x => Ins xs0 x.1 a b i none ∧ i + 1 ≤ x.2) (fun x => b - x.2) ?_ (zs, i + 1) ⟨w3, Nat.le_refl _⟩
              rintro ⟨ys, k⟩ ⟨w, w1⟩
              have w : Ins xs0 ys a b i none := w
              have w1 : i + 1 ≤ k := w1
              have hyl : l = ys.length := by rw [hl]; exact w.pr.len.symm
              have hyn := hne.perm w.pr.pm
              refine (t_lp4 I _ _ (fun _ => True) _ l c room ys (a : Int) (b : Int) (i : Nat) (j : Nat) (k : Nat)).mpr (bsplit_both (fun hk1 => ?_) (fun hk1 => nxt ys i w g1 g2))
              have hk1 : (k : Int) < (b : Int) := of_decide_eq_true hk1
              rw [show IntKind.i64.wrap ((k : Int) - 1) = ((k - 1 : Nat) : Int) by rw [w_id (by omega) (by omega)]; omega]
              refine cmpN hyl (by omega) (by omega) (by omega) (by omega) (fun hd => nxt ys i w g1 g2) (fun hd => ?_)
              refine swpX hyl hyn (by omega) (by omega) (by omega) (by omega) fun e0 e1 => ?_
              exact ⟨(sw ys k (k - 1), k + 1), ⟨w.far (by omega) (by omega) (by omega) (by omega) (by omega) (by omega), by show i + 1 ≤ k + 1; omega⟩, by show b - (k + 1) < b - k; omega, by rw [e0, e1, w_id (n := (k : Int) + 1) (by omega) (by omega)]; rfl⟩
      · have hx : ¬ (i : Int) < (b : Int) := of_decide_eq_false hx
        refine bs_t (by rw [beq_iff_eq]; omega) ?_
        exact ⟨[], nx, uniqE hb, trivial, rfl, rfl, hk xs true g.pr (fun _ p q h1 h2 h3 => g.so p q h1 h2 (by omega) (by simp))⟩
    · exact ⟨[], nx, uniqE hb, trivial, rfl, rfl, hk xs false g.pr (fun e => by cases e)⟩
  · exact h.elim
end Go.Tb.W

/- Claims: the library's sort: which one to part by, and patterns broken. -/
set_option linter.all false
set_option maxRecDepth 100000
set_option maxHeartbeats 2000000
namespace Go.Tb.W
open Go Go.Proofs
variable {I : Interp O}
theorem isW_out {hp : Tr (AO O)} {n m : Nat} {K : Int → Prop} (h : isW hp n m K) : ∃ s, both n m = true ∧ hp.get m = some (wO s) ∧ K s := by
  unfold isW at h; split at h
  · rename_i s hb hg
    exact ⟨s, hb, hg, h⟩
  · exact h.elim
theorem k_ord2 : ∀ (args : List AV) (hp : Tr (AO O)) (nx : Nat) (K : AV → Tr (AO O) → Nat → Prop), c_ord2 args hp nx K → ACall I P 59 args hp (fun v hp' => ∃ nx', K v hp' nx') := by
  intro args hp nx K h
  unfold c_ord2 at h; split at h
  · rename_i n l c a b m
    obtain ⟨xs, room, hb, hg, hl, h1000, hne, h⟩ := isE_out h
    obtain ⟨s, hbm, hgm, ⟨⟨ha, ha'⟩, ⟨hb1, hb2⟩, hs, hs'⟩, hk1, hk2⟩ := isW_out h
    have hu := (both_iff hbm).1
    refine hcallG mix gS3 (fn := Try.f59) (by kernel_rfl) (by kernel_rfl) (by kernel_rfl) [n, m] [eO xs room, wO s] [.sl 0 0 l c, .int .i64 a, .int .i64 b, .ptr 1 0, fnO] rfl hu rfl ⟨hg, hgm, trivial⟩ rfl rfl (fun hr ho => (t_ord2 I _ l c room xs a b s).mpr ?_)
    refine cmpX hl (by omega) (by omega) (by omega) (by omega) (fun hc => ?_) (fun hc => ?_)
    · rw [w_id (n := s + 1) (by omega) (by omega)]
      exact ⟨[], nx, hu, trivial, rfl, rfl, hk2⟩
    · exact ⟨[], nx, hu, trivial, rfl, rfl, hk1⟩
  · exact h.elim
theorem gU1 : GOk I P (Gm U1) := Gm.consH gS3 k_ord2
theorem k_med : ∀ (args : List AV) (hp : Tr (AO O)) (nx : Nat) (K : AV → Tr (AO O) → Nat → Prop), c_med args hp nx K → ACall I P 54 args hp (fun v hp' => ∃ nx', K v hp' nx') := by
  intro args hp nx K h
  unfold c_med at h; split at h
  · rename_i n l c a b d m
    obtain ⟨xs, room, hb, hg, hl, h1000, hne, h⟩ := isE_out h
    obtain ⟨s, hbm, hgm, ⟨⟨ha, ha'⟩, ⟨hb1, hb2⟩, ⟨hd, hd'⟩, hs, hs'⟩, hk⟩ := isW_out h
    have hu := (both_iff hbm).1
    refine hcallG mix gU1 (fn := Try.f54) (by kernel_rfl) (by kernel_rfl) (by kernel_rfl) [n, m] [eO xs room, wO s] [.sl 0 0 l c, .int .i64 a, .int .i64 b, .int .i64 d, .ptr 1 0, fnO] rfl hu rfl ⟨hg, hgm, trivial⟩ rfl rfl (fun hr ho => (t_med I _ l c room xs a b d s).mpr ?_)
    have hh : (l = xs.length) ∧ ((l ≤ (1000 : Nat)) ∧ (NE xs)) := ⟨hl, h1000, hne⟩
    have go : ∀ r s' : Int, (r = a ∨ r = b ∨ r = d) → s ≤ s' → s' ≤ s + 3 → AllBack hp [n, m] K (.int .i64 r) (Tr.ofList 0 [eO xs room, wO s'] .leaf) := fun r s' h1 h2 h3 => ⟨[], nx, hu, trivial, rfl, rfl, hk r s' h1 h2 h3⟩
    refine ⟨hh, ⟨⟨ha, ha'⟩, ⟨hb1, hb2⟩, hs, by omega⟩, ⟨hh, ⟨⟨hb1, hb2⟩, ⟨hd, hd'⟩, hs, by omega⟩, ⟨hh, ⟨⟨ha, ha'⟩, ⟨hb1, hb2⟩, hs, by omega⟩, go b s (.inr (.inl rfl)) (by omega) (by omega), go a (s + 1) (.inl rfl) (by omega) (by omega)⟩, ⟨hh, ⟨⟨ha, ha'⟩, ⟨hd, hd'⟩, by omega, by omega⟩, go d (s + 1) (.inr (.inr rfl)) (by omega) (by omega), go a (s + 1 + 1) (.inl rfl) (by omega) (by omega)⟩⟩,
      ⟨hh, ⟨⟨ha, ha'⟩, ⟨hd, hd'⟩, by omega, by omega⟩, ⟨hh, ⟨⟨hb1, hb2⟩, ⟨ha, ha'⟩, by omega, by omega⟩, go a (s + 1) (.inl rfl) (by omega) (by omega), go b (s + 1 + 1) (.inr (.inl rfl)) (by omega) (by omega)⟩, ⟨hh, ⟨⟨hb1, hb2⟩, ⟨hd, hd'⟩, by omega, by omega⟩, go d (s + 1 + 1) (.inr (.inr rfl)) (by omega) (by omega), go b (s + 1 + 1 + 1) (.inr (.inl rfl)) (by omega) (by omega)⟩⟩⟩
  · exact h.elim
theorem gU2 : GOk I P (Gm U2) := Gm.consH gU1 k_med
theorem k_madj : ∀ (args : List AV) (hp : Tr (AO O)) (nx : Nat) (K : AV → Tr (AO O) → Nat → Prop), c_madj args hp nx K → ACall I P 53 args hp (fun v hp' => ∃ nx', K v hp' nx') := by
  intro args hp nx K h
  unfold c_madj at h; split at h
  · rename_i n l c a m
    obtain ⟨xs, room, hb, hg, hl, h1000, hne, h⟩ := isE_out h
    obtain ⟨s, hbm, hgm, ⟨⟨ha, ha'⟩, hs, hs'⟩, hk⟩ := isW_out h
    have hu := (both_iff hbm).1
    refine hcallG mix gU2 (fn := Try.f53) (by kernel_rfl) (by kernel_rfl) (by kernel_rfl) [n, m] [eO xs room, wO s] [.sl 0 0 l c, .int .i64 a, .ptr 1 0, fnO] rfl hu rfl ⟨hg, hgm, trivial⟩ rfl rfl (fun hr ho => (t_madj I _ l c room xs a s).mpr ?_)
    rw [w_id (n := a - 1) (by omega) (by omega), w_id (n := a + 1) (by omega) (by omega)]
    exact ⟨⟨hl, h1000, hne⟩, ⟨⟨by omega, by omega⟩, ⟨by omega, by omega⟩, ⟨by omega, by omega⟩, hs, hs'⟩, fun r s' h1 h2 h3 => ⟨[], nx, hu, trivial, rfl, rfl, hk r s' (by omega) (by omega) h2 h3⟩⟩
  · exact h.elim
theorem gU3 : GOk I P (Gm U3) := Gm.consH gU2 k_madj
theorem k_choose : ∀ (args : List AV) (hp : Tr (AO O)) (nx : Nat) (K : AV → Tr (AO O) → Nat → Prop), c_choose args hp nx K → ACall I P 33 args hp (fun v hp' => ∃ nx', K v hp' nx') := by
  intro args hp nx K h
  unfold c_choose at h; split at h
  · rename_i n l c a b
    obtain ⟨xs, room, hb, hg, hl, h1000, hne, ⟨ha, hab, hbl⟩, hk⟩ := isE_out h
    refine hcallG mix gU3 (fn := Try.f33) (by kernel_rfl) (by kernel_rfl) (by kernel_rfl) [n] [eO xs room] [.sl 0 0 l c, .int .i64 a, .int .i64 b, fnO] rfl (uniqE hb) rfl ⟨hg, trivial⟩ rfl rfl (fun hr ho => (t_choose I _ l c room xs a b).mpr ?_)
    have hh : (l = xs.length) ∧ ((l ≤ (1000 : Nat)) ∧ (NE xs)) := ⟨hl, h1000, hne⟩
    obtain ⟨q, hq, q1, q2⟩ : ∃ q : Int, (b - a).tdiv 4 = q ∧ 3 ≤ q ∧ 4 * q ≤ b - a := ⟨(b - a) / 4, Int.tdiv_eq_ediv_of_nonneg (by omega), by omega, by omega⟩
    rw [w_id (n := b - a) (by omega) (by omega), hq, w_id (n := q) (by omega) (by omega), w_id (n := q * 1) (by omega) (by omega), w_id (n := q * 2) (by omega) (by omega), w_id (n := q * 3) (by omega) (by omega),
      w_id (n := a + q * 1) (by omega) (by omega), w_id (n := a + q * 2) (by omega) (by omega), w_id (n := a + q * 3) (by omega) (by omega)]
    have go : ∀ (j h s : Int), a ≤ j → j < b → AllBack hp [n] K (.tup [.int .i64 j, .int .i64 h]) (Tr.ofList 0 [eO xs room, wO s] .leaf) := fun j h s h1 h2 => ⟨[], nx, uniqE hb, trivial, rfl, rfl, hk j h h1 h2⟩
    refine bsplit_both (fun h8 => bsplit_both (fun h50 => ?_) (fun h50 => ?_)) (fun h8 => ?_)
    · have h50 := of_decide_eq_true h50
      refine ⟨hh, ⟨⟨by omega, by omega⟩, by omega, by omega⟩, fun r0 s1 e1 e2 e3 e4 => ⟨hh, ⟨⟨by omega, by omega⟩, by omega, by omega⟩, fun r2 s3 e5 e6 e7 e8 => ⟨hh, ⟨⟨by omega, by omega⟩, by omega, by omega⟩, fun r4 s5 e9 e10 e11 e12 =>
        ⟨hh, ⟨⟨by omega, by omega⟩, ⟨by omega, by omega⟩, ⟨by omega, by omega⟩, by omega, by omega⟩, fun r6 s7 e13 e14 e15 => bsplit_both (fun _ => go r6 1 s7 (by omega) (by omega)) (fun _ => bsplit_both (fun _ => go r6 2 s7 (by omega) (by omega)) (fun _ => go r6 0 s7 (by omega) (by omega)))⟩⟩⟩⟩
    · refine ⟨hh, ⟨⟨by omega, by omega⟩, ⟨by omega, by omega⟩, ⟨by omega, by omega⟩, by omega, by omega⟩, fun r6 s7 e13 e14 e15 => bsplit_both (fun _ => go r6 1 s7 (by omega) (by omega)) (fun _ => bsplit_both (fun _ => go r6 2 s7 (by omega) (by omega)) (fun _ => go r6 0 s7 (by omega) (by omega)))⟩
    · exact go (a + q * 2) 1 0 (by omega) (by omega)
  · exact h.elim
theorem k_xnext : ∀ (args : List AV) (hp : Tr (AO O)) (nx : Nat) (K : AV → Tr (AO O) → Nat → Prop), c_xnext args hp nx K → ACall I P 52 args hp (fun v hp' => ∃ nx', K v hp' nx') := by
  intro args hp nx K h
  unfold c_xnext at h; split at h
  · rename_i m
    split at h
    · rename_i r hb hg
      refine hcallG mix Gm.nil (fn := Try.f52) (by kernel_rfl) (by kernel_rfl) (by kernel_rfl) [m] [xO r] [.ptr 0 0] rfl (uniqE hb) rfl ⟨hg, trivial⟩ rfl rfl (fun hr ho => (t_xnext I _ r).mpr ?_)
      have go : ∀ r' : Int, AllBack hp [m] K (.int .u64 r') (Tr.ofList 0 [xO r'] .leaf) := fun r' => ⟨[], nx, uniqE hb, trivial, rfl, rfl, h r'⟩
      repeat' (first | exact go _ | apply And.intro)
    · exact h.elim
  · exact h.elim
theorem bitLen_two : ∀ n, n ≤ 1000 → Lib.bitLen n ≤ 10 ∧ (1 ≤ n → 2 ^ Lib.bitLen n ≤ 2 * n) := by
  intro n hn
  have : ∀ m : Fin 1001, Lib.bitLen m.1 ≤ 10 ∧ (1 ≤ m.1 → 2 ^ Lib.bitLen m.1 ≤ 2 * m.1) := by decide
  exact this ⟨n, by omega⟩
theorem k_blenX : ∀ (args : List AV) (K : AV → Prop), c_blenX args K → ∀ hp, ACall I P 26 args hp (fun v hp' => K v ∧ hp' = hp) := by
  intro args K h hp
  unfold c_blenX at h; split at h
  · rename_i n
    obtain ⟨⟨h0, h1⟩, hk⟩ := h
    refine ⟨callable (fn := Try.f26) (by kernel_rfl) (by kernel_rfl) (by kernel_rfl), fun ρ fp w args' hs hd => ?_⟩
    cases hd with
    | cons hv ht =>
    cases ht
    cases hv
    have hl := bitLen_two n.toNat (by omega)
    refine (Any.bits_Len Try.bitsLen n w h0 (by omega)).mono fun e w' he => ?_
    obtain ⟨rfl, rfl⟩ := he
    have hb := hl.1
    exact ⟨.int .i64 (Lib.bitLen n.toNat), hp, ρ, fp, _, ⟨hk _ (by omega) (by omega) (fun hn => by
      have := hl.2 (by omega)
      show (2 : Int) ^ (Lib.bitLen n.toNat) ≤ 2 * n
      have h2 : ((2 ^ Lib.bitLen n.toNat : Nat) : Int) ≤ ((2 * n.toNat : Nat) : Int) := Int.ofNat_le.2 this
      rw [Int.natCast_pow] at h2
      have h3 : ((2 * n.toNat : Nat) : Int) = 2 * n := by omega
      rw [h3] at h2
      exact h2), rfl⟩, rfl, .int _ _ (by simp [inK_iff, loK, hiK]; omega), hs, Since.refl _ ρ fp⟩
  · exact h.elim
theorem gU4 : GOk I P (Gm U4) := Gm.consP gS3 k_blenX
theorem k_npot : ∀ (args : List AV) (K : AV → Prop), c_npot args K → ∀ hp, ACall I P 51 args hp (fun v hp' => K v ∧ hp' = hp) := by
  intro args K h hp
  unfold c_npot at h; split at h
  · rename_i n
    obtain ⟨⟨h0, h1⟩, hk⟩ := h
    refine pcall mix gU4 (fn := Try.f51) (by kernel_rfl) (by kernel_rfl) (by kernel_rfl) rfl rfl (fun hr => (t_npot I (fun v => K v ∧ cl v = true) n).mpr ?_) hp
    rw [s_u64 (n := n) (by omega)]
    refine ⟨⟨by omega, by omega⟩, fun r r0 r1 r2 => must_mk (decide_eq_true r0) ⟨?_, rfl⟩⟩
    have h2 : p2 r ≤ 2 * n := r2 (by omega)
    have hm : min r.toNat IntKind.u64.bits = r.toNat := Nat.min_eq_left (by show r.toNat ≤ 64; omega)
    have h3 : (1 : Int) ≤ p2 r := by
      show (1 : Int) ≤ 2 ^ r.toNat
      have := Nat.two_pow_pos r.toNat
      have h2 : ((1 : Nat) : Int) ≤ ((2 ^ r.toNat : Nat) : Int) := Int.ofNat_le.2 this
      rw [Int.natCast_pow] at h2
      exact h2
    rw [hm, show (1 : Int) * 2 ^ r.toNat = p2 r by rw [Int.one_mul]; rfl, s_u64 (by omega)]
    exact hk _ h3 h2
  · exact h.elim
theorem gU5 : GOk I P (Gm U5) := Gm.consP (Gm.consH gU4 k_xnext) k_npot
theorem and_top (x y : Int) (h : 0 ≤ y ∧ y ≤ 18446744073709551615) : 0 ≤ bits BinOp.and IntKind.u64 x y ∧ bits BinOp.and IntKind.u64 x y ≤ y := by
  have e : (BitVec.ofInt 64 x &&& BitVec.ofInt 64 y).toNat ≤ y.toNat := by
    rw [BitVec.toNat_and, BitVec.toNat_ofInt, BitVec.toNat_ofInt]
    refine Nat.le_trans Nat.and_le_right ?_
    have : y % ((2 ^ 64 : Nat) : Int) = y := by
      show y % 18446744073709551616 = y
      omega
    rw [this]; exact Nat.le_refl _
  have e2 : bits BinOp.and IntKind.u64 x y = IntKind.u64.wrap (((BitVec.ofInt 64 x &&& BitVec.ofInt 64 y).toNat : Nat) : Int) := rfl
  rw [e2, s_u64 (by omega)]
  omega
theorem k_break : ∀ (args : List AV) (hp : Tr (AO O)) (nx : Nat) (K : AV → Tr (AO O) → Nat → Prop), c_break args hp nx K → ACall I P 32 args hp (fun v hp' => ∃ nx', K v hp' nx') := by
  intro args hp nx K h
  unfold c_break at h; split at h
  · rename_i n l c a b
    obtain ⟨xs0, room, hb, hg, hl, h1000, hne, ⟨ha, hab, hbl⟩, hk⟩ := isE_out h
    obtain ⟨a, rfl⟩ := Int.eq_ofNat_of_zero_le ha
    obtain ⟨b, rfl⟩ := Int.eq_ofNat_of_zero_le (Int.le_trans ha hab)
    simp only [Int.ofNat_eq_natCast, Int.toNat_natCast] at hk ⊢
    refine hcallG mix gU5 (fn := Try.f32) (by kernel_rfl) (by kernel_rfl) (by kernel_rfl) [n] [eO xs0 room] [.sl 0 0 l c, .int .i64 (a : Int), .int .i64 (b : Int), fnO] rfl (uniqE hb) rfl ⟨hg, trivial⟩ rfl rfl (fun hr ho => (t_brk I _ l c room xs0 (a : Int) (b : Int)).mpr ?_)
    obtain ⟨z, hz⟩ : ∃ z : Nat, b = a + z := ⟨b - a, by omega⟩
    subst hz
    have ez : IntKind.i64.wrap (((a + z : Nat) : Int) - (a : Int)) = (z : Nat) := by rw [w_id (by omega) (by omega)]; omega
    rw [ez]
    refine bsplit_both (fun h8 => ?_) (fun h8 => ⟨[], nx, uniqE hb, trivial, rfl, rfl, hk xs0 (PR.refl _ _ _)⟩)
    have h8 : (z : Int) ≥ 8 := of_decide_eq_true h8
    refine ⟨⟨by omega, by omega⟩, fun md m1 m2 => ?_⟩
    obtain ⟨q, hq, q1, q2⟩ : ∃ q : Nat, (z : Int).tdiv 4 = (q : Nat) ∧ 2 ≤ q ∧ 4 * q ≤ z := ⟨z / 4, by rw [Int.tdiv_eq_ediv_of_nonneg (by omega)]; omega, by omega, by omega⟩
    refine ALoop.start [(1, 1)] [0, 1, 8, 9, 10, 11] 2 (g_bk l c room xs0 (a : Int) (z : Int) md (IntKind.i64.wrap (IntKind.i64.wrap ((a : Int) + IntKind.i64.wrap (IntKind.i64.wrap ((z : Int).tdiv 4) * 2)) - 1)) (IntKind.u64.wrap (z : Int))) (by kernel_rfl) (by kernel_rfl) ?_
    rw [hq, w_id (n := (q : Int)) (by omega) (by omega), w_id (n := (q : Int) * 2) (by omega) (by omega), w_id (n := (a : Int) + (q : Int) * 2) (by omega) (by omega), w_id (n := (a : Int) + (q : Int) * 2 - 1) (by omega) (by omega)]
    refine ALoop.invj (ps := [(1, 1)]) (ts := [0, 1, 8, 9, 10, 11]) (nx := 2) (fun x : List Rw × Int × Int => g_bk l c room x.1 (a : Int) (z : Int) md x.2.1 x.2.2) (fun x => PR xs0 x.1 a (a + z) ∧ (a : Int) ≤ x.2.1) (fun x => ((a : Int) + q * 2 + 2 - x.2.1).toNat) ?_ (xs0, (a : Int) + (q : Int) * 2 - 1, IntKind.u64.wrap (z : Int)) ⟨PR.refl _ _ _, by show (a : Int) ≤ (a : Int) + (q : Int) * 2 - 1; omega⟩
    rintro ⟨xs, x, r⟩ ⟨g, g1⟩
    have g : PR xs0 xs a (a + z) := g
    have g1 : (a : Int) ≤ x := g1
    have hlen : l = xs.length := by rw [hl]; exact g.len.symm
    have hny := hne.perm g.pm
    refine (t_lbk I _ _ l c room xs (a : Int) (z : Int) md x r).mpr ?_
    rw [hq, w_id (n := (q : Int)) (by omega) (by omega), w_id (n := (q : Int) * 2) (by omega) (by omega), w_id (n := (a : Int) + (q : Int) * 2) (by omega) (by omega), w_id (n := (a : Int) + (q : Int) * 2 + 1) (by omega) (by omega), s_u64 (n := md - 1) (by omega)]
    refine bsplit_both (fun hx => ?_) (fun hx => ⟨[], nx, uniqE hb, trivial, rfl, rfl, hk xs g⟩)
    have hx : x ≤ (a : Int) + (q : Int) * 2 + 1 := of_decide_eq_true hx
    intro r'
    obtain ⟨o1, o2⟩ := and_top r' (md - 1) (by omega)
    generalize bits BinOp.and IntKind.u64 r' (md - 1) = o at o1 o2 ⊢
    rw [w_id (n := o) (by omega) (by omega)]
    have go : ∀ t : Int, 0 ≤ t → t < z → ∃ y : List Rw × Int × Int, (PR xs0 y.1 a (a + z) ∧ (a : Int) ≤ y.2.1) ∧ ((a : Int) + q * 2 + 2 - y.2.1).toNat < ((a : Int) + q * 2 + 2 - x).toNat ∧ g_bk l c room (sw xs x.toNat ((a : Int) + t).toNat) (a : Int) (z : Int) md (IntKind.i64.wrap (x + 1)) r' = g_bk l c room y.1 (a : Int) (z : Int) md y.2.1 y.2.2 := fun t t1 t2 =>
      ⟨(sw xs x.toNat ((a : Int) + t).toNat, x + 1, r'), ⟨g.sw (by omega) (by omega) (by omega) (by omega) (by omega), by show (a : Int) ≤ x + 1; omega⟩, by show ((a : Int) + q * 2 + 2 - (x + 1)).toNat < ((a : Int) + q * 2 + 2 - x).toNat; omega, by rw [w_id (n := x + 1) (by omega) (by omega)]⟩
    refine bsplit_both (fun ho => ?_) (fun ho => ?_)
    · have ho : o ≥ (z : Int) := of_decide_eq_true ho
      rw [w_id (n := o - (z : Int)) (by omega) (by omega), w_id (n := (a : Int) + (o - (z : Int))) (by omega) (by omega)]
      refine swpX hlen hny (by omega) (by omega) (by omega) (by omega) fun e0 e1 => ?_
      rw [e0, e1]
      exact go (o - (z : Int)) (by omega) (by omega)
    · have ho : ¬ o ≥ (z : Int) := of_decide_eq_false ho
      rw [w_id (n := (a : Int) + o) (by omega) (by omega)]
      refine swpX hlen hny (by omega) (by omega) (by omega) (by omega) fun e0 e1 => ?_
      rw [e0, e1]
      exact go o o1 (by omega)
  · exact h.elim
end Go.Tb.W

