/- Queues: the package that a queue is. -/
import Derived.Test.YtcabackgkjhmeaaQB
import Derived.Test.YtcabackgkjhmeaaQD
import Derived.Test.YtcabackgkjhmeaaQK
set_option linter.all false
set_option maxRecDepth 100000
namespace Go.Tb.W
open Go Go.Proofs
/-- A queue that lies open holds what comes in order. -/
structure QInv (l : List Rw) (sq : Int) (n c : Nat) (xs : List Rw) (room : Nat) : Prop where
  len : n ≤ xs.length
  cap : c * 4 ≤ room
  mx : n ≤ 1000
  nr : NR (xs.take n)
  hp : Hp xs 0 n
  pm : l.Perm (xs.take n)
  so : l.Pairwise (fun x y => lessE x y = true)
  sq : ∀ x ∈ l, x.i 3 < sq
theorem QInv.ln {l : List Rw} {sq : Int} {n c : Nat} {xs : List Rw} {room : Nat} (h : QInv l sq n c xs room) : l.length = n := by
  have := h.pm.length_eq
  have := h.len
  simp at *; omega
def Hq : O → List (AO O) → Prop
  | .q l sq, os => (l = [] ∧ os = [qO .nils sq]) ∨ ∃ n c xs room, os = [qO (.sl 1 0 n c) sq, eO xs room] ∧ QInv l sq n c xs room
  | .r _, _ => False
def zq : AO O → Option O
  | .cells 27 [.nils, .int .i64 sq] 2 => some (.q [] sq)
  | _ => none
def pk : Pk O where
  H := Hq
  z := zq
  zok := fun o s h => by
    unfold zq at h
    split at h
    · cases h; exact ⟨.inl ⟨rfl, rfl⟩, _, _, _, rfl, rfl⟩
    · cases h
theorem lohi (t : Int) (l : List Rw) : (lo t l ++ hi t l).Perm l := List.filter_append_perm _ l
theorem insQ_perm (l : List Rw) (e : Rw) : (insQ l e).Perm (l ++ [e]) := by
  unfold insQ
  refine List.Perm.trans List.perm_middle ?_
  exact ((lohi _ l).cons e).trans (List.perm_append_singleton e l).symm
theorem insQ_so {l : List Rw} {e : Rw} (h : l.Pairwise (fun x y => lessE x y = true)) (hs : ∀ x ∈ l, x.i 3 < e.i 3) : (insQ l e).Pairwise (fun x y => lessE x y = true) := by
  unfold insQ
  refine List.pairwise_append.2 ⟨h.sublist (List.filter_sublist ..), List.pairwise_cons.2 ⟨fun y hy => ?_, h.sublist (List.filter_sublist ..)⟩, fun x hx y hy => ?_⟩
  · obtain ⟨_, hy⟩ := List.mem_filter.1 hy
    simp at hy
    exact less_iff.2 (.inl hy)
  · obtain ⟨hx1, hx⟩ := List.mem_filter.1 hx
    have hx : x.i 0 ≤ e.i 0 := by simpa using hx
    have := hs x hx1
    rcases List.mem_cons.1 hy with rfl | hy
    · exact less_iff.2 (by omega)
    · obtain ⟨_, hy⟩ := List.mem_filter.1 hy
      simp at hy
      exact less_iff.2 (by omega)
theorem nE_mk (a b : Int) (s : ByteArray) (d : Int) : nE (mkE a b s d) = mkE a b s d := rfl
theorem QInv.push {l : List Rw} {sq : Int} {n c : Nat} {xs : List Rw} {room : Nat} (h : QInv l sq n c xs room) (hn : n < 1000) (a b : Int) (s : ByteArray) (c' : Nat) :
    QInv (insQ l (mkE a b s sq)) (sq + 1) (n + 1) c' (upF (n + 1) (xs.take n ++ [mkE a b s sq]) n) (c' * 4) := by
  have hl : (xs.take n).length = n := by have := h.len; simp; omega
  have hln : (xs.take n ++ [mkE a b s sq]).length = n + 1 := by rw [List.length_append, hl]; rfl
  have ht : (xs.take n ++ [mkE a b s sq]).take (n + 1) = xs.take n ++ [mkE a b s sq] := List.take_of_length_le (by omega)
  have hnr : NR ((xs.take n ++ [mkE a b s sq]).take (n + 1)) := by
    rw [ht]
    intro x hx
    rcases List.mem_append.1 hx with hx | hx
    · exact h.nr x hx
    · simp at hx; subst hx; rfl
  have ab := Abt.up (n + 1) (j := n) hnr (by omega) (by omega)
  have hg : ∀ j, j < n → gE (xs.take n ++ [mkE a b s sq]) j = gE xs j := fun j hj => by
    unfold gE
    rw [List.getElem?_append_left (by omega), List.getElem?_take, if_pos hj]
  refine ⟨by rw [ab.l]; omega, Nat.le_refl _, by omega, ab.nr hnr, ?_, ?_, insQ_so h.so h.sq, fun x hx => ?_⟩
  · refine Hp.up (n + 1) (by omega) (by omega) (by omega) hnr (fun k h1 h2 h3 => ?_) (fun k h1 h2 h3 h4 => by omega)
    rw [hg _ (by omega), hg _ (by omega)]
    exact h.hp k h1 (by omega) (Nat.zero_le _)
  · refine (insQ_perm _ _).trans ((h.pm.append_right _).trans ?_)
    have := ab.p.symm
    rw [ht] at this
    exact this
  · rcases List.mem_append.1 ((insQ_perm _ _).mem_iff.1 hx) with hx | hx
    · have := h.sq x hx; omega
    · simp at hx; subst hx; show sq < sq + 1; omega
theorem QInv.first {a b : Int} {s : ByteArray} {sq : Int} (c' : Nat) : QInv (insQ [] (mkE a b s sq)) (sq + 1) 1 c' (upF 1 [mkE a b s sq] 0) (c' * 4) :=
  QInv.push (l := []) (sq := sq) (n := 0) (c := 0) (xs := []) (room := 0) ⟨Nat.le_refl _, Nat.le_refl _, by omega, fun x hx => by simp at hx, fun j h1 h2 => by omega, .refl _, .nil, fun x hx => by simp at hx⟩ (by omega) a b s c'
theorem QInv.root {x : Rw} {t : List Rw} {sq : Int} {n c : Nat} {xs : List Rw} {room : Nat} (h : QInv (x :: t) sq n c xs room) : 0 < n ∧ x = gE xs 0 := by
  have hn : n = t.length + 1 := by have := h.ln; simp at this; omega
  have hl := h.len
  refine ⟨by omega, ?_⟩
  have hx : x ∈ xs.take n := h.pm.mem_iff.1 (List.mem_cons_self ..)
  obtain ⟨j, hj, hjx⟩ := List.mem_iff_getElem.1 hx
  have hjn : j < n := by simp at hj; omega
  have hjg : gE xs j = x := by rw [← hjx, List.getElem_take]; unfold gE; rw [List.getElem?_eq_getElem (by omega)]; rfl
  have hr := Hp.root h.hp j hjn
  rw [hjg] at hr
  have h0 : gE xs 0 ∈ x :: t := h.pm.mem_iff.2 (by
    rw [List.mem_iff_getElem?]
    exact ⟨0, by rw [List.getElem?_take, if_pos (by omega), gE_get (by omega)]⟩)
  rcases List.mem_cons.1 h0 with e | h0
  · exact e.symm
  · have := (List.pairwise_cons.1 h.so).1 _ h0
    rw [not_less hr] at this; cases this
theorem QInv.pop {x : Rw} {t : List Rw} {sq : Int} {n c : Nat} {xs : List Rw} {room : Nat} (h : QInv (x :: t) sq n c xs room) : QInv t sq (n - 1) c (downF n (swapL xs 0 (n - 1)) 0 (n - 1)) room := by
  obtain ⟨hn, hx⟩ := h.root
  have hl := h.len
  have a := Abt.swap h.nr hl (show 0 < n by omega) (show n - 1 < n by omega)
  have g := gE_swap (xs := xs) (i := 0) (k := n - 1) (by omega) (by omega) (nr_g h.nr (by omega) hl) (nr_g h.nr (by omega) hl)
  have hnr1 : NR ((swapL xs 0 (n - 1)).take (n - 1)) := fun y hy => a.nr h.nr y (by
    have : (swapL xs 0 (n - 1)).take (n - 1) = ((swapL xs 0 (n - 1)).take n).take (n - 1) := by rw [List.take_take, Nat.min_eq_left (by omega)]
    rw [this] at hy
    exact List.mem_of_mem_take hy)
  have b := Abt.down n (xs := swapL xs 0 (n - 1)) (i := 0) hnr1 (by rw [a.l]; omega)
  have hpm : t.Perm ((swapL xs 0 (n - 1)).take (n - 1)) := by
    have h1 := h.pm.trans a.p.symm
    have e : (swapL xs 0 (n - 1)).take n = (swapL xs 0 (n - 1)).take (n - 1) ++ [x] := by
      have h2 := take_succ_get (xs := swapL xs 0 (n - 1)) (k := n - 1) (by rw [a.l]; omega)
      rw [show n - 1 + 1 = n by omega] at h2
      have h3 := g (n - 1)
      rw [if_pos rfl, ← hx] at h3
      unfold gE at h3
      rw [List.getElem?_eq_getElem (by rw [a.l]; omega)] at h3
      rw [h2]; simp only [Option.getD_some] at h3; rw [h3]
    rw [e] at h1
    exact List.Perm.cons_inv (h1.trans (List.perm_append_singleton _ _))
  refine ⟨by rw [b.l, a.l]; omega, h.cap, by have := h.mx; omega, b.nr hnr1, ?_, hpm.trans b.p.symm, (List.pairwise_cons.1 h.so).2, fun y hy => h.sq y (List.mem_cons_of_mem _ hy)⟩
  refine Hp.down n (by omega) (by rw [a.l]; omega) hnr1 (Nat.le_refl _) (fun j h1 h2 h3 h4 => ?_) (fun j h1 h2 h3 h4 => absurd h4 (Nat.lt_irrefl _))
  rw [g, g, if_neg (by omega), if_neg (by omega), if_neg (by omega), if_neg (by omega)]
  exact h.hp j h1 (by omega) (Nat.zero_le _)
theorem QInv.drop {l : List Rw} {sq : Int} {n c : Nat} {xs ys : List Rw} {room i : Nat} (h : QInv l sq n c xs room) (p : Rw → Bool) (h1 : ys.length = xs.length) (h2 : i ≤ n) (h3 : ys.take i = (xs.take n).filter p) : QInv (l.filter p) sq i c (initF (i / 2) ys i) room := by
  have hl := h.len
  have hnr : NR (ys.take i) := by
    rw [h3]; exact fun x hx => h.nr x (List.mem_filter.1 hx).1
  have a := Abt.init (i / 2) (n := i) hnr (by omega)
  refine ⟨by rw [a.l]; omega, h.cap, by have := h.mx; omega, a.nr hnr, ?_, ?_, h.so.sublist (List.filter_sublist ..), fun x hx => h.sq x (List.mem_filter.1 hx).1⟩
  · exact Hp.init _ (by omega) hnr (fun j q1 q2 q3 => by omega)
  · refine (h.pm.filter p).trans ?_
    rw [← h3]; exact a.p.symm
end Go.Tb.W
