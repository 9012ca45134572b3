/- Claims: edges, proved. -/
import Derived.Test.YtnljoapmieepeaaK6
set_option linter.all false
set_option maxRecDepth 100000
set_option maxHeartbeats 4000000
namespace Go.Tb.W
open Go Go.Proofs
theorem mleft_mem {es : List (Rw × Nat)} {seen : List Nat} {e : Rw × Nat} (h : e ∈ mleft es seen) : e ∈ es ∧ seen.contains e.2 = false := by
  unfold mleft at h
  obtain ⟨h1, h2⟩ := List.mem_filter.1 h
  exact ⟨h1, by simpa using h2⟩
theorem mleft_lt {es : List (Rw × Nat)} {seen : List Nat} {e : Rw × Nat} (h : e ∈ mleft es seen) : (mleft es (seen ++ [e.2])).length < (mleft es seen).length := by
  have : mleft es (seen ++ [e.2]) = (mleft es seen).filter (fun x => !(x.2 == e.2)) := by
    unfold mleft
    rw [List.filter_filter]
    refine List.filter_congr fun x _ => ?_
    rw [Bool.eq_iff_iff]; simp [and_comm]
  rw [this]
  exact List.length_filter_lt_length_iff_exists.2 ⟨e, h, by simp⟩
theorem mover_nil {es : List (Rw × Nat)} {seen : List Nat} {since : Nat} (h : mover es since seen = true) (ho : ∀ e ∈ es, e.2 < since) : ∀ e ∈ es, seen.contains e.2 = true := fun e he => by
  cases hs : seen.contains e.2 with
  | true => rfl
  | false =>
    unfold mover at h
    have := List.all_eq_true.1 h e (by unfold mleft; exact List.mem_filter.2 ⟨he, by show (!seen.contains e.2) = true; rw [hs]; rfl⟩)
    have := of_decide_eq_true this
    have := ho e he
    omega
theorem matB_mem : ∀ {es : List (Rw × Nat)} {e : Rw × Nat}, es.Pairwise (fun a b => a.2 ≠ b.2) → e ∈ es → matB e.2 es = some e
  | [], _, _, h => by simp at h
  | a :: l, e, hp, he => by
    obtain ⟨hp1, hp2⟩ := List.pairwise_cons.1 hp
    simp only [matB]
    rcases List.mem_cons.1 he with rfl | he
    · have : Nat.beq e.2 e.2 = true := Nat.beq_refl _
      rw [this]
    · have : Nat.beq a.2 e.2 = false := by
        cases hb : Nat.beq a.2 e.2 with
        | false => rfl
        | true => exact absurd (Nat.eq_of_beq_eq_true hb) (hp1 e he)
      rw [this]
      exact matB_mem hp2 he
theorem mgoes_ok {es : List (Rw × Nat)} {seen : List Nat} {last : Nat} (h : seen = [] ∨ (es ≠ [] ∧ ∀ e ∈ es, e.2 < last)) : mgoes es seen last = true := by
  unfold mgoes
  rcases h with rfl | ⟨h1, h2⟩
  · rfl
  · cases es with
    | nil => exact absurd rfl h1
    | cons a l =>
      have := h2 a (List.mem_cons_self ..)
      simp [this]
def pickS (es : List (Rw × Nat)) (seen : List Nat) : List (Rw × Nat) := es.filter (fun x => seen.contains x.2)
theorem pick_same {es : List (Rw × Nat)} {seen : List Nat} {b : Nat} (h : ∀ x ∈ es, x.2 ≠ b) : pickS es (seen ++ [b]) = pickS es seen := by
  unfold pickS
  refine List.filter_congr fun x hx => ?_
  have := h x hx
  rw [Bool.eq_iff_iff]; simp [this]
theorem pick_add {seen : List Nat} {e : Rw × Nat} (hs : seen.contains e.2 = false) : ∀ {es : List (Rw × Nat)}, es.Pairwise (fun a b => a.2 ≠ b.2) → e ∈ es → (pickS es (seen ++ [e.2])).Perm (e :: pickS es seen)
  | [], _, h => by simp at h
  | a :: l, hp, he => by
    obtain ⟨hp1, hp2⟩ := List.pairwise_cons.1 hp
    rcases List.mem_cons.1 he with rfl | he
    · have h1 : pickS (e :: l) (seen ++ [e.2]) = e :: pickS l (seen ++ [e.2]) := by unfold pickS; rw [List.filter_cons_of_pos (by simp)]
      have h2 : pickS (e :: l) seen = pickS l seen := by unfold pickS; rw [List.filter_cons_of_neg (by rw [hs]; simp)]
      rw [h1, h2, pick_same fun x hx => fun h => hp1 x hx h.symm]
    · have ih := pick_add hs hp2 he
      have hne : a.2 ≠ e.2 := hp1 e he
      by_cases ha : seen.contains a.2 = true
      · have h1 : pickS (a :: l) (seen ++ [e.2]) = a :: pickS l (seen ++ [e.2]) := by unfold pickS; rw [List.filter_cons_of_pos (by simp at ha ⊢; exact .inl ha)]
        have h2 : pickS (a :: l) seen = a :: pickS l seen := by unfold pickS; rw [List.filter_cons_of_pos (p := fun x : Rw × Nat => seen.contains x.2) ha]
        rw [h1, h2]
        exact (ih.cons a).trans (.swap ..)
      · have h1 : pickS (a :: l) (seen ++ [e.2]) = pickS l (seen ++ [e.2]) := by unfold pickS; rw [List.filter_cons_of_neg (by simp at ha ⊢; exact ⟨ha, hne⟩)]
        have h2 : pickS (a :: l) seen = pickS l seen := by unfold pickS; rw [List.filter_cons_of_neg (p := fun x : Rw × Nat => seen.contains x.2) ha]
        rw [h1, h2]; exact ih
theorem pick_all {es : List (Rw × Nat)} {seen : List Nat} (h : ∀ e ∈ es, seen.contains e.2 = true) : pickS es seen = es := List.filter_eq_self.2 h
theorem raw_len (es : List (Rw × Nat)) : (rawE es).length = 2 * es.length := by
  induction es with
  | nil => rfl
  | cons a l ih =>
    show ([_, _] ++ rawE l).length = _
    rw [List.length_append, ih]; simp; omega
theorem raw_step {es : List (Rw × Nat)} {seen : List Nat} {L : List (Int × Int)} {e : Rw × Nat} (hL : L.Perm (rawE (pickS es seen))) (hs : seen.contains e.2 = false) (hb : es.Pairwise (fun a b => a.2 ≠ b.2)) (he : e ∈ es) :
    (L ++ [(e.1.i 2, 1), (e.1.i 3 + 1, -1)]).Perm (rawE (pickS es (seen ++ [e.2]))) := by
  have h1 : (rawE (pickS es (seen ++ [e.2]))).Perm (rawE (e :: pickS es seen)) := (pick_add hs hb he).flatMap_right _
  refine List.Perm.trans ?_ h1.symm
  show (L ++ [(e.1.i 2, 1), (e.1.i 3 + 1, -1)]).Perm ([(e.1.i 2, 1), (e.1.i 3 + 1, -1)] ++ rawE (pickS es seen))
  exact List.perm_append_comm.trans (hL.append_left _)
theorem raw_mem {es : List (Rw × Nat)} {p : Int × Int} (h : p ∈ rawE es) : ∃ e ∈ es, p = (e.1.i 2, 1) ∨ p = (e.1.i 3 + 1, -1) := by
  unfold rawE at h
  obtain ⟨e, he, hp⟩ := List.mem_flatMap.1 h
  simp at hp
  exact ⟨e, he, hp⟩
theorem edg_get {L : List (Int × Int)} {i : Nat} (hi : i < L.length) : (L.map edg)[i]? = some (edg L[i]) := by rw [List.getElem?_map, List.getElem?_eq_getElem hi]; rfl
theorem ys_edg {ys : List Rw} {L : List (Int × Int)} (h : ys.Perm (L.map edg)) : ∃ M : List (Int × Int), ys = M.map edg ∧ M.Perm L := by
  refine ⟨ys.map (fun y => (y.i 0, y.i 1)), ?_, ?_⟩
  · rw [List.map_map]
    refine (List.map_id ys).symm.trans (List.map_congr_left fun y hy => ?_)
    obtain ⟨p, _, rfl⟩ := List.mem_map.1 (h.mem_iff.1 hy)
    rfl
  · have := h.map (fun y : Rw => (y.i 0, y.i 1))
    rw [List.map_map] at this
    refine this.trans (List.Perm.of_eq ?_)
    exact (List.map_congr_left fun p _ => rfl).trans (List.map_id L)
theorem put_ne (out : List (Int × Int)) (x : Int × Int) : putE out x ≠ [] ∧ (putE out x).length ≤ out.length + 1 := by
  unfold putE
  split
  · rename_i y hy
    split
    · refine ⟨by simp, ?_⟩
      have := last_split hy
      have h2 := congrArg List.length this
      simp at h2 ⊢
    · exact ⟨by simp, by simp⟩
  · exact ⟨by simp, by simp⟩
theorem put_bd {out : List (Int × Int)} {x : Int × Int} {k : Int} (h : ∀ p ∈ out, -k ≤ p.2 ∧ p.2 ≤ k) (hx : -1 ≤ x.2 ∧ x.2 ≤ 1) (hk : 0 ≤ k) : ∀ p ∈ putE out x, -(k + 1) ≤ p.2 ∧ p.2 ≤ k + 1 := by
  intro p hp
  unfold putE at hp
  split at hp
  · rename_i y hy
    have hs := last_split hy
    have hym := h y (by rw [hs]; simp)
    split at hp
    · rcases List.mem_append.1 hp with hp | hp
      · have := h p (by rw [hs]; exact List.mem_append_left _ hp); omega
      · simp at hp; subst hp; simp only; omega
    · rcases List.mem_append.1 hp with hp | hp
      · have := h p hp; omega
      · simp at hp; subst hp; omega
  · simp at hp; subst hp; omega
theorem join_bd : ∀ (L : List (Int × Int)), (∀ p ∈ L, -1 ≤ p.2 ∧ p.2 ≤ 1) → ∀ i, i ≤ L.length → (joinE (L.take i)).length ≤ i ∧ ∀ p ∈ joinE (L.take i), -(i : Int) ≤ p.2 ∧ p.2 ≤ i
  | L, hL, 0, _ => ⟨by simp [joinE], fun p hp => by simp [joinE] at hp⟩
  | L, hL, i + 1, hi => by
    obtain ⟨h1, h2⟩ := join_bd L hL i (by omega)
    rw [List.take_succ_eq_append_getElem (show i < L.length by omega), join_snoc]
    refine ⟨by have := (put_ne (joinE (L.take i)) L[i]).2; omega, ?_⟩
    have := put_bd h2 (hL _ (List.getElem_mem (show i < L.length by omega))) (by omega)
    simpa using this
theorem setI_edg (a b v : Int) : setI (edg (a, b)) 1 v = edg (a, v) := by
  unfold setI edg rwA
  refine congr (congr (congrArg Rw.mk ?_) ?_) ?_ <;> funext q <;> (cases q with
    | zero => rfl
    | succ q => cases q with
      | zero => rfl
      | succ q => rfl)
end Go.Tb.W
