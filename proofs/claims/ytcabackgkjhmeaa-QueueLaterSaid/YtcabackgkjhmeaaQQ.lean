/- Queues: how many there are of each moment, told by a map. -/
import Derived.Test.YtcabackgkjhmeaaQP
set_option linter.all false
set_option maxRecDepth 100000
namespace Go.Tb.W
open Go Go.Proofs
/-- How many come at k. -/
def cntQ (k : Int) (q : List Rw) : Nat := (q.filter (fun y => y.i 0 == k)).length
def sumE : List (Rw × Nat) → Int
  | [] => 0
  | e :: l => e.1.i 1 + sumE l
/-- A map of the counts of a queue's moments. -/
structure MOk (es : List (Rw × Nat)) (clk : Nat) (q : List Rw) : Prop where
  key : es.Pairwise (fun a b => a.1.i 0 ≠ b.1.i 0)
  brn : es.Pairwise (fun a b => a.2 ≠ b.2)
  old : ∀ e ∈ es, e.2 < clk
  cnt : ∀ e ∈ es, e.1.i 1 = (cntQ (e.1.i 0) q : Int)
  has : ∀ y ∈ q, ∃ e ∈ es, e.1.i 0 = y.i 0
theorem mfind_none {k : Int} : ∀ {es : List (Rw × Nat)}, mfind (.int .i64 k) es = none → ∀ e ∈ es, e.1.i 0 ≠ k
  | [], _, e, h => by simp at h
  | a :: l, h, e, he => by
    simp only [mfind] at h
    split at h
    · cases h
    · rename_i hk
      rcases List.mem_cons.1 he with rfl | he
      · simpa [isK] using hk
      · exact mfind_none h e he
theorem mfind_some {k : Int} {e : Rw × Nat} : ∀ {es : List (Rw × Nat)}, mfind (.int .i64 k) es = some e → e ∈ es ∧ e.1.i 0 = k
  | [], h => by simp [mfind] at h
  | a :: l, h => by
    simp only [mfind] at h
    split at h
    · rename_i hk
      cases h
      exact ⟨List.mem_cons_self .., by simpa [isK] using hk⟩
    · obtain ⟨h1, h2⟩ := mfind_some h
      exact ⟨List.mem_cons_of_mem _ h1, h2⟩
theorem cntQ_none {k : Int} {q : List Rw} (h : ∀ y ∈ q, y.i 0 ≠ k) : cntQ k q = 0 := by
  unfold cntQ
  rw [List.length_eq_zero_iff, List.filter_eq_nil_iff]
  intro y hy; simpa using h y hy
/-- What the map tells of a moment. -/
theorem MOk.row {es : List (Rw × Nat)} {clk : Nat} {q : List Rw} (h : MOk es clk q) (k : Int) : (mrow (.int .i64 k) es).i 1 = (cntQ k q : Int) := by
  unfold mrow
  cases hf : mfind (.int .i64 k) es with
  | some e => obtain ⟨h1, h2⟩ := mfind_some hf; simp only; rw [h.cnt e h1, h2]
  | none =>
    simp only
    rw [cntQ_none fun y hy e => by
      obtain ⟨a, ha, hk⟩ := h.has y hy
      exact mfind_none hf a ha (hk.trans e)]
    rfl
theorem mput_mem {row : Rw} {k : Int} {clk : Nat} : ∀ {es : List (Rw × Nat)}, es.Pairwise (fun a b => a.1.i 0 ≠ b.1.i 0) → ∀ e ∈ mput row (.int .i64 k) clk es, (e.1 = row ∧ (e.2 = clk ∧ mfind (.int .i64 k) es = none ∨ ∃ a ∈ es, a.1.i 0 = k ∧ a.2 = e.2)) ∨ (e ∈ es ∧ e.1.i 0 ≠ k)
  | [], _, e, he => by simp [mput] at he; subst he; exact .inl ⟨rfl, .inl ⟨rfl, rfl⟩⟩
  | a :: l, hp, e, he => by
    simp only [mput] at he
    obtain ⟨hp1, hp2⟩ := List.pairwise_cons.1 hp
    split at he
    · rename_i hk
      have hk : a.1.i 0 = k := by simpa [isK] using hk
      rcases List.mem_cons.1 he with rfl | he
      · exact .inl ⟨rfl, .inr ⟨a, List.mem_cons_self .., hk, rfl⟩⟩
      · exact .inr ⟨List.mem_cons_of_mem _ he, fun e' => hp1 e he (hk.trans e'.symm)⟩
    · rename_i hk
      have hk' : a.1.i 0 ≠ k := by simpa [isK] using hk
      rcases List.mem_cons.1 he with rfl | he
      · exact .inr ⟨List.mem_cons_self .., hk'⟩
      · rcases mput_mem hp2 e he with ⟨h1, h2 | ⟨b, hb, h3⟩⟩ | ⟨h1, h2⟩
        · exact .inl ⟨h1, .inl ⟨h2.1, by simp only [mfind, hk]; exact h2.2⟩⟩
        · exact .inl ⟨h1, .inr ⟨b, List.mem_cons_of_mem _ hb, h3⟩⟩
        · exact .inr ⟨List.mem_cons_of_mem _ h1, h2⟩
theorem mput_has {row : Rw} {k : Int} {clk : Nat} (hr : row.i 0 = k) : ∀ {es : List (Rw × Nat)} {j : Int}, (j = k ∨ ∃ e ∈ es, e.1.i 0 = j) → ∃ e ∈ mput row (.int .i64 k) clk es, e.1.i 0 = j
  | [], j, h => by
    rcases h with rfl | ⟨e, he, _⟩
    · exact ⟨_, List.mem_cons_self .., hr⟩
    · simp at he
  | a :: l, j, h => by
    simp only [mput]
    split
    · rename_i hk
      have hk : a.1.i 0 = k := by simpa [isK] using hk
      rcases h with rfl | ⟨e, he, hj⟩
      · exact ⟨_, List.mem_cons_self .., hr⟩
      · rcases List.mem_cons.1 he with rfl | he
        · exact ⟨_, List.mem_cons_self .., by rw [hr, ← hk, hj]⟩
        · exact ⟨e, List.mem_cons_of_mem _ he, hj⟩
    · have ih := fun h => mput_has (clk := clk) hr (es := l) (j := j) h
      rcases h with rfl | ⟨e, he, hj⟩
      · obtain ⟨b, hb, e⟩ := ih (.inl rfl); exact ⟨b, List.mem_cons_of_mem _ hb, e⟩
      · rcases List.mem_cons.1 he with rfl | he
        · exact ⟨_, List.mem_cons_self .., hj⟩
        · obtain ⟨b, hb, e⟩ := ih (.inr ⟨e, he, hj⟩); exact ⟨b, List.mem_cons_of_mem _ hb, e⟩
theorem mput_key {row : Rw} {k : Int} {clk : Nat} (hr : row.i 0 = k) : ∀ {es : List (Rw × Nat)}, es.Pairwise (fun a b => a.1.i 0 ≠ b.1.i 0) → (mput row (.int .i64 k) clk es).Pairwise (fun a b => a.1.i 0 ≠ b.1.i 0)
  | [], _ => by simp [mput]
  | a :: l, hp => by
    obtain ⟨hp1, hp2⟩ := List.pairwise_cons.1 hp
    simp only [mput]
    split
    · rename_i hk
      have hk : a.1.i 0 = k := by simpa [isK] using hk
      exact List.pairwise_cons.2 ⟨fun b hb => by simp only; rw [hr, ← hk]; exact hp1 b hb, hp2⟩
    · rename_i hk
      have hk' : a.1.i 0 ≠ k := by simpa [isK] using hk
      refine List.pairwise_cons.2 ⟨fun b hb => ?_, mput_key hr hp2⟩
      rcases mput_mem hp2 b hb with ⟨h1, _⟩ | ⟨h1, _⟩
      · rw [h1, hr]; exact hk'
      · exact hp1 b h1
theorem mput_brn {row : Rw} {k : Int} {clk : Nat} : ∀ {es : List (Rw × Nat)}, es.Pairwise (fun a b => a.1.i 0 ≠ b.1.i 0) → es.Pairwise (fun a b => a.2 ≠ b.2) → (∀ e ∈ es, e.2 < clk) → (mput row (.int .i64 k) clk es).Pairwise (fun a b => a.2 ≠ b.2)
  | [], _, _, _ => by simp [mput]
  | a :: l, hk0, hp, ho => by
    obtain ⟨hp1, hp2⟩ := List.pairwise_cons.1 hp
    obtain ⟨hk1, hk2⟩ := List.pairwise_cons.1 hk0
    simp only [mput]
    split
    · exact List.pairwise_cons.2 ⟨fun b hb => hp1 b hb, hp2⟩
    · refine List.pairwise_cons.2 ⟨fun b hb => ?_, mput_brn hk2 hp2 (fun e he => ho e (List.mem_cons_of_mem _ he))⟩
      have ha := ho a (List.mem_cons_self ..)
      rcases mput_mem hk2 b hb with ⟨_, h2 | ⟨c, hc, _, h3⟩⟩ | ⟨h1, _⟩
      · omega
      · rw [← h3]; exact hp1 c hc
      · exact hp1 b h1
theorem mput_old {row : Rw} {k : Int} {clk : Nat} {es : List (Rw × Nat)} (hk : es.Pairwise (fun a b => a.1.i 0 ≠ b.1.i 0)) (ho : ∀ e ∈ es, e.2 < clk) : ∀ e ∈ mput row (.int .i64 k) clk es, e.2 < mclk (.int .i64 k) es clk := fun e he => by
  have hm : clk ≤ mclk (.int .i64 k) es clk := by unfold mclk; split <;> omega
  rcases mput_mem hk e he with ⟨_, h2 | ⟨c, hc, _, h3⟩⟩ | ⟨h1, _⟩
  · unfold mclk; rw [h2.2]; simp only; omega
  · have := ho c hc; omega
  · have := ho e h1; omega
/-- The map, as the queue has changed at one moment. -/
theorem MOk.put {es : List (Rw × Nat)} {clk : Nat} {q q' : List Rw} (h : MOk es clk q) {row : Rw} {k : Int} (hr : row.i 0 = k) (hv : row.i 1 = (cntQ k q' : Int)) (hc : ∀ j, j ≠ k → cntQ j q' = cntQ j q) (hh : ∀ y ∈ q', y.i 0 = k ∨ y ∈ q) : MOk (mput row (.int .i64 k) clk es) (mclk (.int .i64 k) es clk) q' where
  key := mput_key hr h.key
  brn := mput_brn h.key h.brn h.old
  old := mput_old h.key h.old
  cnt := fun e he => by
    rcases mput_mem h.key e he with ⟨h1, _⟩ | ⟨h1, h2⟩
    · rw [h1, hr, hv]
    · rw [h.cnt e h1, hc _ h2]
  has := fun y hy => mput_has hr (by
    rcases hh y hy with h1 | h1
    · exact .inl h1
    · exact .inr (h.has y h1))
/-- All counts together. -/
theorem sum_cnt : ∀ {es : List (Rw × Nat)} {q : List Rw}, es.Pairwise (fun a b => a.1.i 0 ≠ b.1.i 0) → (∀ e ∈ es, e.1.i 1 = (cntQ (e.1.i 0) q : Int)) → (∀ y ∈ q, ∃ e ∈ es, e.1.i 0 = y.i 0) → sumE es = q.length
  | [], q, _, _, hh => by
    cases q with
    | nil => rfl
    | cons y q => obtain ⟨e, he, _⟩ := hh y (List.mem_cons_self ..); simp at he
  | e :: l, q, hk, hc, hh => by
    obtain ⟨hk1, hk2⟩ := List.pairwise_cons.1 hk
    have ih := sum_cnt (es := l) (q := q.filter (fun y => !(y.i 0 == e.1.i 0))) hk2 (fun a ha => by
      rw [hc a (List.mem_cons_of_mem _ ha)]
      unfold cntQ
      rw [List.filter_filter]
      congr 2
      refine (List.filter_congr fun y _ => ?_)
      by_cases hy : y.i 0 = a.1.i 0
      · have : y.i 0 ≠ e.1.i 0 := fun e' => hk1 a ha (by rw [← e', hy])
        have h2 : ¬ a.1.i 0 = e.1.i 0 := by rw [← hy]; exact this
        simp [hy, h2]
      · simp [hy]) (fun y hy => by
      obtain ⟨hy1, hy2⟩ := List.mem_filter.1 hy
      obtain ⟨a, ha, hay⟩ := hh y hy1
      rcases List.mem_cons.1 ha with rfl | ha
      · simp [hay] at hy2
      · exact ⟨a, ha, hay⟩)
    have h1 := hc e (List.mem_cons_self ..)
    have hl := (List.filter_append_perm (fun y : Rw => y.i 0 == e.1.i 0) q).length_eq
    rw [List.length_append] at hl
    simp only [sumE]
    rw [ih, h1]
    unfold cntQ
    omega
/-- What of it has been seen. -/
def sumS (es : List (Rw × Nat)) (seen : List Nat) : Int := sumE (es.filter fun e => seen.contains e.2)
theorem sumS_add : ∀ {es : List (Rw × Nat)} {seen : List Nat} {e : Rw × Nat}, es.Pairwise (fun a b => a.2 ≠ b.2) → e ∈ es → seen.contains e.2 = false → sumS es (seen ++ [e.2]) = sumS es seen + e.1.i 1
  | [], _, _, _, h, _ => by simp at h
  | a :: l, seen, e, hp, he, hs => by
    obtain ⟨hp1, hp2⟩ := List.pairwise_cons.1 hp
    unfold sumS
    have hc : ∀ n, (seen ++ [e.2]).contains n = (seen.contains n || n == e.2) := fun n => by rw [Bool.eq_iff_iff]; simp
    rcases List.mem_cons.1 he with rfl | he
    · rw [List.filter_cons_of_pos (by rw [hc]; simp), List.filter_cons_of_neg (p := fun x : Rw × Nat => seen.contains x.2) (by rw [hs]; simp)]
      simp only [sumE]
      have : l.filter (fun x => (seen ++ [e.2]).contains x.2) = l.filter (fun x => seen.contains x.2) := List.filter_congr fun x hx => by
        rw [hc]
        have : ¬ x.2 = e.2 := fun h => hp1 x hx h.symm
        simp [this]
      rw [this]; omega
    · have hne : ¬ a.2 = e.2 := hp1 e he
      have ih := sumS_add (seen := seen) hp2 he hs
      unfold sumS at ih
      by_cases ha : seen.contains a.2 = true
      · rw [List.filter_cons_of_pos (by rw [hc, ha]; rfl), List.filter_cons_of_pos (p := fun x : Rw × Nat => seen.contains x.2) ha]
        simp only [sumE]; rw [ih]; omega
      · rw [List.filter_cons_of_neg (by rw [hc]; simp at ha ⊢; exact ⟨ha, hne⟩), List.filter_cons_of_neg (p := fun x : Rw × Nat => seen.contains x.2) ha]
        exact ih
theorem mleft_mem {es : List (Rw × Nat)} {seen : List Nat} {e : Rw × Nat} (h : e ∈ mleft es seen) : e ∈ es ∧ seen.contains e.2 = false := by
  unfold mleft at h
  obtain ⟨h1, h2⟩ := List.mem_filter.1 h
  exact ⟨h1, by simpa using h2⟩
theorem mleft_lt {es : List (Rw × Nat)} {seen : List Nat} {e : Rw × Nat} (h : e ∈ mleft es seen) : (mleft es (seen ++ [e.2])).length < (mleft es seen).length := by
  have : mleft es (seen ++ [e.2]) = (mleft es seen).filter (fun x => !(x.2 == e.2)) := by
    unfold mleft
    rw [List.filter_filter]
    refine List.filter_congr fun x _ => ?_
    rw [Bool.eq_iff_iff]; simp [and_comm]
  rw [this]
  exact List.length_filter_lt_length_iff_exists.2 ⟨e, h, by simp⟩
theorem mover_nil {es : List (Rw × Nat)} {seen : List Nat} {since : Nat} (h : mover es since seen = true) (ho : ∀ e ∈ es, e.2 < since) : ∀ e ∈ es, seen.contains e.2 = true := fun e he => by
  cases hs : seen.contains e.2 with
  | true => rfl
  | false =>
    unfold mover at h
    have := List.all_eq_true.1 h e (by unfold mleft; exact List.mem_filter.2 ⟨he, by show (!seen.contains e.2) = true; rw [hs]; rfl⟩)
    have := of_decide_eq_true this
    have := ho e he
    omega
theorem sumS_all {es : List (Rw × Nat)} {seen : List Nat} (h : ∀ e ∈ es, seen.contains e.2 = true) : sumS es seen = sumE es := by
  unfold sumS; rw [List.filter_eq_self.2 h]
theorem matB_mem : ∀ {es : List (Rw × Nat)} {e : Rw × Nat}, es.Pairwise (fun a b => a.2 ≠ b.2) → e ∈ es → matB e.2 es = some e
  | [], _, _, h => by simp at h
  | a :: l, e, hp, he => by
    obtain ⟨hp1, hp2⟩ := List.pairwise_cons.1 hp
    simp only [matB]
    rcases List.mem_cons.1 he with rfl | he
    · have : Nat.beq e.2 e.2 = true := Nat.beq_refl _
      rw [this]
    · have : Nat.beq a.2 e.2 = false := by
        cases hb : Nat.beq a.2 e.2 with
        | false => rfl
        | true => exact absurd (Nat.eq_of_beq_eq_true hb) (hp1 e he)
      rw [this]
      exact matB_mem hp2 he
theorem mgoes_ok {es : List (Rw × Nat)} {seen : List Nat} {last : Nat} (h : seen = [] ∨ (es ≠ [] ∧ ∀ e ∈ es, e.2 < last)) : mgoes es seen last = true := by
  unfold mgoes
  rcases h with rfl | ⟨h1, h2⟩
  · rfl
  · cases es with
    | nil => exact absurd rfl h1
    | cons a l =>
      have := h2 a (List.mem_cons_self ..)
      simp [this]
theorem cntQ_perm {k : Int} {a b : List Rw} (h : a.Perm b) : cntQ k a = cntQ k b := (h.filter _).length_eq
theorem cntQ_cons (k : Int) (x : Rw) (q : List Rw) : cntQ k (x :: q) = (if x.i 0 = k then 1 else 0) + cntQ k q := by
  unfold cntQ
  by_cases h : x.i 0 = k
  · rw [List.filter_cons_of_pos (by simpa using h), if_pos h]; simp; omega
  · rw [List.filter_cons_of_neg (by simpa using h), if_neg h]; omega
theorem cntQ_ins (k : Int) (q : List Rw) (e : Rw) : cntQ k (insQ q e) = (if e.i 0 = k then 1 else 0) + cntQ k q := by
  rw [cntQ_perm (insQ_perm q e), cntQ_perm (List.perm_append_singleton e q), cntQ_cons]
theorem cntQ_le (k : Int) (q : List Rw) : cntQ k q ≤ q.length := List.length_filter_le _ _
end Go.Tb.W
