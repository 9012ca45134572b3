/- Claims: what is agreed on, proved. -/
import Derived.Test.YtnljoapmieepeaaKB
import Derived.Test.YtnljoapmieepeaaKC
set_option linter.all false
set_option maxRecDepth 100000
set_option maxHeartbeats 2000000
namespace Go.Tb.W
open Go Go.Proofs
theorem mfind_none {k : Int} : ∀ {es : List (Rw × Nat)}, mfind (.int .i64 k) es = none → ∀ e ∈ es, e.1.i 0 ≠ k
  | [], _, e, h => by simp at h
  | a :: l, h, e, he => by
    simp only [mfind] at h
    split at h
    · cases h
    · rename_i hk
      rcases List.mem_cons.1 he with rfl | he
      · simpa [isK] using hk
      · exact mfind_none h e he
theorem mfind_some {k : Int} {e : Rw × Nat} : ∀ {es : List (Rw × Nat)}, mfind (.int .i64 k) es = some e → e ∈ es ∧ e.1.i 0 = k
  | [], h => by simp [mfind] at h
  | a :: l, h => by
    simp only [mfind] at h
    split at h
    · rename_i hk
      cases h
      exact ⟨List.mem_cons_self .., by simpa [isK] using hk⟩
    · obtain ⟨h1, h2⟩ := mfind_some h
      exact ⟨List.mem_cons_of_mem _ h1, h2⟩
theorem mput_mem {row : Rw} {k : Int} {clk : Nat} : ∀ {es : List (Rw × Nat)}, es.Pairwise (fun a b => a.1.i 0 ≠ b.1.i 0) → ∀ e ∈ mput row (.int .i64 k) clk es, (e.1 = row ∧ (e.2 = clk ∧ mfind (.int .i64 k) es = none ∨ ∃ a ∈ es, a.1.i 0 = k ∧ a.2 = e.2)) ∨ (e ∈ es ∧ e.1.i 0 ≠ k)
  | [], _, e, he => by simp [mput] at he; subst he; exact .inl ⟨rfl, .inl ⟨rfl, rfl⟩⟩
  | a :: l, hp, e, he => by
    simp only [mput] at he
    obtain ⟨hp1, hp2⟩ := List.pairwise_cons.1 hp
    split at he
    · rename_i hk
      have hk : a.1.i 0 = k := by simpa [isK] using hk
      rcases List.mem_cons.1 he with rfl | he
      · exact .inl ⟨rfl, .inr ⟨a, List.mem_cons_self .., hk, rfl⟩⟩
      · exact .inr ⟨List.mem_cons_of_mem _ he, fun e' => hp1 e he (hk.trans e'.symm)⟩
    · rename_i hk
      have hk' : a.1.i 0 ≠ k := by simpa [isK] using hk
      rcases List.mem_cons.1 he with rfl | he
      · exact .inr ⟨List.mem_cons_self .., hk'⟩
      · rcases mput_mem hp2 e he with ⟨h1, h2 | ⟨b, hb, h3⟩⟩ | ⟨h1, h2⟩
        · exact .inl ⟨h1, .inl ⟨h2.1, by simp only [mfind, hk]; exact h2.2⟩⟩
        · exact .inl ⟨h1, .inr ⟨b, List.mem_cons_of_mem _ hb, h3⟩⟩
        · exact .inr ⟨List.mem_cons_of_mem _ h1, h2⟩
theorem mput_key {row : Rw} {k : Int} {clk : Nat} (hr : row.i 0 = k) : ∀ {es : List (Rw × Nat)}, es.Pairwise (fun a b => a.1.i 0 ≠ b.1.i 0) → (mput row (.int .i64 k) clk es).Pairwise (fun a b => a.1.i 0 ≠ b.1.i 0)
  | [], _ => by simp [mput]
  | a :: l, hp => by
    obtain ⟨hp1, hp2⟩ := List.pairwise_cons.1 hp
    simp only [mput]
    split
    · rename_i hk
      have hk : a.1.i 0 = k := by simpa [isK] using hk
      exact List.pairwise_cons.2 ⟨fun b hb => by simp only; rw [hr, ← hk]; exact hp1 b hb, hp2⟩
    · rename_i hk
      have hk' : a.1.i 0 ≠ k := by simpa [isK] using hk
      refine List.pairwise_cons.2 ⟨fun b hb => ?_, mput_key hr hp2⟩
      rcases mput_mem hp2 b hb with ⟨h1, _⟩ | ⟨h1, _⟩
      · rw [h1, hr]; exact hk'
      · exact hp1 b h1
theorem mput_brn {row : Rw} {k : Int} {clk : Nat} : ∀ {es : List (Rw × Nat)}, es.Pairwise (fun a b => a.1.i 0 ≠ b.1.i 0) → es.Pairwise (fun a b => a.2 ≠ b.2) → (∀ e ∈ es, e.2 < clk) → (mput row (.int .i64 k) clk es).Pairwise (fun a b => a.2 ≠ b.2)
  | [], _, _, _ => by simp [mput]
  | a :: l, hk0, hp, ho => by
    obtain ⟨hp1, hp2⟩ := List.pairwise_cons.1 hp
    obtain ⟨hk1, hk2⟩ := List.pairwise_cons.1 hk0
    simp only [mput]
    split
    · exact List.pairwise_cons.2 ⟨fun b hb => hp1 b hb, hp2⟩
    · refine List.pairwise_cons.2 ⟨fun b hb => ?_, mput_brn hk2 hp2 (fun e he => ho e (List.mem_cons_of_mem _ he))⟩
      have ha := ho a (List.mem_cons_self ..)
      rcases mput_mem hk2 b hb with ⟨_, h2 | ⟨c, hc, _, h3⟩⟩ | ⟨h1, _⟩
      · omega
      · rw [← h3]; exact hp1 c hc
      · exact hp1 b h1
theorem mput_old {row : Rw} {k : Int} {clk : Nat} {es : List (Rw × Nat)} (hk : es.Pairwise (fun a b => a.1.i 0 ≠ b.1.i 0)) (ho : ∀ e ∈ es, e.2 < clk) : ∀ e ∈ mput row (.int .i64 k) clk es, e.2 < mclk (.int .i64 k) es clk := fun e he => by
  have hm : clk ≤ mclk (.int .i64 k) es clk := by unfold mclk; split <;> omega
  rcases mput_mem hk e he with ⟨_, h2 | ⟨c, hc, _, h3⟩⟩ | ⟨h1, _⟩
  · unfold mclk; rw [h2.2]; simp only; omega
  · have := ho c hc; omega
  · have := ho e h1; omega
theorem mput_len (row : Rw) (k : AV) (clk : Nat) : ∀ es : List (Rw × Nat), (mput row k clk es).length ≤ es.length + 1
  | [] => by simp [mput]
  | a :: l => by
    simp only [mput]
    split
    · simp
    · have := mput_len row k clk l; simp; omega
theorem okM_last : ∀ (r : List Rw), (∀ x ∈ r, mayR x = true) → r.length ≤ 6 → okM (lastF r.reverse).1 (lastF r.reverse).2 ∧ (lastF r.reverse).1.length ≤ r.length
  | [], _, _ => ⟨⟨.nil, .nil, fun e h => (by cases h), by decide, fun e h => (by cases h), fun e h => (by cases h)⟩, Nat.le_refl _⟩
  | x :: r, hm, hl => by
    obtain ⟨ih, ihl⟩ := okM_last r (fun y hy => hm y (List.mem_cons_of_mem _ hy)) (by simp at hl; omega)
    have hx := hm x (List.mem_cons_self ..)
    unfold mayR mayC at hx
    have hx := of_decide_eq_true hx
    have e : lastF (x :: r).reverse = lastS (lastF r.reverse) x := by unfold lastF; rw [List.reverse_cons, List.foldl_append]; rfl
    rw [e]
    generalize lastF r.reverse = s at ih ihl
    obtain ⟨es, clk⟩ := s
    simp only at ih ihl
    have hlen : (mput (rwA [.int .i64 (x.i 0), .int .i64 (x.i 0), .int .i64 (x.i 1), .int .i64 (x.i 2)]) (.int .i64 (x.i 0)) clk es).length ≤ es.length + 1 := mput_len ..
    simp at hl
    show okM (mput (rwA [.int .i64 (x.i 0), .int .i64 (x.i 0), .int .i64 (x.i 1), .int .i64 (x.i 2)]) (.int .i64 (x.i 0)) clk es) (mclk (.int .i64 (x.i 0)) es clk) ∧ (mput (rwA [.int .i64 (x.i 0), .int .i64 (x.i 0), .int .i64 (x.i 1), .int .i64 (x.i 2)]) (.int .i64 (x.i 0)) clk es).length ≤ (x :: r).length
    refine ⟨⟨mput_key (row := rwA [.int .i64 (x.i 0), .int .i64 (x.i 0), .int .i64 (x.i 1), .int .i64 (x.i 2)]) (k := x.i 0) rfl ih.key, mput_brn ih.key ih.brn ih.old, mput_old ih.key ih.old, by omega, fun e he => ?_, fun e he => ?_⟩, by simp; omega⟩
    · rcases mput_mem ih.key e he with ⟨h1, _⟩ | ⟨h1, _⟩
      · rw [h1]; exact ⟨hx.2.2.1, hx.2.1, hx.2.2.2⟩
      · exact ih.bd e h1
    · rcases mput_mem ih.key e he with ⟨h1, _⟩ | ⟨h1, _⟩
      · rw [h1]; rfl
      · exact ih.id e h1
theorem okM_of {xs : List Rw} (hm : ∀ x ∈ xs, mayR x = true) (hl : xs.length ≤ 6) : okM (lastF xs).1 (lastF xs).2 ∧ (lastF xs).1.length ≤ xs.length := by
  have := okM_last xs.reverse (fun x hx => hm x (List.mem_reverse.1 hx)) (by simpa using hl)
  rw [List.reverse_reverse, List.length_reverse] at this
  exact this
/-- Where the counting may stand. -/
structure AgB (s : Ag) (k : Int) : Prop where
  n : -k ≤ s.nw ∧ s.nw ≤ k
  v : 0 ≤ s.vo ∧ s.vo ≤ k
theorem agS_cases (s : Ag) (p : Int × Int) : (p.2 = 0 ∧ agS s p = { s with nw := s.nw + p.2 }) ∨ (p.2 ≠ 0 ∧ s.nw + p.2 > s.vo ∧ agS s p = { s with nw := s.nw + p.2, vo := s.nw + p.2, lo := p.1, op := true }) ∨
    (p.2 ≠ 0 ∧ ¬ s.nw + p.2 > s.vo ∧ s.op = true ∧ agS s p = { s with nw := s.nw + p.2, hi := p.1 - 1, op := false }) ∨ (p.2 ≠ 0 ∧ ¬ s.nw + p.2 > s.vo ∧ s.op = false ∧ agS s p = { s with nw := s.nw + p.2 }) := by
  unfold agS
  by_cases h1 : p.2 = 0
  · exact .inl ⟨h1, by rw [if_pos h1]⟩
  · by_cases h2 : s.nw + p.2 > s.vo
    · exact .inr (.inl ⟨h1, h2, by rw [if_neg h1, if_pos h2]⟩)
    · cases h3 : s.op with
      | true => exact .inr (.inr (.inl ⟨h1, h2, rfl, by rw [if_neg h1, if_neg h2, if_pos rfl]⟩))
      | false => exact .inr (.inr (.inr ⟨h1, h2, rfl, by rw [if_neg h1, if_neg h2, if_neg (by decide)]⟩))
theorem AgB.step {s : Ag} {k d : Int} (h : AgB s k) {p : Int × Int} (hp : -d ≤ p.2 ∧ p.2 ≤ d) (hd : 0 ≤ d) : AgB (agS s p) (k + d) := by
  have h1 := h.n; have h2 := h.v
  rcases agS_cases s p with ⟨_, e⟩ | ⟨_, h3, e⟩ | ⟨_, _, _, e⟩ | ⟨_, _, _, e⟩ <;> rw [e] <;> exact ⟨by show _ ≤ s.nw + p.2 ∧ s.nw + p.2 ≤ _; omega, by
    first
      | (show 0 ≤ s.vo ∧ s.vo ≤ _; omega)
      | (show 0 ≤ s.nw + p.2 ∧ s.nw + p.2 ≤ _; omega)⟩
theorem ag_take {L : List (Int × Int)} {i : Nat} (hi : i < L.length) : agF (L.take (i + 1)) = agS (agF (L.take i)) L[i] := by
  unfold agF; rw [List.take_succ_eq_append_getElem hi, List.foldl_append]; rfl
theorem ag_bd {L : List (Int × Int)} (hb : ∀ p ∈ L, -128 ≤ p.2 ∧ p.2 ≤ 128) : ∀ i, i ≤ L.length → AgB (agF (L.take i)) (128 * (i : Int))
  | 0, _ => ⟨by simp [agF], by simp [agF]⟩
  | i + 1, hi => by
    have := (ag_bd hb i (by omega)).step (hb _ (List.getElem_mem (show i < L.length by omega))) (by omega)
    rw [ag_take (show i < L.length by omega)]
    have e : (128 : Int) * (i : Int) + 128 = 128 * ((i + 1 : Nat) : Int) := by omega
    rw [← e]; exact this
theorem edge_bd {es : List (Rw × Nat)} (hl : es.length ≤ 6) (hb : ∀ e ∈ es, -1152921504606846976 ≤ e.1.i 2 ∧ e.1.i 2 ≤ e.1.i 3 ∧ e.1.i 3 ≤ 1152921504606846976) : (edgeF es).length ≤ 12 ∧ ∀ p ∈ edgeF es, (-128 ≤ p.2 ∧ p.2 ≤ 128) ∧ (-1152921504606846976 ≤ p.1 ∧ p.1 ≤ 1152921504606846977) := by
  have hlen : (srtP (rawE es)).length = 2 * es.length := by rw [(srtP_perm _).length_eq, raw_len]
  have h1 : ∀ p ∈ srtP (rawE es), -1 ≤ p.2 ∧ p.2 ≤ 1 := fun p hp => by
    obtain ⟨e, _, h | h⟩ := raw_mem ((srtP_perm _).mem_iff.1 hp) <;> rw [h] <;> simp
  obtain ⟨b1, b2⟩ := join_bd (srtP (rawE es)) h1 _ (Nat.le_refl _)
  rw [List.take_length] at b1 b2
  refine ⟨by show (joinE _).length ≤ 12; omega, fun p hp => ⟨by have := b2 p hp; omega, ?_⟩⟩
  obtain ⟨u, hu, he⟩ := ((Jn.join (srtP_so (rawE es))).pl p.1).1 ⟨p, hp, rfl⟩
  obtain ⟨e, hm, h | h⟩ := raw_mem ((srtP_perm _).mem_iff.1 hu)
  · have := hb e hm; rw [← he, h]; simp only; omega
  · have := hb e hm; rw [← he, h]; simp only; omega
theorem edge_ne {es : List (Rw × Nat)} (h : es ≠ []) : edgeF es ≠ [] := fun e => by
  cases es with
  | nil => exact h rfl
  | cons a l =>
    obtain ⟨u, hu, _⟩ := ((Jn.join (srtP_so (rawE (a :: l)))).pl (a.1.i 2)).2 ⟨(a.1.i 2, 1), (srtP_perm _).mem_iff.2 (List.mem_flatMap.2 ⟨a, List.mem_cons_self .., by simp⟩), rfl⟩
    have e : joinE (srtP (rawE (a :: l))) = [] := e
    rw [e] at hu; cases hu
end Go.Tb.W
