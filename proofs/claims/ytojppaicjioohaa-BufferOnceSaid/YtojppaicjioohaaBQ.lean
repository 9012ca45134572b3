/- Buffers: what a Put tells, by cases. -/
import Derived.Test.YtojppaicjioohaaBV
set_option linter.all false
set_option maxRecDepth 100000
namespace Go.Tb.W
open Go Go.Proofs
theorem put_ok {s : Bf} {i : Int} {t : ByteArray} (h1 : 1 ≤ i) (h2 : hasT (lineOf s.th i) t = false) (h3 : ¬ (lineOf s.th i = [] ∧ ((keysOf s.th).length : Int) = s.room)) (h4 : ((lineOf s.th i).length : Int) < s.each) :
    putC s i t = 0 ∧ putS s i t = { s with th := s.th ++ [(i, t)] } := by
  have e : putC s i t = 0 := by unfold putC; rw [if_neg (by omega), h2, if_neg (by simp), if_neg (fun h => h.elim h3 (fun h => by omega))]
  exact ⟨e, by unfold putS; rw [e, if_pos rfl]⟩
theorem put_many {s : Bf} {i : Int} {t : ByteArray} (h1 : 1 ≤ i) (h2 : hasT (lineOf s.th i) t = false) (h3 : (lineOf s.th i = [] ∧ ((keysOf s.th).length : Int) = s.room) ∨ s.each ≤ ((lineOf s.th i).length : Int)) :
    putC s i t = 4 ∧ putS s i t = { s with dropped := s.dropped + 1 } := by
  have e : putC s i t = 4 := by unfold putC; rw [if_neg (by omega), h2, if_neg (by simp), if_pos h3]
  exact ⟨e, by unfold putS; rw [e]; rfl⟩
theorem put_twice {s : Bf} {i : Int} {t : ByteArray} (h1 : 1 ≤ i) (h2 : hasT (lineOf s.th i) t = true) : putC s i t = 11 ∧ putS s i t = s := by
  have e : putC s i t = 11 := by unfold putC; rw [if_neg (by omega), h2, if_pos rfl]
  exact ⟨e, by unfold putS; rw [e]; rfl⟩
theorem put_bad {s : Bf} {i : Int} {t : ByteArray} (h1 : i < 1) : putC s i t = 1 ∧ putS s i t = s := by
  have e : putC s i t = 1 := by unfold putC; rw [if_pos h1]
  exact ⟨e, by unfold putS; rw [e]; rfl⟩
/-- What a Put can tell. -/
theorem put_cases (s : Bf) (i : Int) (t : ByteArray) :
    (putC s i t = 1 ∧ putS s i t = s ∧ i < 1) ∨
    (putC s i t = 11 ∧ putS s i t = s ∧ hasT (lineOf s.th i) t = true) ∨
    (putC s i t = 4 ∧ putS s i t = { s with dropped := s.dropped + 1 } ∧ 1 ≤ i ∧ hasT (lineOf s.th i) t = false ∧ ((lineOf s.th i = [] ∧ ((keysOf s.th).length : Int) = s.room) ∨ s.each ≤ ((lineOf s.th i).length : Int))) ∨
    (putC s i t = 0 ∧ putS s i t = { s with th := s.th ++ [(i, t)] } ∧ 1 ≤ i ∧ hasT (lineOf s.th i) t = false ∧ ¬ (lineOf s.th i = [] ∧ ((keysOf s.th).length : Int) = s.room) ∧ ((lineOf s.th i).length : Int) < s.each) := by
  by_cases h1 : i < 1
  · exact .inl ⟨(put_bad h1).1, (put_bad h1).2, h1⟩
  · have h1 : 1 ≤ i := by omega
    cases h2 : hasT (lineOf s.th i) t with
    | true => exact .inr (.inl ⟨(put_twice h1 h2).1, (put_twice h1 h2).2, rfl⟩)
    | false =>
      by_cases h3 : (lineOf s.th i = [] ∧ ((keysOf s.th).length : Int) = s.room) ∨ s.each ≤ ((lineOf s.th i).length : Int)
      · exact .inr (.inr (.inl ⟨(put_many h1 h2 h3).1, (put_many h1 h2 h3).2, h1, rfl, h3⟩))
      · have h5 : ¬ (lineOf s.th i = [] ∧ ((keysOf s.th).length : Int) = s.room) := fun h => h3 (.inl h)
        have h6 : ((lineOf s.th i).length : Int) < s.each := by
          have : ¬ s.each ≤ ((lineOf s.th i).length : Int) := fun h => h3 (.inr h)
          omega
        exact .inr (.inr (.inr ⟨(put_ok h1 h2 h5 h6).1, (put_ok h1 h2 h5 h6).2, h1, rfl, h5, h6⟩))
theorem put_each (s : Bf) (i : Int) (t : ByteArray) : (putS s i t).each = s.each ∧ (putS s i t).room = s.room := by
  rcases put_cases s i t with ⟨_, e, _⟩ | ⟨_, e, _⟩ | ⟨_, e, _⟩ | ⟨_, e, _⟩ <;> rw [e] <;> exact ⟨rfl, rfl⟩
theorem hasT_nil (t : ByteArray) : hasT [] t = false := rfl
theorem hasT_snoc (l : List ByteArray) (x t : ByteArray) : hasT (l ++ [x]) t = (hasT l t || decide (x = t)) := by simp [hasT]
theorem has_put (s : Bf) (i : Int) (t : ByteArray) : hasT (lineOf (putS s i t).th i) t = true ↔ putC s i t = 0 ∨ hasT (lineOf s.th i) t = true := by
  rcases put_cases s i t with ⟨h, e, _⟩ | ⟨h, e, _⟩ | ⟨h, e, _⟩ | ⟨h, e, _⟩ <;> rw [e, h]
  · simp
  · simp
  · simp
  · simp [line_snoc, hasT_snoc]
theorem line_map (F : List ByteArray) (i j : Int) : lineOf (F.map fun t => (i, t)) j = if i = j then F else [] := by
  unfold lineOf
  by_cases h : i = j
  · rw [if_pos h, List.filter_eq_self.2 (fun p hp => by obtain ⟨t, _, rfl⟩ := List.mem_map.1 hp; simp [h]), List.map_map]
    exact (List.map_congr_left (fun x _ => rfl)).trans (List.map_id F)
  · rw [if_neg h, List.filter_eq_nil_iff.2 (fun p hp => by obtain ⟨t, _, rfl⟩ := List.mem_map.1 hp; simp [h])]; rfl
theorem keys_len_of {th : Th} {ks : List Int} (hn : ks.Nodup) (h : ∀ k, k ∈ ks ↔ lineOf th k ≠ []) : (keysOf th).length = ks.length := (keys_of hn h).length_eq.symm
theorem u8r {e : Int} (h : inK .u8 e = true) : 1 ≤ IntKind.i64.wrap (IntKind.i64.wrap (e.tmod 64) + 1) ∧ IntKind.i64.wrap (IntKind.i64.wrap (e.tmod 64) + 1) ≤ 64 := by
  rw [inK_iff] at h
  simp only [loK, hiK] at h
  have h1 : e.tmod 64 = e % 64 := Int.tmod_eq_emod_of_nonneg h.1
  rw [h1, w_id (n := e % 64) (by omega) (by omega), w_id (by omega) (by omega)]
  omega
theorem map_snoc (F : List ByteArray) (t : ByteArray) : (F.map rowT).take F.length ++ (rwA [.str t] :: []) = (F ++ [t]).map rowT := by
  rw [List.take_of_length_le (by simp), List.map_append]; rfl
end Go.Tb.W
