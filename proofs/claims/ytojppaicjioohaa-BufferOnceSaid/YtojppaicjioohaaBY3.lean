/- Buffers: lines that a map tells, plain. -/
import Derived.Test.YtojppaicjioohaaBQ
import Derived.Test.YtojppaicjioohaaBY2
set_option linter.all false
set_option maxRecDepth 100000
namespace Go.Tb.W
open Go Go.Proofs
theorem mfind_none {k : Int} : ∀ {es : List (Rw × Nat)}, mfind (.int .i64 k) es = none → ∀ e ∈ es, e.1.i 0 ≠ k
  | [], _, e, h => by simp at h
  | a :: l, h, e, he => by
    simp only [mfind] at h
    split at h
    · cases h
    · rename_i hk
      rcases List.mem_cons.1 he with rfl | he
      · simpa [isK] using hk
      · exact mfind_none h e he
theorem mfind_some {k : Int} {e : Rw × Nat} : ∀ {es : List (Rw × Nat)}, mfind (.int .i64 k) es = some e → e ∈ es ∧ e.1.i 0 = k
  | [], h => by simp [mfind] at h
  | a :: l, h => by
    simp only [mfind] at h
    split at h
    · rename_i hk
      cases h
      exact ⟨List.mem_cons_self .., by simpa [isK] using hk⟩
    · obtain ⟨h1, h2⟩ := mfind_some h
      exact ⟨List.mem_cons_of_mem _ h1, h2⟩
theorem mput_mem {row : Rw} {k : Int} {clk : Nat} : ∀ {es : List (Rw × Nat)}, es.Pairwise (fun a b => a.1.i 0 ≠ b.1.i 0) → ∀ e ∈ mput row (.int .i64 k) clk es, (e.1 = row ∧ (e.2 = clk ∧ mfind (.int .i64 k) es = none ∨ ∃ a ∈ es, a.1.i 0 = k ∧ a.2 = e.2)) ∨ (e ∈ es ∧ e.1.i 0 ≠ k)
  | [], _, e, he => by simp [mput] at he; subst he; exact .inl ⟨rfl, .inl ⟨rfl, rfl⟩⟩
  | a :: l, hp, e, he => by
    simp only [mput] at he
    obtain ⟨hp1, hp2⟩ := List.pairwise_cons.1 hp
    split at he
    · rename_i hk
      have hk : a.1.i 0 = k := by simpa [isK] using hk
      rcases List.mem_cons.1 he with rfl | he
      · exact .inl ⟨rfl, .inr ⟨a, List.mem_cons_self .., hk, rfl⟩⟩
      · exact .inr ⟨List.mem_cons_of_mem _ he, fun e' => hp1 e he (hk.trans e'.symm)⟩
    · rename_i hk
      have hk' : a.1.i 0 ≠ k := by simpa [isK] using hk
      rcases List.mem_cons.1 he with rfl | he
      · exact .inr ⟨List.mem_cons_self .., hk'⟩
      · rcases mput_mem hp2 e he with ⟨h1, h2 | ⟨b, hb, h3⟩⟩ | ⟨h1, h2⟩
        · exact .inl ⟨h1, .inl ⟨h2.1, by simp only [mfind, hk]; exact h2.2⟩⟩
        · exact .inl ⟨h1, .inr ⟨b, List.mem_cons_of_mem _ hb, h3⟩⟩
        · exact .inr ⟨List.mem_cons_of_mem _ h1, h2⟩
theorem mput_has {row : Rw} {k : Int} {clk : Nat} (hr : row.i 0 = k) : ∀ {es : List (Rw × Nat)} {j : Int}, (j = k ∨ ∃ e ∈ es, e.1.i 0 = j) → ∃ e ∈ mput row (.int .i64 k) clk es, e.1.i 0 = j
  | [], j, h => by
    rcases h with rfl | ⟨e, he, _⟩
    · exact ⟨_, List.mem_cons_self .., hr⟩
    · simp at he
  | a :: l, j, h => by
    simp only [mput]
    split
    · rename_i hk
      have hk : a.1.i 0 = k := by simpa [isK] using hk
      rcases h with rfl | ⟨e, he, hj⟩
      · exact ⟨_, List.mem_cons_self .., hr⟩
      · rcases List.mem_cons.1 he with rfl | he
        · exact ⟨_, List.mem_cons_self .., by rw [hr, ← hk, hj]⟩
        · exact ⟨e, List.mem_cons_of_mem _ he, hj⟩
    · have ih := fun h => mput_has (clk := clk) hr (es := l) (j := j) h
      rcases h with rfl | ⟨e, he, hj⟩
      · obtain ⟨b, hb, e⟩ := ih (.inl rfl); exact ⟨b, List.mem_cons_of_mem _ hb, e⟩
      · rcases List.mem_cons.1 he with rfl | he
        · exact ⟨_, List.mem_cons_self .., hj⟩
        · obtain ⟨b, hb, e⟩ := ih (.inr ⟨e, he, hj⟩); exact ⟨b, List.mem_cons_of_mem _ hb, e⟩
theorem mput_key {row : Rw} {k : Int} {clk : Nat} (hr : row.i 0 = k) : ∀ {es : List (Rw × Nat)}, es.Pairwise (fun a b => a.1.i 0 ≠ b.1.i 0) → (mput row (.int .i64 k) clk es).Pairwise (fun a b => a.1.i 0 ≠ b.1.i 0)
  | [], _ => by simp [mput]
  | a :: l, hp => by
    obtain ⟨hp1, hp2⟩ := List.pairwise_cons.1 hp
    simp only [mput]
    split
    · rename_i hk
      have hk : a.1.i 0 = k := by simpa [isK] using hk
      exact List.pairwise_cons.2 ⟨fun b hb => by simp only; rw [hr, ← hk]; exact hp1 b hb, hp2⟩
    · rename_i hk
      have hk' : a.1.i 0 ≠ k := by simpa [isK] using hk
      refine List.pairwise_cons.2 ⟨fun b hb => ?_, mput_key hr hp2⟩
      rcases mput_mem hp2 b hb with ⟨h1, _⟩ | ⟨h1, _⟩
      · rw [h1, hr]; exact hk'
      · exact hp1 b h1
theorem mput_brn {row : Rw} {k : Int} {clk : Nat} : ∀ {es : List (Rw × Nat)}, es.Pairwise (fun a b => a.1.i 0 ≠ b.1.i 0) → es.Pairwise (fun a b => a.2 ≠ b.2) → (∀ e ∈ es, e.2 < clk) → (mput row (.int .i64 k) clk es).Pairwise (fun a b => a.2 ≠ b.2)
  | [], _, _, _ => by simp [mput]
  | a :: l, hk0, hp, ho => by
    obtain ⟨hp1, hp2⟩ := List.pairwise_cons.1 hp
    obtain ⟨hk1, hk2⟩ := List.pairwise_cons.1 hk0
    simp only [mput]
    split
    · exact List.pairwise_cons.2 ⟨fun b hb => hp1 b hb, hp2⟩
    · refine List.pairwise_cons.2 ⟨fun b hb => ?_, mput_brn hk2 hp2 (fun e he => ho e (List.mem_cons_of_mem _ he))⟩
      have ha := ho a (List.mem_cons_self ..)
      rcases mput_mem hk2 b hb with ⟨_, h2 | ⟨c, hc, _, h3⟩⟩ | ⟨h1, _⟩
      · omega
      · rw [← h3]; exact hp1 c hc
      · exact hp1 b h1
theorem mput_old {row : Rw} {k : Int} {clk : Nat} {es : List (Rw × Nat)} (hk : es.Pairwise (fun a b => a.1.i 0 ≠ b.1.i 0)) (ho : ∀ e ∈ es, e.2 < clk) : ∀ e ∈ mput row (.int .i64 k) clk es, e.2 < mclk (.int .i64 k) es clk := fun e he => by
  have hm : clk ≤ mclk (.int .i64 k) es clk := by unfold mclk; split <;> omega
  rcases mput_mem hk e he with ⟨_, h2 | ⟨c, hc, _, h3⟩⟩ | ⟨h1, _⟩
  · unfold mclk; rw [h2.2]; simp only; omega
  · have := ho c hc; omega
  · have := ho e h1; omega
theorem mleft_mem {es : List (Rw × Nat)} {seen : List Nat} {e : Rw × Nat} (h : e ∈ mleft es seen) : e ∈ es ∧ seen.contains e.2 = false := by
  unfold mleft at h
  obtain ⟨h1, h2⟩ := List.mem_filter.1 h
  exact ⟨h1, by simpa using h2⟩
theorem mleft_lt {es : List (Rw × Nat)} {seen : List Nat} {e : Rw × Nat} (h : e ∈ mleft es seen) : (mleft es (seen ++ [e.2])).length < (mleft es seen).length := by
  have : mleft es (seen ++ [e.2]) = (mleft es seen).filter (fun x => !(x.2 == e.2)) := by
    unfold mleft
    rw [List.filter_filter]
    refine List.filter_congr fun x _ => ?_
    rw [Bool.eq_iff_iff]; simp [and_comm]
  rw [this]
  exact List.length_filter_lt_length_iff_exists.2 ⟨e, h, by simp⟩
theorem mover_nil {es : List (Rw × Nat)} {seen : List Nat} {since : Nat} (h : mover es since seen = true) (ho : ∀ e ∈ es, e.2 < since) : ∀ e ∈ es, seen.contains e.2 = true := fun e he => by
  cases hs : seen.contains e.2 with
  | true => rfl
  | false =>
    unfold mover at h
    have := List.all_eq_true.1 h e (by unfold mleft; exact List.mem_filter.2 ⟨he, by show (!seen.contains e.2) = true; rw [hs]; rfl⟩)
    have := of_decide_eq_true this
    have := ho e he
    omega
theorem matB_mem : ∀ {es : List (Rw × Nat)} {e : Rw × Nat}, es.Pairwise (fun a b => a.2 ≠ b.2) → e ∈ es → matB e.2 es = some e
  | [], _, _, h => by simp at h
  | a :: l, e, hp, he => by
    obtain ⟨hp1, hp2⟩ := List.pairwise_cons.1 hp
    simp only [matB]
    rcases List.mem_cons.1 he with rfl | he
    · have : Nat.beq e.2 e.2 = true := Nat.beq_refl _
      rw [this]
    · have : Nat.beq a.2 e.2 = false := by
        cases hb : Nat.beq a.2 e.2 with
        | false => rfl
        | true => exact absurd (Nat.eq_of_beq_eq_true hb) (hp1 e he)
      rw [this]
      exact matB_mem hp2 he
theorem mgoes_ok {es : List (Rw × Nat)} {seen : List Nat} {last : Nat} (h : seen = [] ∨ (es ≠ [] ∧ ∀ e ∈ es, e.2 < last)) : mgoes es seen last = true := by
  unfold mgoes
  rcases h with rfl | ⟨h1, h2⟩
  · rfl
  · cases es with
    | nil => exact absurd rfl h1
    | cons a l =>
      have := h2 a (List.mem_cons_self ..)
      simp [this]
theorem pw_inj {α β : Type} {g : α → β} : ∀ {l : List α}, l.Pairwise (fun a b => g a ≠ g b) → ∀ a ∈ l, ∀ b ∈ l, g a = g b → a = b
  | [], _, a, ha, _, _, _ => by simp at ha
  | x :: l, hp, a, ha, b, hb, h => by
    obtain ⟨hp1, hp2⟩ := List.pairwise_cons.1 hp
    rcases List.mem_cons.1 ha with ha | ha
    · rcases List.mem_cons.1 hb with hb | hb
      · rw [ha, hb]
      · exact absurd (ha ▸ h) (hp1 b hb)
    · rcases List.mem_cons.1 hb with hb | hb
      · exact absurd (hb ▸ h).symm (hp1 a ha)
      · exact pw_inj hp2 a ha b hb h
theorem mgoes_all {es : List (Rw × Nat)} {seen : List Nat} {last : Nat} (h : ∀ e ∈ es, e.2 < last) : mgoes es seen last = true := by
  cases es with
  | nil => unfold mgoes; simp
  | cons a l => exact mgoes_ok (.inr ⟨by simp, h⟩)
/-- What a row tells of a line. -/
structure Pin (f : PF) (x : Rw) (T : List ByteArray) : Prop where
  nz : x.p 1 0 ≠ 0
  on : (f (x.p 1 0).pred).on = true
  z : (f (x.p 1 0).pred).z = x.p 1 1
  xs : (f (x.p 1 0).pred).xs = T.map rowT
  ln : x.p 1 2 = T.length
  cp : x.p 1 3 * 1 ≤ (f (x.p 1 0).pred).cap
  ne : T ≠ []
/-- The map tells the lines of what lies there. -/
structure LOk (f : PF) (es : List (Rw × Nat)) (clk : Nat) (th : Th) : Prop where
  key : es.Pairwise (fun a b => a.1.i 0 ≠ b.1.i 0)
  brn : es.Pairwise (fun a b => a.2 ≠ b.2)
  old : ∀ e ∈ es, e.2 < clk
  pin : ∀ e ∈ es, Pin f e.1 (lineOf th (e.1.i 0))
  sep : ∀ a ∈ es, ∀ b ∈ es, a.1.p 1 0 = b.1.p 1 0 → a.1.i 0 = b.1.i 0
  has : ∀ p ∈ th, ∃ e ∈ es, e.1.i 0 = p.1
theorem LOk.nil (f : PF) : LOk f [] 0 [] := ⟨.nil, .nil, fun _ h => by simp at h, fun _ h => by simp at h, fun _ h => by simp at h, fun _ h => by simp at h⟩
theorem LOk.row {f : PF} {es : List (Rw × Nat)} {clk : Nat} {th : Th} (h : LOk f es clk th) (k : Int) : ((mrow (.int .i64 k) es).p 1 0 = 0 ∧ lineOf th k = [] ∧ ∀ e ∈ es, e.1.i 0 ≠ k) ∨ (∃ e ∈ es, e.1 = mrow (.int .i64 k) es ∧ e.1.i 0 = k ∧ Pin f (mrow (.int .i64 k) es) (lineOf th k)) := by
  unfold mrow
  cases hf : mfind (.int .i64 k) es with
  | some e => obtain ⟨h1, h2⟩ := mfind_some hf; exact .inr ⟨e, h1, rfl, h2, h2 ▸ h.pin e h1⟩
  | none =>
    refine .inl ⟨rfl, line_nil.2 fun p hp e => ?_, mfind_none hf⟩
    obtain ⟨a, ha, hk⟩ := h.has p hp
    exact mfind_none hf a ha (hk.trans e)
theorem Pin.mono {f f0 : PF} {x : Rw} {T : List ByteArray} (h : Pin f x T) (e : f0 (x.p 1 0).pred = f (x.p 1 0).pred) : Pin f0 x T :=
  ⟨h.nz, by rw [e]; exact h.on, by rw [e]; exact h.z, by rw [e]; exact h.xs, h.ln, by rw [e]; exact h.cp, h.ne⟩
/-- A line is taken away. -/
theorem LOk.rem {f f0 : PF} {es es' : List (Rw × Nat)} {clk : Nat} {th : Th} (h : LOk f es clk th) {k : Int} (hs : es'.Sublist es) (h1 : ∀ e ∈ es', e.1.i 0 ≠ k) (h2 : ∀ e ∈ es, e.1.i 0 ≠ k → e ∈ es')
    (hf : ∀ e ∈ es, e.1.i 0 ≠ k → f0 (e.1.p 1 0).pred = f (e.1.p 1 0).pred) : LOk f0 es' clk (th.filter (fun p => !decide (p.1 = k))) where
  key := h.key.sublist hs
  brn := h.brn.sublist hs
  old := fun e he => h.old e (hs.subset he)
  pin := fun e he => by
    rw [line_take, if_neg (h1 e he)]
    exact (h.pin e (hs.subset he)).mono (hf e (hs.subset he) (h1 e he))
  sep := fun a ha b hb => h.sep a (hs.subset ha) b (hs.subset hb)
  has := fun p hp => by
    obtain ⟨hp, hk⟩ := List.mem_filter.1 hp
    obtain ⟨e, he, hke⟩ := h.has p hp
    exact ⟨e, h2 e he (by rw [hke]; simpa using hk), hke⟩
theorem mdel_sub (k : AV) : ∀ (es : List (Rw × Nat)), (mdel k es).Sublist es
  | [] => .slnil
  | a :: l => by
    simp only [mdel]
    split
    · exact List.sublist_cons_self a l
    · exact (mdel_sub k l).cons₂ a
theorem mdel_mem2 {k : Int} : ∀ {es : List (Rw × Nat)} {e : Rw × Nat}, e ∈ es → e.1.i 0 ≠ k → e ∈ mdel (.int .i64 k) es
  | [], _, h, _ => by simp at h
  | a :: l, e, h, hk => by
    simp only [mdel]
    split
    · rename_i ha
      rcases List.mem_cons.1 h with rfl | h
      · exact absurd (by simpa [isK] using ha) hk
      · exact h
    · rcases List.mem_cons.1 h with rfl | h
      · exact List.mem_cons_self ..
      · exact List.mem_cons_of_mem _ (mdel_mem2 h hk)
theorem mdel_key {k : Int} : ∀ {es : List (Rw × Nat)}, es.Pairwise (fun a b => a.1.i 0 ≠ b.1.i 0) → ∀ e ∈ mdel (.int .i64 k) es, e.1.i 0 ≠ k
  | [], _, e, h => by simp [mdel] at h
  | a :: l, hp, e, h => by
    obtain ⟨hp1, hp2⟩ := List.pairwise_cons.1 hp
    simp only [mdel] at h
    split at h
    · rename_i ha
      have ha : a.1.i 0 = k := by simpa [isK] using ha
      exact fun e' => hp1 e h (ha.trans e'.symm)
    · rename_i ha
      have ha : a.1.i 0 ≠ k := by simpa [isK] using ha
      rcases List.mem_cons.1 h with rfl | h
      · exact ha
      · exact mdel_key hp2 e h
theorem LOk.del {f f0 : PF} {es : List (Rw × Nat)} {clk : Nat} {th : Th} (h : LOk f es clk th) (k : Int) (hf : ∀ e ∈ es, e.1.i 0 ≠ k → f0 (e.1.p 1 0).pred = f (e.1.p 1 0).pred) : LOk f0 (mdel (.int .i64 k) es) clk (th.filter (fun p => !decide (p.1 = k))) :=
  h.rem (mdel_sub _ es) (mdel_key h.key) (fun e he hk => mdel_mem2 he hk) hf
/-- A thing is laid behind its line. -/
theorem LOk.put {f f0 : PF} {es : List (Rw × Nat)} {clk : Nat} {th : Th} (h : LOk f es clk th) {k : Int} {t : ByteArray} {b z l c cap : Nat} {xs : List Rw} (hoff : (f0 b).on = false) (hf : ∀ e ∈ es, e.1.i 0 ≠ k → f0 (e.1.p 1 0).pred = f (e.1.p 1 0).pred)
    (hx : xs = (lineOf th k ++ [t]).map rowT) (hl : l = (lineOf th k).length + 1) (hc : c * 1 ≤ cap) :
    LOk (pset f0 b ⟨true, z, xs, cap⟩) (mput (rwA [.int .i64 k, .pv (b + 1) z l c]) (.int .i64 k) clk es) (mclk (.int .i64 k) es clk) (th ++ [(k, t)]) := by
  have hother : ∀ e ∈ es, e.1.i 0 ≠ k → (e.1.p 1 0).pred ≠ b := fun e he hk hb => by
    have := (h.pin e he).on
    rw [← hf e he hk, hb, hoff] at this; cases this
  refine ⟨mput_key rfl h.key, mput_brn h.key h.brn h.old, mput_old h.key h.old, fun e he => ?_, fun a ha a' ha' hq => ?_, fun p hp => ?_⟩
  · rcases mput_mem h.key e he with ⟨h1, _⟩ | ⟨h1, h2⟩
    · rw [h1]
      show Pin _ _ (lineOf (th ++ [(k, t)]) k)
      rw [line_snoc, if_pos rfl]
      have e0 : pset f0 b ⟨true, z, xs, cap⟩ b = ⟨true, z, xs, cap⟩ := pset_same _ _ _
      refine ⟨(by show b + 1 ≠ 0; omega), ?_, ?_, ?_, ?_, ?_, by simp⟩
      · show (pset f0 b ⟨true, z, xs, cap⟩ b).on = true; rw [e0]
      · show (pset f0 b ⟨true, z, xs, cap⟩ b).z = z; rw [e0]
      · show (pset f0 b ⟨true, z, xs, cap⟩ b).xs = _; rw [e0]; exact hx
      · show l = _; rw [hl]; simp
      · show c * 1 ≤ (pset f0 b ⟨true, z, xs, cap⟩ b).cap; rw [e0]; exact hc
    · rw [line_snoc, if_neg (fun e => h2 e.symm)]
      refine (h.pin e h1).mono ?_
      rw [pset_other _ (hother e h1 h2)]
      exact hf e h1 h2
  · rcases mput_mem h.key a ha with ⟨h1, _⟩ | ⟨h1, h2⟩
    · rcases mput_mem h.key a' ha' with ⟨h3, _⟩ | ⟨h3, h4⟩
      · rw [h1, h3]
      · exfalso
        rw [h1] at hq
        exact hother a' h3 h4 (by rw [← hq]; rfl)
    · rcases mput_mem h.key a' ha' with ⟨h3, _⟩ | ⟨h3, h4⟩
      · exfalso
        rw [h3] at hq
        exact hother a h1 h2 (by rw [hq]; rfl)
      · exact h.sep a h1 a' h3 hq
  · refine mput_has rfl ?_
    rcases List.mem_append.1 hp with hp | hp
    · exact .inr (h.has p hp)
    · simp at hp; subst hp; exact .inl rfl
theorem LOk.stay {f : PF} {es : List (Rw × Nat)} {clk : Nat} {th : Th} (h : LOk f es clk th) {b : Nat} {k : Int} {e0 : Rw × Nat} (h0 : e0 ∈ es) (hk : e0.1.i 0 = k) (hb : e0.1.p 1 0 = b) : ∀ e ∈ es, e.1.i 0 ≠ k → pset f b.pred .off (e.1.p 1 0).pred = f (e.1.p 1 0).pred := fun e he hne => by
  refine pset_other _ (fun hq => hne ?_) _
  rw [← hk]
  refine h.sep e he e0 h0 ?_
  have h1 := (h.pin e he).nz
  have h2 := (h.pin e0 h0).nz
  rw [hb] at h2 ⊢
  have a1 : (e.1.p 1 0).pred = e.1.p 1 0 - 1 := rfl
  have a2 : b.pred = b - 1 := rfl
  omega
theorem LOk.left {f : PF} {es : List (Rw × Nat)} {seen : List Nat} {clk : Nat} {th : Th} (h : LOk f (mleft es seen) clk th) {e : Rw × Nat} (he : e ∈ mleft es seen) (hb : es.Pairwise (fun a b => a.2 ≠ b.2)) (hk : es.Pairwise (fun a b => a.1.i 0 ≠ b.1.i 0)) {f0 : PF} (hf : ∀ a ∈ mleft es seen, a.1.i 0 ≠ e.1.i 0 → f0 (a.1.p 1 0).pred = f (a.1.p 1 0).pred) :
    LOk f0 (mleft es (seen ++ [e.2])) clk (th.filter (fun p => !decide (p.1 = e.1.i 0))) := by
  have hes := (mleft_mem he).1
  have inj : ∀ a ∈ es, a.1.i 0 = e.1.i 0 → a = e := fun a ha hq => pw_inj hk a ha e hes hq
  have inj2 : ∀ a ∈ es, a.2 = e.2 → a = e := fun a ha hq => pw_inj hb a ha e hes hq
  have hfil : mleft es (seen ++ [e.2]) = (mleft es seen).filter (fun x => !(x.2 == e.2)) := by
    unfold mleft
    rw [List.filter_filter]
    refine List.filter_congr fun x _ => ?_
    rw [Bool.eq_iff_iff]; simp [and_comm]
  refine h.rem (by rw [hfil]; exact List.filter_sublist ..) (fun a ha hq => ?_) (fun a ha hq => ?_) hf
  · rw [hfil] at ha
    obtain ⟨h1, h2⟩ := List.mem_filter.1 ha
    have := inj a (mleft_mem h1).1 hq
    subst this
    simp at h2
  · rw [hfil]
    refine List.mem_filter.2 ⟨ha, ?_⟩
    have : a.2 ≠ e.2 := fun e2 => hq (by rw [inj2 a (mleft_mem ha).1 e2])
    simpa using this
end Go.Tb.W
