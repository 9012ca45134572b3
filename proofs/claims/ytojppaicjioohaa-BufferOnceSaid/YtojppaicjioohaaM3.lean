/- The abstract machine's operations that only compute on temporaries: each is the machine's own. -/
import Derived.Test.YtojppaicjioohaaM2
set_option linter.all false
namespace Go.Tb
open Go
variable {O : Type} {P : Program}

/-! ### Two operands -/
def aint (op : BinOp) (k : IntKind) (a b : Int) (K : AV → Prop) : Prop := match op with
  | .add => K (.int k (k.wrap (a + b)))
  | .sub => K (.int k (k.wrap (a - b)))
  | .mul => K (.int k (k.wrap (a * b)))
  | .quo => must (decide (b ≠ 0)) (K (.int k (k.wrap (a.tdiv b))))
  | .rem => must (decide (b ≠ 0)) (K (.int k (a.tmod b)))
  | .and => K (.int k (bits .and k a b))
  | .or => K (.int k (bits .or k a b))
  | .xor => K (.int k (bits .xor k a b))
  | .andNot => K (.int k (bits .andNot k a b))
  | .eql => K (.bool (a == b))
  | .neq => K (.bool (a != b))
  | .lss => K (.bool (decide (a < b)))
  | .leq => K (.bool (decide (a ≤ b)))
  | .gtr => K (.bool (decide (a > b)))
  | .geq => K (.bool (decide (a ≥ b)))
  | _ => False
def aguard (P : Program) (t : TypeId) (x y : AV) : Bool := match x, y with
  | .agg _, .agg _ => !(P.eqGuardType P.depth t)
  | .nili, .nili => false
  | _, _ => true
def aeql (P : Program) (t : TypeId) (x y : AV) (K : Bool → Prop) : Prop := match aguard P t x y with
  | true => match eqv P 10000 t x y with | some b => K b | none => False
  | false => False
def abin (P : Program) (op : BinOp) (t : TypeId) (x y : AV) (K : AV → Prop) : Prop := match x, y with
  | .int k a, .int k' b => match op with
    | .shl => must (decide (0 ≤ b)) (K (.int k (k.wrap (a * 2 ^ (min b.toNat k.bits)))))
    | .shr => must (decide (0 ≤ b)) (K (.int k (a.fdiv (2 ^ (min b.toNat k.bits)))))
    | op => must (decide (k = k')) (aint op k a b K)
  | .str a, .str b => match op with
    | .add => (((a.size + b.size : Nat) : Int) ≤ IntKind.i64.max) ∧ K (.str (a ++ b))
    | .eql => K (.bool (a.toList == b.toList))
    | .neq => K (.bool (!(a.toList == b.toList)))
    | .lss => K (.bool (Op.bytesLess a.toList b.toList))
    | .geq => K (.bool (!Op.bytesLess a.toList b.toList))
    | _ => False
  | x, y => match op with
    | .eql => aeql P t x y fun b => K (.bool b)
    | .neq => aeql P t x y fun b => K (.bool (!b))
    | _ => False

theorem aint_ok {op : BinOp} {t : TypeId} {k : IntKind} {a b : Int} {K : AV → Prop} (hs1 : op ≠ .shl) (hs2 : op ≠ .shr) (h : aint op k a b K) :
    ∃ v, K v ∧ ∃ z, (inK k a = true → ∀ ρ : Rho, Den ρ v z) ∧ ∀ w, (binOp op t (.int k a) (.int k b)).run P w = .ok z w := by
  cases op <;> simp only [aint] at h
  case quo => obtain ⟨hb, h⟩ := must_spec h; exact ⟨_, h, _, fun _ ρ => .int _ _ (inK_wrap _ _), fun w => by simp at hb; simp [binOp, Op.intDiv, hb]⟩
  case rem => obtain ⟨hb, h⟩ := must_spec h; exact ⟨_, h, _, fun ha ρ => .int _ _ (inK_tmod ha), fun w => by simp at hb; simp [binOp, Op.intDiv, hb]⟩
  case add | sub | mul => exact ⟨_, h, _, fun _ ρ => .int _ _ (inK_wrap _ _), fun w => by simp [binOp, Op.intArith]⟩
  case and | or | xor | andNot => exact ⟨_, h, _, fun _ ρ => .int _ _ (inK_wrap _ _), fun w => by simp [binOp, intBits_and, intBits_or, intBits_xor, intBits_andNot]⟩
  all_goals exact ⟨_, h, _, fun _ ρ => .bool _, fun w => by simp [binOp, Op.intCmp]⟩

theorem eqGuard_ok {op : BinOp} {t : TypeId} {ox oy : Operand} {x y : Value} (h : ∀ xs ys, x = .agg xs → y = .agg ys → P.eqGuardType P.depth t = false) (h2 : x = .nilIface → y = .nilIface → False) (w : World) :
    (eqGuard op t ox oy x y).run P w = .ok () w := by
  unfold eqGuard
  cases op <;> first
    | rfl
    | (simp only [Bool.not_true, Bool.false_eq_true, if_false]
       split
       · exact (h2 rfl rfl).elim
       · have := h _ _ rfl rfl
         simp [run_program, this]
       · rfl)

theorem aeql_ok {t : TypeId} {x y : AV} {K : Bool → Prop} (h : aeql P t x y K) : ∃ b, K b ∧ eqv P 10000 t x y = some b ∧ ∀ ρ x' y', Den ρ x x' → Den ρ y y' → (∀ w, (Op.equal t x' y').run P w = .ok b w) ∧ (∀ op ox oy w, (eqGuard op t ox oy x' y').run P w = .ok () w) := by
  unfold aeql at h
  split at h
  · rename_i hg
    split at h
    · rename_i b hb
      refine ⟨b, h, hb, fun ρ x' y' hx hy => ⟨fun w => run_eqv _ ρ t x y b hb x' y' hx hy w, fun op ox oy w => eqGuard_ok ?_ ?_ w⟩⟩
      · rintro xs ys rfl rfl
        cases hx; cases hy
        simpa [aguard] using hg
      · rintro rfl rfl
        cases hx; cases hy
        simp [aguard] at hg
    · exact h.elim
  · exact h.elim

theorem eqv_int {d : Nat} {t : TypeId} {k : IntKind} {a : Int} {y : AV} {b : Bool} (h : eqv P d t (.int k a) y = some b) : ∃ k' b', y = .int k' b' := by
  cases d with
  | zero => simp [eqv] at h
  | succ d =>
    cases y with
    | int k' b' => exact ⟨_, _, rfl⟩
    | _ => unfold eqv at h; cases hm : mkTU P t with
      | none => rw [hm] at h; simp at h
      | some u => rw [hm] at h; cases u <;> simp at h
theorem eqv_str {d : Nat} {t : TypeId} {s : ByteArray} {y : AV} {b : Bool} (h : eqv P d t (.str s) y = some b) : ∃ s', y = .str s' := by
  cases d with
  | zero => simp [eqv] at h
  | succ d =>
    cases y with
    | str s' => exact ⟨_, rfl⟩
    | _ => unfold eqv at h; cases hm : mkTU P t with
      | none => rw [hm] at h; simp at h
      | some u => rw [hm] at h; cases u <;> simp at h

theorem equal_bin {op : BinOp} {t : TypeId} {x y : Value} (hop : op = .eql ∨ op = .neq) (h1 : ∀ k a, x ≠ .int k a) (h2 : ∀ s, x ≠ .string s) (h3 : ∀ k a, x ≠ .float k a) (h4 : ∀ k a b, x ≠ .complex k a b) {b : Bool} {w : World} (h : (Op.equal t x y).run P w = .ok b w) :
    (binOp op t x y).run P w = .ok (.bool (if op = .eql then b else !b)) w := by
  rcases hop with rfl | rfl
  all_goals
    unfold binOp
    split <;> first
      | (rename_i h5; simp at h5; done)
      | (exfalso; first | exact h1 _ _ rfl | exact h2 _ rfl | exact h3 _ _ rfl | exact h4 _ _ _ rfl)
      | (simp [h]; done)
      | (simp_all; done)

theorem abin_ok {op : BinOp} {t : TypeId} {x y : AV} {K : AV → Prop} (h : abin P op t x y K) :
    ∃ v, K v ∧ ∀ ρ x' y', Den ρ x x' → Den ρ y y' → ∃ z, Den ρ v z ∧ ∀ ox oy w, (do eqGuard op t ox oy x' y'; binOp op t x' y').run P w = .ok z w := by
  have ints : ∀ ox oy (w : World) (k k' : IntKind) (a b : Int), (eqGuard op t ox oy (.int k a) (.int k' b)).run P w = .ok () w := fun ox oy w k k' a b => eqGuard_ok (by intro _ _ h; cases h) (by intro h; cases h) w
  have strs : ∀ ox oy (w : World) (a b : ByteArray), (eqGuard op t ox oy (.string a) (.string b)).run P w = .ok () w := fun ox oy w a b => eqGuard_ok (by intro _ _ h; cases h) (by intro h; cases h) w
  unfold abin at h
  split at h
  · rename_i k a k' b
    split at h
    · obtain ⟨hb, h⟩ := must_spec h
      refine ⟨_, h, fun ρ x' y' hx hy => ?_⟩
      cases hx; cases hy
      refine ⟨_, .int _ _ (inK_wrap _ _), fun ox oy w => ?_⟩
      simp at hb
      simp [ints, binOp, Op.shift, Int.not_lt.2 hb]
    · obtain ⟨hb, h⟩ := must_spec h
      refine ⟨_, h, fun ρ x' y' hx hy => ?_⟩
      cases hx with | int _ _ ha => cases hy with | int _ _ hb' =>
      refine ⟨_, .int _ _ (inK_fdiv _ ha), fun ox oy w => ?_⟩
      simp at hb
      simp [ints, binOp, Op.shift, Int.not_lt.2 hb]
    · rename_i hs1 hs2
      obtain ⟨hk, h⟩ := must_spec h
      have hk := of_decide_eq_true hk
      subst hk
      obtain ⟨v, hv, z, hz, hr⟩ := aint_ok (P := P) (t := t) hs1 hs2 ‹aint op k a b K›
      refine ⟨v, hv, fun ρ x' y' hx hy => ?_⟩
      cases hx with | int _ _ ha => cases hy with | int _ _ hb' =>
      refine ⟨z, hz ha ρ, fun ox oy w => ?_⟩
      simp [ints, hr]
  · split at h
    · obtain ⟨hb, h⟩ := h
      refine ⟨_, h, fun ρ x' y' hx hy => ?_⟩
      cases hx; cases hy
      have hmax : IntKind.i64.max = 9223372036854775807 := by decide
      refine ⟨_, .str _ (by rw [ByteArray.size_append]; omega), fun ox oy w => ?_⟩
      simp only [Sem.run_bind, strs, Result.andThen_ok, binOp, Op.stringOp]
      rw [if_neg (by omega)]
      rfl
    all_goals first
      | exact h.elim
      | (refine ⟨_, h, fun ρ x' y' hx hy => ?_⟩
         cases hx; cases hy
         refine ⟨_, .bool _, fun ox oy w => ?_⟩
         simp [strs, binOp, Op.stringOp])
  · rename_i hni hns
    have go : ∀ (b : Bool), (op = .eql ∨ op = .neq) → (∀ ρ x' y', Den ρ x x' → Den ρ y y' → (∀ w, (Op.equal t x' y').run P w = .ok b w) ∧ (∀ op ox oy w, (eqGuard op t ox oy x' y').run P w = .ok () w)) →
        (∀ k a, x ≠ .int k a) → (∀ s, x ≠ .str s) → K (.bool (if op = .eql then b else !b)) → ∃ v, K v ∧ ∀ ρ x' y', Den ρ x x' → Den ρ y y' → ∃ z, Den ρ v z ∧ ∀ ox oy w, (do eqGuard op t ox oy x' y'; binOp op t x' y').run P w = .ok z w := by
      intro b hop hq h1 h2 hK
      refine ⟨_, hK, fun ρ x' y' hx hy => ⟨_, .bool _, fun ox oy w => ?_⟩⟩
      obtain ⟨he, hg⟩ := hq ρ x' y' hx hy
      simp only [Sem.run_bind, hg, Result.andThen_ok]
      refine equal_bin hop ?_ ?_ ?_ ?_ (he w)
      · rintro k a rfl; cases hx; exact h1 _ _ rfl
      · rintro s rfl; cases hx; exact h2 _ rfl
      · rintro k a rfl; cases hx
      · rintro k a b rfl; cases hx
    have h1 : ∀ {b : Bool}, eqv P 10000 t x y = some b → ∀ k a, x ≠ .int k a := fun he k a hx => by
      subst hx; obtain ⟨k', b', hy⟩ := eqv_int he; exact hni _ _ _ _ rfl hy
    have h2 : ∀ {b : Bool}, eqv P 10000 t x y = some b → ∀ s, x ≠ .str s := fun he s hx => by
      subst hx; obtain ⟨s', hy⟩ := eqv_str he; exact hns _ _ rfl hy
    split at h
    · obtain ⟨b, hb, he, hq⟩ := aeql_ok h
      exact go b (.inl rfl) hq (h1 he) (h2 he) (by rw [if_pos rfl]; exact hb)
    · obtain ⟨b, hb, he, hq⟩ := aeql_ok h
      exact go b (.inr rfl) hq (h1 he) (h2 he) (by rw [if_neg (by decide)]; exact hb)
    · exact h.elim

end Go.Tb
