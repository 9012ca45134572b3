/- The abstract machine's operations that only compute, and that they are the machine's. -/
import Derived.Test.YtojppaicjioohaaM1
import Derived.Laws.StructEq
import Derived.Laws.Cells
import Derived.Laws.CopyRow
set_option linter.all false
namespace Go.Tb
open Go
variable {O : Type}

/-! ### Words at which an evaluation may stop -/
def bsplit (b : Bool) (K : Bool → Prop) : Prop := match b with | true => K true | false => K false
def must (b : Bool) (K : Prop) : Prop := match b with | true => K | false => False
theorem bsplit_spec {b : Bool} {K : Bool → Prop} (h : bsplit b K) : K b := by cases b <;> exact h
theorem bsplit_mk {b : Bool} {K : Bool → Prop} (h : K b) : bsplit b K := by cases b <;> exact h
theorem bsplit_both {b : Bool} {K : Bool → Prop} (h1 : b = true → K true) (h2 : b = false → K false) : bsplit b K := by cases b <;> simp_all [bsplit]
theorem must_spec {b : Bool} {K : Prop} (h : must b K) : b = true ∧ K := by cases b <;> simp_all [must]
theorem must_mk {b : Bool} {K : Prop} (h : b = true) (k : K) : must b K := by subst h; exact k
def lget (l : List AV) (i : Nat) (K : AV → Prop) : Prop := match l[i]? with | some v => K v | none => False
theorem lget_spec {l : List AV} {i : Nat} {K : AV → Prop} (h : lget l i K) : ∃ v, l[i]? = some v ∧ K v := by
  unfold lget at h; split at h
  · exact ⟨_, by assumption, h⟩
  · exact h.elim
theorem lget_mk {l : List AV} {i : Nat} {K : AV → Prop} {v : AV} (h : l[i]? = some v) (k : K v) : lget l i K := by unfold lget; rw [h]; exact k
def xget (xs : List Rw) (i : Nat) (K : Rw → Prop) : Prop := match xs[i]? with | some v => K v | none => False
theorem xget_spec {xs : List Rw} {i : Nat} {K : Rw → Prop} (h : xget xs i K) : ∃ v, xs[i]? = some v ∧ K v := by
  unfold xget at h; split at h
  · exact ⟨_, by assumption, h⟩
  · exact h.elim
theorem xget_mk {xs : List Rw} {i : Nat} {K : Rw → Prop} {v : Rw} (h : xs[i]? = some v) (k : K v) : xget xs i K := by unfold xget; rw [h]; exact k
def grab : List AV → Nat → Nat → Option (List AV)
  | _, _, 0 => some []
  | [], _, _ + 1 => none
  | x :: l, 0, n + 1 => match grab l 0 n with | some r => some (x :: r) | none => none
  | _ :: l, i + 1, n + 1 => grab l i (n + 1)
def lgrab (l : List AV) (i n : Nat) (K : List AV → Prop) : Prop := match grab l i n with | some v => K v | none => False
theorem lgrab_spec {l : List AV} {i n : Nat} {K : List AV → Prop} (h : lgrab l i n K) : ∃ v, grab l i n = some v ∧ K v := by
  unfold lgrab at h; split at h
  · exact ⟨_, by assumption, h⟩
  · exact h.elim
theorem lgrab_mk {l : List AV} {i n : Nat} {K : List AV → Prop} {v : List AV} (h : grab l i n = some v) (k : K v) : lgrab l i n K := by unfold lgrab; rw [h]; exact k
theorem grab_eq : ∀ (l : List AV) (i n : Nat) (r : List AV), grab l i n = some r → r = (l.drop i).take n ∧ r.length = n
  | _, _, 0, r, h => by simp [grab] at h; subst h; simp
  | [], _, _ + 1, r, h => by simp [grab] at h
  | x :: l, 0, n + 1, r, h => by
    simp only [grab] at h
    split at h
    · rename_i r' hr
      simp at h; subst h
      obtain ⟨h1, h2⟩ := grab_eq l 0 n r' hr
      simp at h1
      exact ⟨by simp [← h1], by simp [h2]⟩
    · cases h
  | _ :: l, i + 1, n + 1, r, h => by
    simp only [grab] at h
    simpa using grab_eq l i (n + 1) r h
theorem grab_of {l : List AV} {i n : Nat} (h : i + n ≤ l.length) : grab l i n = some ((l.drop i).take n) := by
  induction l generalizing i n with
  | nil => simp at h; obtain ⟨rfl, rfl⟩ := h; simp [grab]
  | cons x l ih =>
    cases n with
    | zero => simp [grab]
    | succ n => cases i with
      | zero => simp only [grab]; rw [ih (by simp at h; omega)]; simp
      | succ i => simp only [grab]; rw [ih (by simp at h; omega)]; simp
theorem grab_get {l : List AV} {i n : Nat} {r : List AV} (h : grab l i n = some r) {j : Nat} (hj : j < n) : ∃ v, r[j]? = some v ∧ l[i + j]? = some v := by
  obtain ⟨h1, h2⟩ := grab_eq l i n r h
  have hr : r[j]? = some (r[j]'(by omega)) := List.getElem?_eq_getElem (by omega)
  refine ⟨_, hr, ?_⟩
  rw [← hr]
  conv => rhs; rw [h1]
  rw [List.getElem?_take_of_lt hj, List.getElem?_drop]

/-! ### Types -/
structure FI where
  off : Nat
  size : Nat
  agg : Bool
  t : TypeId
inductive TU where
  | int (k : IntKind) | bool | str
  | struct (fs : List FI)
  | arr (n : Nat) (e : TypeId)
  | slice (e : TypeId) | ptr (e : TypeId) | map (k e : TypeId) | chan (e : TypeId)
  | iface | func | other
def aggD : TypeDesc → Bool | .struct _ | .array _ _ => true | _ => false
def mkFI (P : Program) (f : Field) : Option FI := match P.info? f.type, P.underlying f.type with
  | some i, some d => if i.size == 0 || f.name == "_" then none else some ⟨f.offset, i.size, aggD d, f.type⟩
  | _, _ => none
def mkFIs (P : Program) : List Field → Option (List FI)
  | [] => some []
  | f :: l => match mkFI P f, mkFIs P l with
    | some a, some r => some (a :: r)
    | _, _ => none
def mkTU (P : Program) (t : TypeId) : Option TU := match P.underlying t with
  | some (.int k) => some (.int k)
  | some .bool => some .bool
  | some .string => some .str
  | some (.struct fs) => match mkFIs P fs.toList with | some l => some (.struct l) | none => none
  | some (.array n e) => some (.arr n e)
  | some (.slice e) => some (.slice e)
  | some (.pointer e) => some (.ptr e)
  | some (.map k e) => some (.map k e)
  | some (.chan _ e) => some (.chan e)
  | some (.interface _) => some .iface
  | some (.func _ _ _) => some .func
  | _ => none
def szT (P : Program) (t : TypeId) : Option Nat := match P.info? t with | some i => some i.size | none => none
def aggT (P : Program) (t : TypeId) : Option Bool := match P.underlying t with | some d => some (aggD d) | none => none
/-- A type's zero value. -/
def zeroT (P : Program) (t : TypeId) : Option AV := match P.info? t with
  | some i => match i.zero with | some z => toAVA z | none => none
  | none => none

section
variable {P : Program}
theorem mkTU_int {t : TypeId} {k : IntKind} (h : mkTU P t = some (.int k)) : P.underlying t = some (.int k) := by
  unfold mkTU at h; split at h <;> try (cases h; done)
  · rename_i k' hk; cases h; exact hk
  · split at h <;> cases h
theorem mkTU_bool {t : TypeId} (h : mkTU P t = some .bool) : P.underlying t = some .bool := by
  unfold mkTU at h; split at h <;> try (cases h; done)
  · assumption
  · split at h <;> cases h
theorem mkTU_str {t : TypeId} (h : mkTU P t = some .str) : P.underlying t = some .string := by
  unfold mkTU at h; split at h <;> try (cases h; done)
  · assumption
  · split at h <;> cases h
theorem mkTU_struct {t : TypeId} {l : List FI} (h : mkTU P t = some (.struct l)) : ∃ fs : Array Field, P.underlying t = some (.struct fs) ∧ mkFIs P fs.toList = some l := by
  unfold mkTU at h; split at h <;> try (cases h; done)
  rename_i fs hfs
  split at h
  · rename_i l' hl; cases h; exact ⟨fs, hfs, hl⟩
  · cases h
theorem mkTU_arr {t : TypeId} {n : Nat} {e : TypeId} (h : mkTU P t = some (.arr n e)) : P.underlying t = some (.array n e) := by
  unfold mkTU at h; split at h <;> try (cases h; done)
  · split at h <;> cases h
  · rename_i k' hk _; cases h; assumption
theorem mkTU_slice {t : TypeId} {e : TypeId} (h : mkTU P t = some (.slice e)) : P.underlying t = some (.slice e) := by
  unfold mkTU at h; split at h <;> try (cases h; done)
  · split at h <;> cases h
  · cases h; assumption
theorem mkTU_ptr {t : TypeId} {e : TypeId} (h : mkTU P t = some (.ptr e)) : P.underlying t = some (.pointer e) := by
  unfold mkTU at h; split at h <;> try (cases h; done)
  · split at h <;> cases h
  · cases h; assumption
theorem mkTU_map {t : TypeId} {k e : TypeId} (h : mkTU P t = some (.map k e)) : P.underlying t = some (.map k e) := by
  unfold mkTU at h; split at h <;> try (cases h; done)
  · split at h <;> cases h
  · cases h; assumption
theorem mkTU_chan {t : TypeId} {e : TypeId} (h : mkTU P t = some (.chan e)) : ∃ d, P.underlying t = some (.chan d e) := by
  unfold mkTU at h; split at h <;> try (cases h; done)
  · split at h <;> cases h
  · cases h; exact ⟨_, by assumption⟩
theorem mkTU_iface {t : TypeId} (h : mkTU P t = some .iface) : ∃ m, P.underlying t = some (.interface m) := by
  unfold mkTU at h; split at h <;> try (cases h; done)
  · split at h <;> cases h
  · exact ⟨_, by assumption⟩
theorem mkTU_some {t : TypeId} {u : TU} (h : mkTU P t = some u) : (P.underlying t).isSome = true := by
  unfold mkTU at h; split at h <;> first | (cases h; done) | simp [*]
theorem mkTU_not_iface {t : TypeId} {u : TU} (h : mkTU P t = some u) (hu : u ≠ .iface) : ∃ d, P.underlying t = some d ∧ ∀ m, d ≠ .interface m := by
  have hs := mkTU_some h
  obtain ⟨d, hd⟩ := Option.isSome_iff_exists.1 hs
  refine ⟨d, hd, fun m hm => ?_⟩
  subst hm
  simp [mkTU, hd] at h
  exact hu h.symm
theorem mkFIs_get : ∀ {fs : List Field} {l : List FI}, mkFIs P fs = some l → ∀ {i : Nat} {f : FI}, l[i]? = some f → ∃ g, fs[i]? = some g ∧ mkFI P g = some f
  | [], l, h, i, f, hf => by simp [mkFIs] at h; subst h; simp at hf
  | g :: fs, l, h, i, f, hf => by
    simp only [mkFIs] at h
    split at h
    · rename_i a r ha hr
      cases h
      cases i with
      | zero => simp at hf; subst hf; exact ⟨g, rfl, ha⟩
      | succ i => simpa using mkFIs_get hr (by simpa using hf)
    · cases h
theorem mkFI_spec {g : Field} {f : FI} (h : mkFI P g = some f) : ∃ i d, P.info? g.type = some i ∧ P.underlying g.type = some d ∧ i.size ≠ 0 ∧ g.name ≠ "_" ∧ f.off = g.offset ∧ f.size = i.size ∧ f.agg = aggD d ∧ f.t = g.type := by
  unfold mkFI at h
  split at h
  · rename_i i d hi hd
    split at h
    · cases h
    · rename_i hc
      simp at hc
      cases h
      exact ⟨i, d, hi, hd, by simpa using hc.1, hc.2, rfl, rfl, rfl, rfl⟩
  · cases h
theorem szT_spec {t : TypeId} {n : Nat} (h : szT P t = some n) : ∃ i, P.info? t = some i ∧ i.size = n := by
  unfold szT at h; split at h
  · cases h; exact ⟨_, by assumption, rfl⟩
  · cases h
theorem run_sizeOf {t : TypeId} {n : Nat} (h : szT P t = some n) (w : World) : (sizeOf t).run P w = .ok n w := by
  obtain ⟨i, hi, hn⟩ := szT_spec h
  simp [sizeOf, typeInfo, run_program, hi, hn]
theorem run_isAgg {t : TypeId} {b : Bool} (h : aggT P t = some b) (w : World) : (isAgg t).run P w = .ok b w := by
  unfold aggT at h
  split at h
  · rename_i d hd
    cases h
    simp only [isAgg, Sem.run_bind, run_underlying hd, Result.andThen_ok]
    cases d <;> rfl
  · cases h
theorem zeroT_spec {t : TypeId} {v : AV} (h : zeroT P t = some v) : ∃ z, (∀ w, (zeroValue t).run P w = .ok z w) ∧ ∀ ρ : Rho, Den ρ v z := by
  unfold zeroT at h
  split at h
  · rename_i i hi
    split at h
    · rename_i z hz
      exact ⟨z, fun w => by simp [zeroValue, typeInfo, run_program, hi, hz], fun ρ => toAVA_den h ρ⟩
    · cases h
  · cases h
end

/-! ### Operands -/
def ev (tm : Tr AV) : Operand → Option AV
  | .tmp t => tm.get t
  | .const v => toAVA v
  | .func f => some (.fn (.func f) [] [])
  | .global _ => none
def evs (tm : Tr AV) : List Operand → Option (List AV)
  | [] => some []
  | x :: l => match ev tm x, evs tm l with
    | some v, some r => some (v :: r)
    | _, _ => none
theorem ev_spec {ρ : Rho} {tm : Tr AV} {a : Act} (h : TmOk ρ tm a.tmps) {x : Operand} {v : AV} (hv : ev tm x = some v) : Den ρ v (a.eval x) := by
  cases x with
  | tmp t =>
    obtain ⟨y, hy, hd⟩ := h t v hv
    have hy' : a.tmps.getD t undef = y := by simp [Array.getD_eq_getD_getElem?, hy]
    have : a.eval (.tmp t) = y := hy'
    rw [this]; exact hd
  | const c => exact toAVA_den hv ρ
  | func f => simp [ev] at hv; subst hv; exact .fn (.func f) .nil .nil
  | global g => simp [ev] at hv
theorem evs_spec {ρ : Rho} {tm : Tr AV} {a : Act} (h : TmOk ρ tm a.tmps) : ∀ {l : List Operand} {r : List AV}, evs tm l = some r → Dens ρ r (l.map a.eval)
  | [], r, hr => by simp [evs] at hr; subst hr; exact .nil
  | x :: l, r, hr => by
    simp only [evs] at hr
    split at hr
    · rename_i v r' hv hr'
      cases hr
      exact .cons (ev_spec h hv) (evs_spec h hr')
    · cases hr
def withV (x : Option AV) (K : AV → Prop) : Prop := match x with | some v => K v | none => False
theorem withV_spec {x : Option AV} {K : AV → Prop} (h : withV x K) : ∃ v, x = some v ∧ K v := by
  cases x with
  | none => exact h.elim
  | some v => exact ⟨v, rfl, h⟩

/-! ### Equality -/
def partA (f : FI) (xs : List AV) : Option AV := match f.agg with
  | true => match grab xs f.off f.size with | some l => some (.agg l) | none => none
  | false => xs[f.off]?
def eqFs (eq : TypeId → AV → AV → Option Bool) (xs ys : List AV) : List FI → Option Bool
  | [] => some true
  | f :: r => match partA f xs, partA f ys with
    | some a, some b => match eq f.t a b, eqFs eq xs ys r with
      | some p, some q => some (p && q)
      | _, _ => none
    | _, _ => none
def eqL : List AV → List AV → Option Bool
  | [], [] => some true
  | .int k a :: l, .int k' b :: r => match decide (k = k') with
    | true => match eqL l r with | some q => some (a == b && q) | none => none
    | false => none
  | _, _ => none
def eqv (P : Program) : Nat → TypeId → AV → AV → Option Bool
  | 0, _, _, _ => none
  | d + 1, t, x, y => match mkTU P t, x, y with
    | some .bool, .bool a, .bool b => some (a == b)
    | some (.int _), .int k a, .int k' b => match decide (k = k') with | true => some (a == b) | false => none
    | some .str, .str a, .str b => some (a == b)
    | some (.struct fs), .agg xs, .agg ys => match P.stoodInHeld t with
      | false => eqFs (eqv P d) xs ys fs
      | true => none
    | some (.ptr _), .nilp, .nilp => some true
    | some (.ptr _), .nilp, .ptr _ _ => some false
    | some (.ptr _), .ptr _ _, .nilp => some false
    | some (.ptr _), .nilp, .ep _ _ _ _ _ => some false
    | some (.ptr _), .ep _ _ _ _ _, .nilp => some false
    | some (.slice _), .nils, .nils => some true
    | some (.slice _), .nils, .sl _ _ _ _ => some false
    | some (.slice _), .nils, .sd _ _ _ _ _ _ => some false
    | some (.slice _), .slq _ _ _ q, .nils => some q
    | some (.slice _), .sd _ _ _ _ _ _, .nils => some false
    | some (.slice _), .sl _ _ _ _, .nils => some false
    | some (.map _ _), .nilm, .nilm => some true
    | some (.map _ _), .map _, .nilm => some false
    | some (.map _ _), .nilm, .map _ => some false
    | _, _, _ => none

section
variable {P : Program}
theorem run_part {g : Field} {f : FI} (hf : mkFI P g = some f) {ρ : Rho} {xs : List AV} {xs' : List Value} (hx : Dens ρ xs xs') {v : AV} (hv : partA f xs = some v) :
    ∃ x, Den ρ v x ∧ ∀ w, (part g.type xs'.toArray g.offset).run P w = .ok x w := by
  obtain ⟨i, d, hi, hd, hs, hn, h1, h2, h3, h4⟩ := mkFI_spec hf
  have ha : aggT P g.type = some f.agg := by simp [aggT, hd, h3]
  have hz : szT P g.type = some f.size := by simp [szT, hi, h2]
  unfold partA at hv
  cases hag : f.agg with
  | true =>
    rw [hag] at hv ha
    simp only at hv
    split at hv
    · rename_i l hl
      cases hv
      obtain ⟨e1, e2⟩ := grab_eq _ _ _ _ hl
      have hd' : Dens ρ l ((xs'.drop f.off).take f.size) := by rw [e1]; exact (hx.drop _).take _
      refine ⟨_, .agg hd', fun w => ?_⟩
      simp only [part, Sem.run_bind, run_isAgg ha, Result.andThen_ok, if_true, run_sizeOf hz, Sem.run_pure]
      congr 2
      simp [← h1, List.extract_eq_take_drop, Nat.add_sub_cancel_left]
    · cases hv
  | false =>
    rw [hag] at hv ha
    simp only at hv
    obtain ⟨x, hx', hdx⟩ := hx.get hv
    refine ⟨x, hdx, fun w => ?_⟩
    simp only [part, Sem.run_bind, run_isAgg ha, Result.andThen_ok, Bool.false_eq_true, if_false]
    rw [← h1]
    simp [hx']
theorem run_eqFs {d : Nat} {ρ : Rho} {xs ys : List AV} {xs' ys' : List Value} (hx : Dens ρ xs xs') (hy : Dens ρ ys ys')
    (ih : ∀ t x y b, eqv P d t x y = some b → ∀ x' y', Den ρ x x' → Den ρ y y' → ∀ w, (Op.equalIn d t x' y').run P w = .ok b w) :
    ∀ {gs : List Field} {fs : List FI} {b : Bool}, mkFIs P gs = some fs → eqFs (eqv P d) xs ys fs = some b → ∀ w, (Op.eqFields d xs'.toArray ys'.toArray gs).run P w = .ok b w
  | [], fs, b, hf, hb, w => by simp [mkFIs] at hf; subst hf; simp [eqFs] at hb; subst hb; simp [Op.eqFields]
  | g :: gs, fs, b, hf, hb, w => by
    simp only [mkFIs] at hf
    split at hf
    · rename_i f r h1 h2
      cases hf
      simp only [eqFs] at hb
      split at hb
      · rename_i u v hu hv
        split at hb
        · rename_i p q hp hq
          cases hb
          obtain ⟨i, dd, hi, hd, hs, hn, k1, k2, k3, k4⟩ := mkFI_spec h1
          obtain ⟨x, dx, rx⟩ := run_part h1 hx hu
          obtain ⟨y, dy, ry⟩ := run_part h1 hy hv
          have he := ih _ _ _ _ hp x y dx dy w
          have hr := run_eqFs hx hy ih h2 hq w
          rw [k4] at he
          simp only [Op.eqFields, if_pos hn, Sem.run_bind, rx, ry, he, Result.andThen_ok]
          cases p
          · simp
          · simpa using hr
        · cases hb
      · cases hb
    · cases hf
theorem run_eqv : ∀ (d : Nat) (ρ : Rho) (t : TypeId) (x y : AV) (b : Bool), eqv P d t x y = some b → ∀ x' y', Den ρ x x' → Den ρ y y' → ∀ w, (Op.equalIn d t x' y').run P w = .ok b w
  | 0, _, _, _, _, _, h, _, _, _, _, _ => by simp [eqv] at h
  | d + 1, ρ, t, x, y, b, h, x', y', hx, hy, w => by
    unfold eqv at h
    split at h
    · rename_i ht; cases h; cases hx; cases hy; simp [Op.equalIn, run_underlying (mkTU_bool ht)]
    · rename_i ht
      split at h
      · rename_i hk
        cases h; cases hx; cases hy
        have hk := of_decide_eq_true hk
        subst hk
        simp [Op.equalIn, run_underlying (mkTU_int ht)]
      · cases h
    · rename_i ht; cases h; cases hx; cases hy; simp [Op.equalIn, run_underlying (mkTU_str ht)]
    · rename_i ht
      split at h
      · rename_i hp
        cases hx with | agg hx => cases hy with | agg hy =>
        obtain ⟨fs, hfs, hl⟩ := mkTU_struct ht
        have hf : P.fieldsOf t = fs := by simp [Program.fieldsOf, hfs]
        rw [run_equalIn_struct w d t _ _ (by rw [hf]; exact hfs) hp, hf]
        exact run_eqFs hx hy (fun t x y b hb x' y' hx hy w => run_eqv d ρ t x y b hb x' y' hx hy w) hl h w
      · cases h
    all_goals first
      | (cases h; done)
      | (rename_i ht; cases h; cases hx <;> cases hy <;> first
          | (simp [Op.equalIn, run_underlying (mkTU_ptr ht)]; done)
          | (simp [Op.equalIn, run_underlying (mkTU_slice ht)]; done)
          | (simp [Op.equalIn, run_underlying (mkTU_map ht)]; done))
end
end Go.Tb
