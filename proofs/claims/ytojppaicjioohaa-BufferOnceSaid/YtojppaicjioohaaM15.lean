/- What the statement's form says of an argument that is made of plain values. -/
import Derived.Test.YtojppaicjioohaaM14
import GoSem.ClaimWide
set_option linter.all false
set_option linter.constructorNameAsVariable false
namespace Go.Tb
open Go Go.RowKit
def shT (P : Program) (t : TypeId) : Option Sh := match P.underlying t with
  | some .bool => some .b
  | some (.int k) => some (.i k)
  | some .string => some .s
  | _ => none
def shTs (P : Program) : List TypeId → Option (List Sh)
  | [] => some []
  | t :: l => match shT P t, shTs P l with
    | some s, some r => some (s :: r)
    | _, _ => none
theorem shTs_get {P : Program} : ∀ {ts : List TypeId} {shs : List Sh}, shTs P ts = some shs → ts.length = shs.length ∧ ∀ (i : Nat) (t : TypeId), ts[i]? = some t → ∃ s, shs[i]? = some s ∧ shT P t = some s
  | [], shs, h => by simp [shTs] at h; subst h; exact ⟨rfl, fun i t ht => by simp at ht⟩
  | t :: ts, shs, h => by
    simp only [shTs] at h
    split at h
    · rename_i s r h1 h2
      cases h
      obtain ⟨k1, k2⟩ := shTs_get h2
      refine ⟨by simp [k1], fun i u hu => ?_⟩
      cases i with
      | zero => simp at hu; subst hu; exact ⟨s, rfl, h1⟩
      | succ i => simpa using k2 i u (by simpa using hu)
    · cases h
/-- The plain parts of some cells. -/
def rwOf (cs : List Value) : Rw where
  i := fun j => match cs[j]? with | some (.int _ n) => n | _ => 0
  b := fun j => match cs[j]? with | some (.bool b) => b | _ => false
  s := fun j => match cs[j]? with | some (.string s) => s | _ => ByteArray.empty
theorem cell_den {P : Program} {w : World} {r : Reach} {base : Nat} {t : TypeId} {v : Value} {sh : Sh} (hs : shT P t = some sh) (h : Cell.okWide P w r base t v) {cs : List Value} {j : Nat} (hj : cs[j]? = some v) (ρ : Rho) : Den ρ (encS (rwOf cs) j sh) v := by
  unfold shT at hs
  unfold Cell.okWide at h
  split at hs
  · rename_i hu; simp only [hu] at h
    cases hs
    cases v <;> simp [Cell.ok, hu] at h
    rename_i b
    simp only [encS, rwOf, hj]; exact .bool b
  · rename_i k hu; simp only [hu] at h
    cases hs
    cases v <;> simp [Cell.ok, hu] at h
    rename_i k' n
    obtain ⟨rfl, hn⟩ := h
    simp only [encS, rwOf, hj]
    refine .int _ _ ?_
    rw [inK_iff]
    cases k' <;> simp [IntKind.has, IntKind.min, IntKind.max, IntKind.signed, IntKind.bits] at hn <;> simp only [loK, hiK] <;> omega
  · rename_i hu; simp only [hu] at h
    cases hs
    cases v <;> simp [Cell.ok, hu] at h
    rename_i s
    simp only [encS, rwOf, hj]
    refine .str _ ?_
    omega
  · cases hs
theorem open_struct {P : Program} {W : World} {r : Reach} {base : Nat} {t : TypeId} {v : Value} {fs : Array Field} {ts : List TypeId} {shs : List Sh} (ht : P.underlying t = some (.struct fs)) (hts : P.cellTypes P.depth t = some ts) (hn : P.cellsOf t = ts.length)
    (hsh : shTs P ts = some shs) (h : Value.okWide P W r base t v) : ∃ x : Rw, ∀ ρ : Rho, Den ρ (.agg (encR x 0 shs)) v := by
  unfold Value.okWide at h
  rw [ht] at h
  obtain ⟨cs, rfl, hsz, ts', hts', _, hall⟩ := h
  rw [hts] at hts'; cases hts'
  obtain ⟨hl, hg⟩ := shTs_get hsh
  refine ⟨rwOf cs.toList, fun ρ => ?_⟩
  have key : Dens ρ (encR (rwOf cs.toList) 0 shs) cs.toList := by
    refine Dens.of (by rw [encR_length, ← hl, ← hn, ← hsz]; simp) fun i u hu => ?_
    rw [encR_get] at hu
    have hi : i < cs.size := by
      cases hs : shs[i]? with
      | none => rw [hs] at hu; simp at hu
      | some s => have := (List.getElem?_eq_some_iff.1 hs).1; omega
    have hv : cs.toList[i]? = some cs[i] := by simp [hi]
    obtain ⟨t', ht', hc⟩ := hall i cs[i] (by simp [hi])
    rw [Nat.mod_eq_of_lt (by omega)] at ht'
    obtain ⟨s, hs, hst⟩ := hg i t' ht'
    rw [hs] at hu; simp at hu
    refine ⟨cs[i], hv, ?_⟩
    rw [← hu]
    simpa using cell_den hst hc hv ρ
  simpa using Den.agg key
end Go.Tb
