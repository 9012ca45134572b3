/- Searches: the inner functions, proved; the package that a search is. -/
import Derived.Test.YtamfmlaipbdpgaaC2
import Derived.Test.YtamfmlaipbdpgaaC4
set_option linter.all false
set_option maxRecDepth 100000
namespace Go.Tb
open Go
theorem own_body {O : Type} {P : Program} {I : Interp O} {p : Pk O} (hI : I.R = p.R) (hmix : P.follows .mixedOrders = true) {Γ : Gam O} (hΓ : GOk I P Γ) {f : FuncId} {fn : Func} (hf : P.funcs[f]? = some fn) (hname : (fn.name == "runtime.NumGoroutine") = false) (hbd : fn.body.isSome = true)
    {hp : Tr (AO O)} {g : Nat} {s : O} (hg : asO p (hp.get g) = some s) (hb : Nat.blt g 16777215 = true) (largs : List AV) (hn : nms (fun n => Nat.beq n 0) largs = true) (hla : Nat.blt largs.length 16777215 = true) {K : AV → Tr (AO O) → Nat → Prop}
    (h : ∀ os, p.H s os → rgs largs = true → RgOs os → abody I P Γ (adraw P Γ) os.length fn largs (Tr.ofList 0 os .leaf) os.length (fun v lh _ => OwnPost p hp g (fun v hp' => ∃ nx', K v hp' nx') v lh)) :
    ACall I P f (rns (fun _ => g) largs) hp (fun v hp' => ∃ nx', K v hp' nx') := by
  refine own_call hI hg hb largs hn (callable hf hname hbd) fun os hH hpl hlen => ?_
  refine ACall.of_rg (callable hf hname hbd) fun hr => ⟨callable hf hname hbd, fun ρ fp w args' hs hd => ?_⟩
  have hro : RgOs os := RgOs_of fun i o ho => okO_rg (hs.ok i o (ofList_mem hlen ho))
  have hm : ∀ n, os.length ≤ n → (Tr.ofList 0 os .leaf).get n = none := fun n hn => by
    cases hg : (Tr.ofList 0 os .leaf).get n with
    | none => rfl
    | some o => have := ofList_get0 hlen hg; have := (List.getElem?_eq_some_iff.1 this).1; omega
  refine ((body_call hΓ (adraw_ok hmix hΓ) hf (callable hf hname hbd) hm hla (h os hH hr hro)).2 ρ fp w args' hs hd).mono fun e w' hh => ?_
  obtain ⟨v, hp', ρ', fp', x, ⟨nx', hk'⟩, r⟩ := hh
  exact ⟨v, hp', ρ', fp', x, hk', r⟩
end Go.Tb
namespace Go.Tb.W
open Go Go.Proofs
variable {I : Interp O}
theorem mix : P.follows .mixedOrders = true := by kernel_rfl
theorem both_iff {n m : Nat} (h : both n m = true) : uniq (pairs 0 [n, m]) = true ∧ Nat.blt n 16777215 = true ∧ Nat.blt m 16777215 = true ∧ n ≠ m := by
  simp only [both, Bool.and_eq_true, Bool.not_eq_true'] at h
  obtain ⟨h1, h2, h3⟩ := h
  have hne := Nat.ne_of_beq_eq_false h3
  refine ⟨?_, h1, h2, hne⟩
  have : Nat.beq m n = false := by
    cases hb : Nat.beq m n with
    | false => rfl
    | true => exact absurd (Nat.eq_of_beq_eq_true hb).symm hne
  simp [pairs, uniq, lk, lkr, h1, h2, this, h3]
theorem bs_t {b : Bool} {K : Bool → Prop} (hb : b = true) (h : K true) : bsplit b K := bsplit_both (fun _ => h) (fun hx => by rw [hb] at hx; cases hx)
theorem bs_f {b : Bool} {K : Bool → Prop} (hb : b = false) (h : K false) : bsplit b K := bsplit_both (fun hx => by rw [hb] at hx; cases hx) (fun _ => h)
theorem w_id {n : Int} (h : -9223372036854775808 ≤ n) (k : n ≤ 9223372036854775807) : IntKind.i64.wrap n = n := by rw [w_i64]; omega
theorem isC1_spec {hp : Tr (AO O)} {n : Nat} {K : Int → Int → Int → Nat → Int → Int → Int → Bool → List (Rw × Nat) → Nat → Prop} (h : isC1 hp n K) :
    ∃ m w q g rc wt fr ak es clk, hp.get n = some (cO m w q g rc wt fr ak) ∧ both n g = true ∧ hp.get g = some (mO es clk) ∧ K m w q g rc wt fr ak es clk := by
  unfold isC1 at h
  split at h
  · rename_i m w q g rc wt fr ak hg
    split at h
    · rename_i es clk hb hg2
      exact ⟨m, w, q, g, rc, wt, fr, ak, es, clk, hg, hb, hg2, h⟩
    · exact h.elim
  · exact h.elim
theorem k_full1 : ∀ (args : List AV) (hp : Tr (AO O)) (nx : Nat) (K : AV → Tr (AO O) → Nat → Prop), c_full1 args hp nx K → ACall I P 21 args hp (fun v hp' => ∃ nx', K v hp' nx') := by
  intro args hp nx K h
  unfold c_full1 at h; split at h
  · rename_i n
    obtain ⟨m, w, q, g, rc, wt, fr, ak, es, clk, hg, hb, hg2, hl, hk⟩ := isC1_spec h
    obtain ⟨hu, _⟩ := both_iff hb
    refine hcallG mix Gm.nil (fn := Try.f21) (by kernel_rfl) (by kernel_rfl) (by kernel_rfl) [n, g] [cO m w q 1 rc wt fr ak, mO es clk] [.ptr 0 0] rfl hu rfl ⟨hg, hg2, trivial⟩ rfl rfl (fun hr ho => (t_full1 I _ m w q rc wt fr ak es clk).mpr ?_)
    have leaf := fun (h : es.length ≤ 9223372036854775807) => And.intro h (show AllBack hp [n, g] K (.bool (decide ((es.length : Int) ≥ q))) (Tr.ofList 0 [cO m w q 1 rc wt fr ak, mO es clk] .leaf) from ⟨[], nx, hu, trivial, rfl, rfl, hk⟩)
    exact ⟨⟨leaf (by omega), leaf (by omega)⟩, leaf (by omega)⟩
  · exact h.elim
theorem k_anew1 : ∀ (args : List AV) (hp : Tr (AO O)) (nx : Nat) (K : AV → Tr (AO O) → Nat → Prop), c_anew1 args hp nx K → ACall I P 22 args hp (fun v hp' => ∃ nx', K v hp' nx') := by
  intro args hp nx K h
  unfold c_anew1 at h; split at h
  · rename_i n
    obtain ⟨m, w, q, g, rc, wt, fr, ak, es, clk, hg, hb, hg2, hk⟩ := isC1_spec h
    obtain ⟨hu, _⟩ := both_iff hb
    exact hcallG mix Gm.nil (fn := Try.f22) (by kernel_rfl) (by kernel_rfl) (by kernel_rfl) [n, g] [cO m w q 1 rc wt fr ak, mO es clk] [.ptr 0 0] rfl hu rfl ⟨hg, hg2, trivial⟩ rfl rfl (fun hr ho => (t_anew1 I _ m w q rc wt fr ak es clk).mpr ⟨[], nx, hu, trivial, rfl, rfl, hk⟩)
  · exact h.elim
theorem gA1 : GOk I P (Gm A1) := Gm.consH (Gm.consH Gm.nil k_anew1) k_full1
theorem k_may1 : ∀ (args : List AV) (hp : Tr (AO O)) (nx : Nat) (K : AV → Tr (AO O) → Nat → Prop), c_may1 args hp nx K → ACall I P 23 args hp (fun v hp' => ∃ nx', K v hp' nx') := by
  intro args hp nx K h
  unfold c_may1 at h; split at h
  · rename_i n now
    obtain ⟨m, w, q, g, rc, wt, fr, ak, es, clk, hg, hb, hg2, ⟨hw, hl⟩, hk⟩ := isC1_spec h
    obtain ⟨hu, _⟩ := both_iff hb
    refine hcallG mix gA1 (fn := Try.f23) (by kernel_rfl) (by kernel_rfl) (by kernel_rfl) [n, g] [cO m w q 1 rc wt fr ak, mO es clk] [.ptr 0 0, .int .i64 now] rfl hu rfl ⟨hg, hg2, trivial⟩ rfl rfl (fun hr ho => (t_may1 I _ m w q rc wt fr ak es clk now).mpr ⟨hl, ?_⟩)
    have hwt : wt ≤ 9223372036854775807 := by
      have := ho.1.1
      simp only [rgs, rg, Bool.and_eq_true] at this
      have h5 := this.2.2.2.2.2.1
      simp only [inK_iff, loK, hiK] at h5
      exact h5.2
    rw [w_id (n := 9223372036854775807 - wt) (by omega) (by omega)]
    have leaf : ∀ e, mayE (decide ((es.length : Int) ≥ q)) wt fr ak now = e → AllBack hp [n, g] K (.int .i64 e) (Tr.ofList 0 [cO m w q 1 rc wt fr ak, mO es clk] .leaf) := fun e he => by
      subst he; exact ⟨[], nx, hu, trivial, rfl, rfl, hk⟩
    refine bsplit_both (fun h1 => leaf 4 (by unfold mayE; rw [if_pos h1])) (fun h1 => bsplit_both (fun h2 => ?_) (fun h2 => ?_))
    · refine bsplit_both (fun h3 => leaf 15 ?_) (fun h3 => bsplit_both (fun h4 => leaf 6 ?_) (fun h4 => leaf 0 ?_)) <;> unfold mayE <;> rw [h1, h2] <;> simp_all
      rw [if_neg (by omega), if_neg (by omega)]
    · refine bsplit_both (fun h4 => leaf 6 ?_) (fun h4 => leaf 0 ?_) <;> unfold mayE <;> rw [h1, h2] <;> simp_all
  · exact h.elim
theorem gA2 : GOk I P (Gm A2) := Gm.consH gA1 k_may1
end Go.Tb.W
