/- A call that is handed a slice out of a map. -/
import Derived.Test.YtojppaicjioohaaM22
set_option linter.all false
namespace Go.Tb
open Go
variable {O : Type} {P : Program} {I : Interp O}
theorem ACall.unpin {f : FuncId} {a x : AV} {hp : Tr (AO O)} {nx : Nat} {K0 : St O → AV → Prop} {K : AV → Tr (AO O) → Prop} (h0 : ∀ as w, (callFunc f as).run P w = .ok (.enter f as) w)
    (h : aunpin (⟨.leaf, hp, nx, 0⟩ : St O) x K0) (hk : ∀ s v, K0 s v → ACall I P f [a, v] s.hp K) : ACall I P f [a, x] hp K := by
  refine ⟨h0, fun ρ fp w args' hs hd => ?_⟩
  cases hd with | cons da hd =>
  cases hd with | cons dx hd =>
  cases hd
  let c : Ctx := ⟨w, fun b => ∃ n, b ∈ fp n, ρ⟩
  obtain ⟨s', v, ρ', fp', k0, _, _, he, _, hs', hc', dv⟩ := aunpin_ok (c := c) (a := { tmps := #[], defers := [] }) h (fun t v hv => by cases hv) hs (Since.refl w ρ fp) dx
  refine ((hk s' v k0).2 ρ' fp' w _ hs' (.cons (da.mono he) (.cons dv .nil))).mono fun e w' hh => ?_
  obtain ⟨r, hp', ρ2, fp2, y, k, e1, d1, s1, c1⟩ := hh
  exact ⟨r, hp', ρ2, fp2, y, k, e1, d1, s1, Since.trans (F0 := c.F0) (ρ0 := c.ρ0) hc' c1⟩
end Go.Tb
