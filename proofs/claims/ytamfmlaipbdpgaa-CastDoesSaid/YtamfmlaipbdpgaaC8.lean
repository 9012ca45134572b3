/- Searches: a new one; awake. -/
import Derived.Test.YtamfmlaipbdpgaaC5
import Derived.Test.YtamfmlaipbdpgaaC7
set_option linter.all false
set_option maxRecDepth 100000
namespace Go.Tb
open Go
theorem own_newb {O : Type} {P : Program} {I : Interp O} {p : Pk O} (hI : I.R = p.R) (hmix : P.follows .mixedOrders = true) {Γ : Gam O} (hΓ : GOk I P Γ) {f : FuncId} {fn : Func} (hf : P.funcs[f]? = some fn) (hname : (fn.name == "runtime.NumGoroutine") = false) (hbd : fn.body.isSome = true)
    {hp : Tr (AO O)} {args : List AV} (hn : Nat.blt args.length 16777215 = true) (ha : cls args = true) {K : AV → Tr (AO O) → Nat → Prop}
    (h : rgs args = true → abody I P Γ (adraw P Γ) 0 fn args .leaf 0 (fun v lh _ => (cl v = true ∧ ∃ nx', K v hp nx') ∨ ∃ j js s' os' nx t l r, lh.get j = some (.cells t l r) ∧ clos (j :: js) lh = some os' ∧ js.length < 16777214 ∧ p.H s' os' ∧ nm (fun n => Nat.beq n j) v = true ∧ hp.get nx = none ∧ Nat.blt nx 16777215 = true ∧ ∃ nx', K (rn (fun _ => nx) v) (hp.set nx (some (.own s'))) nx')) :
    ACall I P f args hp (fun v hp' => ∃ nx', K v hp' nx') := by
  refine own_new hI ha (ACall.of_rg (callable hf hname hbd) fun hr => ⟨callable hf hname hbd, fun ρ fp w args' hs hd => ?_⟩)
  refine ((body_call hΓ (adraw_ok hmix hΓ) hf (callable hf hname hbd) (fun n _ => rfl) hn (h hr)).2 ρ fp w args' hs hd).mono fun e w' hh => ?_
  obtain ⟨v, hp', ρ', fp', x, ⟨nx', hk'⟩, r⟩ := hh
  exact ⟨v, hp', ρ', fp', x, hk', r⟩
end Go.Tb
namespace Go.Tb.W
open Go Go.Proofs
variable {I : Interp O} (hI : I.R = pk.R)
include hI
theorem k_new : ∀ (args : List AV) (hp : Tr (AO O)) (nx : Nat) (K : AV → Tr (AO O) → Nat → Prop), c_new args hp nx K → ACall I P 10 args hp (fun v hp' => ∃ nx', K v hp' nx') := by
  intro args hp nx K h
  unfold c_new at h; split at h
  · rename_i m w q
    split at h
    · rename_i hnb hfr
      obtain ⟨h1, h2⟩ := h
      refine own_newb hI mix gA1 (fn := Try.f10) (by kernel_rfl) (by kernel_rfl) (by kernel_rfl) rfl rfl fun hr => (t_new I _ m w q).mpr ?_
      have bad : (m < 1 ∨ m > 255 ∨ w < 1 ∨ w > 1099511627776 ∨ q < 1 ∨ q > 16) → K (.tup [.nilp, .int .i64 1]) hp nx := fun hx => h1 (decide_eq_true hx)
      refine bsplit_both (fun a1 => .inl ⟨rfl, nx, bad ?_⟩) (fun a1 => bsplit_both (fun a2 => .inl ⟨rfl, nx, bad ?_⟩) (fun a2 => bsplit_both (fun a3 => .inl ⟨rfl, nx, bad ?_⟩) (fun a3 => bsplit_both (fun a4 => .inl ⟨rfl, nx, bad ?_⟩) (fun a4 => bsplit_both (fun a5 => .inl ⟨rfl, nx, bad ?_⟩) (fun a5 => bsplit_both (fun a6 => .inl ⟨rfl, nx, bad ?_⟩) (fun a6 => ?_))))))
      · have := of_decide_eq_true a1; omega
      · have := of_decide_eq_true a2; omega
      · have := of_decide_eq_true a3; omega
      · have := of_decide_eq_true a4; omega
      · have := of_decide_eq_true a5; omega
      · have := of_decide_eq_true a6; omega
      · have a1 := of_decide_eq_false a1; have a2 := of_decide_eq_false a2; have a3 := of_decide_eq_false a3; have a4 := of_decide_eq_false a4; have a5 := of_decide_eq_false a5; have a6 := of_decide_eq_false a6
        have hb : badC m w q = false := decide_eq_false (by omega)
        exact .inr ⟨1, [0], newC m w q, _, nx, _, _, _, rfl, rfl, by decide, ⟨[], 0, rfl, new_ok hb, List.Pairwise.nil, List.Pairwise.nil, fun e he => (by cases he), fun e he => (by cases he), List.Perm.refl _⟩, rfl, hfr, hnb, nx + 1, h2 hb⟩
    · exact h.elim
  · exact h.elim
theorem gB1 : GOk I P (Gm B1) := Gm.consH (Gm.consH (Gm.consH (Gm.consH (Gm.consH (Gm.consH (Gm.consH Gm.nil (k_ids hI)) (k_lost hI)) (k_found hI)) (k_ask hI)) (k_due hI)) (k_full hI)) (k_new hI)
theorem k_awake : ∀ (args : List AV) (K : AV → Prop), c_awake args K → ∀ hp, ACall I P 9 args hp (fun v hp' => K v ∧ hp' = hp) := by
  intro args K h hp
  unfold c_awake at h; split at h
  · refine pcall mix (gB1 hI) (fn := Try.f9) (by kernel_rfl) (by kernel_rfl) (by kernel_rfl) rfl rfl (fun hr => ?_) hp
    refine (t_awake I (fun v => K v ∧ cl v = true)).mpr ⟨fun h => absurd h (by decide), fun _ => ⟨fun _ _ => ⟨fun h => absurd h (by decide), fun _ _ _ => ⟨h, rfl⟩⟩, fun h => absurd h (by decide)⟩⟩
  · exact h.elim
theorem gB2 : GOk I P (Gm B2) := Gm.consP (gB1 hI) (k_awake hI)
end Go.Tb.W
