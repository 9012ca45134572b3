/- From a law's contract to the statement's form. -/
import Derived.Test.YtojppaicjioohaaM13
import Derived.Below
set_option linter.all false
namespace Go.Tb
open Go Go.RowKit
theorem inK_wf {k : IntKind} {n : Int} (h : (Lit.int k n).wf = true) : inK k n = true := by
  rw [inK_iff]
  cases k <;> simp [Lit.wf, IntKind.min, IntKind.max, IntKind.signed, IntKind.bits] at h <;> simp only [loK, hiK] <;> omega
/-- No objects of a layer's own. -/
def noOwn : Interp Unit := ⟨fun _ _ _ _ => False, fun _ _ _ _ _ _ h => h, fun _ _ _ _ h => h.elim, fun _ => none⟩
theorem sat_leaf {O : Type} (I : Interp O) (w : World) (hf : ∀ b ob, I.fz b = some ob → w.heap[b]? = some ob) : Sat I (fun _ => none) (fun _ => []) (.leaf : Tr (AO O)) w := ⟨fun n o hn => (by cases hn), fun n _ => ⟨rfl, rfl⟩, fun n m b hb => (by simp at hb), fun b ob hb => ⟨hf b ob hb, fun n => by simp⟩⟩
/-- All that lies in a world stays. -/
def Interp.frz {O : Type} (I : Interp O) (W : World) : Interp O := { I with fz := fun b => W.heap[b]? }
/-- A function that is handed plain values and tells true. -/
theorem walk_true {O : Type} {I : Interp O} {P : Program} {f : FuncId} {args : List AV} {args' : List Value} (h : ACall I P f args .leaf (fun v _ => v = .bool true)) (hd : Dens (fun _ => none) args args') (W : World) (hf : I.fz = fun _ => none := by rfl) :
    Calls P f args'.toArray W fun e W' => e = .returned (.bool true) ∧ Below W.heap.size W W' :=
  (h.2 _ _ W args' (sat_leaf I W (fun b ob hb => by rw [hf] at hb; cases hb)) hd).mono fun e W' ⟨v, hp', ρ', fp', x, hv, he, dx, hs, hc⟩ => by
    subst hv
    cases dx
    exact ⟨he, hc.os, hc.tape, hc.output, hc.size, fun k hk => hc.keep k hk (by simp)⟩
end Go.Tb
