/- Texts of this proof, run together. -/
import Derived.Test.YtnljoapmieepeaaRtZ0
import Derived.Shelf.Small.Bits
import Derived.Test.YtnljoapmieepeaaRtZ3
import Derived.Shelf.SlIterI.Nil
import Derived.Shelf.SortM.Plain
import Derived.Shelf.SortM.SortNone
/- What the functions' bodies come to: each line is what the abstract machine makes of one function, or of one round of a loop, over the contracts of the functions that it calls (the text was printed by a program of mine; Lean proves it again). -/
set_option linter.all false
set_option maxRecDepth 100000
set_option maxHeartbeats 0
namespace Go.Tb
open Go Go.Proofs
namespace W
theorem t_edges (I : Interp O) (K : AV → Tr (AO O) → Nat → Prop) (es : List (Rw × Nat)) (clk : Nat) : abody I P (Gm A5) (adraw P (Gm A5)) 1 Try.f16 [.map 0] (Tr.ofList 0 [mO es clk] .leaf) 1 K =
  (ALoop I 1 (cd Try.f16 [true, true, false, true, false, false]) (acode I P (Gm A5) (adraw P (Gm A5)) 1 (cd Try.f16 [true, true, false, true, false, false])) (ablock 0 (athen (cd Try.f16 [true, true, true]) (fun s => acode I P (Gm A5) (adraw P (Gm A5)) 1 (cd Try.f16 [true, true, true]) s (kret P Try.f16 (K))) (kret P Try.f16 (K)))) ⟨(.node (.node (.node .leaf (some .nils) (.node .leaf (some (.ptr 1 0)) .leaf)) none .leaf) (some (.map 0)) (.node .leaf (some .nils) (.node (.node .leaf (some (.map 0)) .leaf) none .leaf))), (.node (.node .leaf (some (.it 0 (clk) ([]) (clk) (none))) .leaf) (some (.mp { kt := Sh.i IntKind.i64, vs := [Sh.i IntKind.i64, Sh.i IntKind.i64, Sh.i IntKind.i64], agg := true } (es) (clk))) .leaf), 2, 68⟩) := by kernel_rfl
theorem t_agreeN (I : Interp O) (K : AV → Tr (AO O) → Nat → Prop) : abody I P (Gm A6) (adraw P (Gm A6)) 0 Try.f10 [.nils] (Tr.ofList 0 [] .leaf) 0 K =
  ((okM (lastF []).fst (lastF []).snd) ∧ (((lastF []).fst = [] → (ALoop I 0 (cd Try.f10 [true, true, true, true, true, false, true, false, false]) (acode I P (Gm A6) (adraw P (Gm A6)) 0 (cd Try.f10 [true, true, true, true, true, false, true, false, false])) (ablock 1 (athen (cd Try.f10 [true, true, true, true, true, true]) (fun s => acode I P (Gm A6) (adraw P (Gm A6)) 0 (cd Try.f10 [true, true, true, true, true, true]) s (kret P Try.f10 (K))) (kret P Try.f10 (K)))) ⟨(.node (.node (.node (.node (.node .leaf (some .nils) .leaf) (some (.int IntKind.i64 (0 : Int))) (.node .leaf (some (.int IntKind.i64 (0 : Int))) .leaf)) (some (.int IntKind.i64 (0 : Int))) (.node (.node .leaf (some (.map 0)) .leaf) (some (.bool false)) .leaf)) none (.node (.node (.node .leaf (some (.bool false)) .leaf) none .leaf) (some (.int IntKind.i64 (0 : Int))) (.node (.node .leaf (some .nils) .leaf) (some (.bool false)) .leaf))) (some .nils) (.node (.node (.node (.node .leaf (some (.int IntKind.i64 (0 : Int))) .leaf) (some (.bool false)) .leaf) (some (.int IntKind.i64 (0 : Int))) (.node (.node .leaf (some (.map 0)) .leaf) (some .nils) .leaf)) (some (.int IntKind.i64 (0 : Int))) (.node (.node (.node .leaf (some .nils) .leaf) none .leaf) (some (.map 0)) (.node (.node .leaf (some (.int IntKind.i64 (0 : Int))) .leaf) (some (.bool false)) .leaf)))), (.node .leaf (some (.mp { kt := Sh.i IntKind.i64, vs := [Sh.i IntKind.i64, Sh.i IntKind.i64, Sh.i IntKind.i64], agg := true } ((lastF []).fst) 0)) .leaf), 1, 56⟩)) ∧ ((lastF []).fst ≠ [] → (∀ (c0 : Nat), (∀ (room1 : Nat), (ALoop I 0 (cd Try.f10 [true, true, true, true, true, false, true, false, false]) (acode I P (Gm A6) (adraw P (Gm A6)) 0 (cd Try.f10 [true, true, true, true, true, false, true, false, false])) (ablock 1 (athen (cd Try.f10 [true, true, true, true, true, true]) (fun s => acode I P (Gm A6) (adraw P (Gm A6)) 0 (cd Try.f10 [true, true, true, true, true, true]) s (kret P Try.f10 (K))) (kret P Try.f10 (K)))) ⟨(.node (.node (.node (.node (.node .leaf (some .nils) .leaf) (some (.int IntKind.i64 (0 : Int))) (.node .leaf (some (.int IntKind.i64 (0 : Int))) .leaf)) (some (.int IntKind.i64 (0 : Int))) (.node (.node .leaf (some (.map 0)) .leaf) (some (.bool false)) .leaf)) none (.node (.node (.node .leaf (some (.bool false)) .leaf) none .leaf) (some (.int IntKind.i64 (0 : Int))) (.node (.node .leaf (some (.sl 1 0 0 (c0))) .leaf) (some (.bool false)) .leaf))) (some .nils) (.node (.node (.node (.node .leaf (some (.int IntKind.i64 (0 : Int))) .leaf) (some (.bool false)) .leaf) (some (.int IntKind.i64 (0 : Int))) (.node (.node .leaf (some (.map 0)) .leaf) (some .nils) .leaf)) (some (.int IntKind.i64 (0 : Int))) (.node (.node (.node .leaf (some .nils) .leaf) none .leaf) (some (.map 0)) (.node (.node .leaf (some (.int IntKind.i64 (0 : Int))) .leaf) (some (.bool false)) .leaf)))), (.node (.node .leaf (some (.rows 48 [Sh.i IntKind.i64, Sh.i IntKind.i64] (List.map edg (edgeF (lastF []).fst)) (room1))) .leaf) (some (.mp { kt := Sh.i IntKind.i64, vs := [Sh.i IntKind.i64, Sh.i IntKind.i64, Sh.i IntKind.i64], agg := true } ((lastF []).fst) 0)) .leaf), 2, 56⟩)))))) := by kernel_rfl
theorem t_agreeR (I : Interp O) (K : AV → Tr (AO O) → Nat → Prop) (l c room : Nat) (xs : List Rw) : abody I P (Gm A6) (adraw P (Gm A6)) 1 Try.f10 [.sl 0 0 l c] (Tr.ofList 0 [cO xs room] .leaf) 1 K =
  ((l ≤ xs.length) ∧ (bsplit (decide (badI (List.take l xs) ≥ 0)) fun | true => (K (.tup [(.int IntKind.i64 (0 : Int)), (.int IntKind.i64 (0 : Int)), (.int IntKind.i64 (0 : Int)), (.int IntKind.i64 (1 : Int))]) (.node .leaf (some (.rows 31 [Sh.i IntKind.i64, Sh.i IntKind.i64, Sh.i IntKind.i64] (xs) (room))) .leaf) 1) | false => (bsplit (decide ((↑l : Int) > 64)) fun | true => (K (.tup [(.int IntKind.i64 (0 : Int)), (.int IntKind.i64 (0 : Int)), (.int IntKind.i64 (0 : Int)), (.int IntKind.i64 (4 : Int))]) (.node .leaf (some (.rows 31 [Sh.i IntKind.i64, Sh.i IntKind.i64, Sh.i IntKind.i64] (xs) (room))) .leaf) 1) | false => ((l ≤ xs.length) ∧ ((okM (lastF (List.take l xs)).fst (lastF (List.take l xs)).snd) ∧ (((lastF (List.take l xs)).fst = [] → (ALoop I 1 (cd Try.f10 [true, true, true, true, true, false, true, false, false]) (acode I P (Gm A6) (adraw P (Gm A6)) 1 (cd Try.f10 [true, true, true, true, true, false, true, false, false])) (ablock 1 (athen (cd Try.f10 [true, true, true, true, true, true]) (fun s => acode I P (Gm A6) (adraw P (Gm A6)) 1 (cd Try.f10 [true, true, true, true, true, true]) s (kret P Try.f10 (K))) (kret P Try.f10 (K)))) ⟨(.node (.node (.node (.node (.node .leaf (some (.sl 0 0 (l) (c))) .leaf) (some (.int IntKind.i64 (0 : Int))) (.node .leaf (some (.int IntKind.i64 (0 : Int))) .leaf)) (some (.int IntKind.i64 (0 : Int))) (.node (.node .leaf (some (.map 1)) .leaf) (some (.bool false)) .leaf)) none (.node (.node (.node .leaf (some (.bool (decide ((↑l : Int) > 64)))) .leaf) none .leaf) (some (.int IntKind.i64 (0 : Int))) (.node (.node .leaf (some .nils) .leaf) (some (.bool (decide (badI (List.take l xs) ≥ 0)))) .leaf))) (some (.sl 0 0 (l) (c))) (.node (.node (.node (.node .leaf (some (.int IntKind.i64 ((↑l : Int)))) .leaf) (some (.bool false)) .leaf) (some (.int IntKind.i64 (0 : Int))) (.node (.node .leaf (some (.map 1)) .leaf) (some (.sl 0 0 (l) (c))) .leaf)) (some (.int IntKind.i64 (0 : Int))) (.node (.node (.node .leaf (some (.sl 0 0 (l) (c))) .leaf) none .leaf) (some (.map 1)) (.node (.node .leaf (some (.int IntKind.i64 (0 : Int))) .leaf) (some (.bool false)) .leaf)))), (.node (.node .leaf (some (.mp { kt := Sh.i IntKind.i64, vs := [Sh.i IntKind.i64, Sh.i IntKind.i64, Sh.i IntKind.i64], agg := true } ((lastF (List.take l xs)).fst) ((lastF (List.take l xs)).snd))) .leaf) (some (.rows 31 [Sh.i IntKind.i64, Sh.i IntKind.i64, Sh.i IntKind.i64] (xs) (room))) .leaf), 2, 56⟩)) ∧ ((lastF (List.take l xs)).fst ≠ [] → (∀ (c0 : Nat), (∀ (room1 : Nat), (ALoop I 1 (cd Try.f10 [true, true, true, true, true, false, true, false, false]) (acode I P (Gm A6) (adraw P (Gm A6)) 1 (cd Try.f10 [true, true, true, true, true, false, true, false, false])) (ablock 1 (athen (cd Try.f10 [true, true, true, true, true, true]) (fun s => acode I P (Gm A6) (adraw P (Gm A6)) 1 (cd Try.f10 [true, true, true, true, true, true]) s (kret P Try.f10 (K))) (kret P Try.f10 (K)))) ⟨(.node (.node (.node (.node (.node .leaf (some (.sl 0 0 (l) (c))) .leaf) (some (.int IntKind.i64 (0 : Int))) (.node .leaf (some (.int IntKind.i64 (0 : Int))) .leaf)) (some (.int IntKind.i64 (0 : Int))) (.node (.node .leaf (some (.map 1)) .leaf) (some (.bool false)) .leaf)) none (.node (.node (.node .leaf (some (.bool (decide ((↑l : Int) > 64)))) .leaf) none .leaf) (some (.int IntKind.i64 (0 : Int))) (.node (.node .leaf (some (.sl 2 0 ((edgeF (lastF (List.take l xs)).fst).length) (c0))) .leaf) (some (.bool (decide (badI (List.take l xs) ≥ 0)))) .leaf))) (some (.sl 0 0 (l) (c))) (.node (.node (.node (.node .leaf (some (.int IntKind.i64 ((↑l : Int)))) .leaf) (some (.bool false)) .leaf) (some (.int IntKind.i64 (0 : Int))) (.node (.node .leaf (some (.map 1)) .leaf) (some (.sl 0 0 (l) (c))) .leaf)) (some (.int IntKind.i64 (0 : Int))) (.node (.node (.node .leaf (some (.sl 0 0 (l) (c))) .leaf) none .leaf) (some (.map 1)) (.node (.node .leaf (some (.int IntKind.i64 ((↑(edgeF (lastF (List.take l xs)).fst).length : Int)))) .leaf) (some (.bool false)) .leaf)))), (.node (.node .leaf (some (.mp { kt := Sh.i IntKind.i64, vs := [Sh.i IntKind.i64, Sh.i IntKind.i64, Sh.i IntKind.i64], agg := true } ((lastF (List.take l xs)).fst) ((lastF (List.take l xs)).snd))) .leaf) (some (.rows 31 [Sh.i IntKind.i64, Sh.i IntKind.i64, Sh.i IntKind.i64] (xs) (room))) (.node .leaf (some (.rows 48 [Sh.i IntKind.i64, Sh.i IntKind.i64] (List.map edg (edgeF (lastF (List.take l xs)).fst)) (room1))) .leaf)), 3, 56⟩)))))))))) := by kernel_rfl
theorem t_agreeO (I : Interp O) (K : AV → Tr (AO O) → Nat → Prop) (l c : Nat) (ob : Obj) (xs : List Rw) : abody I P (Gm A6) (adraw P (Gm A6)) 1 Try.f10 [.sl 0 0 l c] (Tr.ofList 0 [oO ob xs] .leaf) 1 K =
  ((l ≤ xs.length) ∧ (bsplit (decide (badI (List.take l xs) ≥ 0)) fun | true => (K (.tup [(.int IntKind.i64 (0 : Int)), (.int IntKind.i64 (0 : Int)), (.int IntKind.i64 (0 : Int)), (.int IntKind.i64 (1 : Int))]) (.node .leaf (some (AO.out ob cS xs)) .leaf) 1) | false => (bsplit (decide ((↑l : Int) > 64)) fun | true => (K (.tup [(.int IntKind.i64 (0 : Int)), (.int IntKind.i64 (0 : Int)), (.int IntKind.i64 (0 : Int)), (.int IntKind.i64 (4 : Int))]) (.node .leaf (some (AO.out ob cS xs)) .leaf) 1) | false => ((l ≤ xs.length) ∧ ((okM (lastF (List.take l xs)).fst (lastF (List.take l xs)).snd) ∧ (((lastF (List.take l xs)).fst = [] → (ALoop I 1 (cd Try.f10 [true, true, true, true, true, false, true, false, false]) (acode I P (Gm A6) (adraw P (Gm A6)) 1 (cd Try.f10 [true, true, true, true, true, false, true, false, false])) (ablock 1 (athen (cd Try.f10 [true, true, true, true, true, true]) (fun s => acode I P (Gm A6) (adraw P (Gm A6)) 1 (cd Try.f10 [true, true, true, true, true, true]) s (kret P Try.f10 (K))) (kret P Try.f10 (K)))) ⟨(.node (.node (.node (.node (.node .leaf (some (.sl 0 0 (l) (c))) .leaf) (some (.int IntKind.i64 (0 : Int))) (.node .leaf (some (.int IntKind.i64 (0 : Int))) .leaf)) (some (.int IntKind.i64 (0 : Int))) (.node (.node .leaf (some (.map 1)) .leaf) (some (.bool false)) .leaf)) none (.node (.node (.node .leaf (some (.bool (decide ((↑l : Int) > 64)))) .leaf) none .leaf) (some (.int IntKind.i64 (0 : Int))) (.node (.node .leaf (some .nils) .leaf) (some (.bool (decide (badI (List.take l xs) ≥ 0)))) .leaf))) (some (.sl 0 0 (l) (c))) (.node (.node (.node (.node .leaf (some (.int IntKind.i64 ((↑l : Int)))) .leaf) (some (.bool false)) .leaf) (some (.int IntKind.i64 (0 : Int))) (.node (.node .leaf (some (.map 1)) .leaf) (some (.sl 0 0 (l) (c))) .leaf)) (some (.int IntKind.i64 (0 : Int))) (.node (.node (.node .leaf (some (.sl 0 0 (l) (c))) .leaf) none .leaf) (some (.map 1)) (.node (.node .leaf (some (.int IntKind.i64 (0 : Int))) .leaf) (some (.bool false)) .leaf)))), (.node (.node .leaf (some (.mp { kt := Sh.i IntKind.i64, vs := [Sh.i IntKind.i64, Sh.i IntKind.i64, Sh.i IntKind.i64], agg := true } ((lastF (List.take l xs)).fst) ((lastF (List.take l xs)).snd))) .leaf) (some (AO.out ob cS xs)) .leaf), 2, 56⟩)) ∧ ((lastF (List.take l xs)).fst ≠ [] → (∀ (c0 : Nat), (∀ (room1 : Nat), (ALoop I 1 (cd Try.f10 [true, true, true, true, true, false, true, false, false]) (acode I P (Gm A6) (adraw P (Gm A6)) 1 (cd Try.f10 [true, true, true, true, true, false, true, false, false])) (ablock 1 (athen (cd Try.f10 [true, true, true, true, true, true]) (fun s => acode I P (Gm A6) (adraw P (Gm A6)) 1 (cd Try.f10 [true, true, true, true, true, true]) s (kret P Try.f10 (K))) (kret P Try.f10 (K)))) ⟨(.node (.node (.node (.node (.node .leaf (some (.sl 0 0 (l) (c))) .leaf) (some (.int IntKind.i64 (0 : Int))) (.node .leaf (some (.int IntKind.i64 (0 : Int))) .leaf)) (some (.int IntKind.i64 (0 : Int))) (.node (.node .leaf (some (.map 1)) .leaf) (some (.bool false)) .leaf)) none (.node (.node (.node .leaf (some (.bool (decide ((↑l : Int) > 64)))) .leaf) none .leaf) (some (.int IntKind.i64 (0 : Int))) (.node (.node .leaf (some (.sl 2 0 ((edgeF (lastF (List.take l xs)).fst).length) (c0))) .leaf) (some (.bool (decide (badI (List.take l xs) ≥ 0)))) .leaf))) (some (.sl 0 0 (l) (c))) (.node (.node (.node (.node .leaf (some (.int IntKind.i64 ((↑l : Int)))) .leaf) (some (.bool false)) .leaf) (some (.int IntKind.i64 (0 : Int))) (.node (.node .leaf (some (.map 1)) .leaf) (some (.sl 0 0 (l) (c))) .leaf)) (some (.int IntKind.i64 (0 : Int))) (.node (.node (.node .leaf (some (.sl 0 0 (l) (c))) .leaf) none .leaf) (some (.map 1)) (.node (.node .leaf (some (.int IntKind.i64 ((↑(edgeF (lastF (List.take l xs)).fst).length : Int)))) .leaf) (some (.bool false)) .leaf)))), (.node (.node .leaf (some (.mp { kt := Sh.i IntKind.i64, vs := [Sh.i IntKind.i64, Sh.i IntKind.i64, Sh.i IntKind.i64], agg := true } ((lastF (List.take l xs)).fst) ((lastF (List.take l xs)).snd))) .leaf) (some (AO.out ob cS xs)) (.node .leaf (some (.rows 48 [Sh.i IntKind.i64, Sh.i IntKind.i64] (List.map edg (edgeF (lastF (List.take l xs)).fst)) (room1))) .leaf)), 3, 56⟩)))))))))) := by kernel_rfl
theorem t_edA (I : Interp O) (K : AV → Tr (AO O) → Nat → Prop) (X : St O → Prop) (es : List (Rw × Nat)) (clk since : Nat) (seen : List Nat) (last : Nat) (cur : Option (Rw × Nat)) : acode I P (Gm A5) (adraw P (Gm A5)) 1 (cd Try.f16 [true, true, false, true, false, false]) (j_edA es clk since seen last cur) (lpgL 1 [[(1, 1)], [(1, 1), (2, 2)], [(1, 1), (3, 2)], [(1, 1), (4, 2)], [(1, 1), (5, 2)], [(1, 1), (6, 2)], [(1, 1), (7, 2)], [(1, 1), (8, 2)], [(1, 1), (9, 2)]] [3, 11] 3 X (ablock 0 (athen (cd Try.f16 [true, true, true]) (fun s => acode I P (Gm A5) (adraw P (Gm A5)) 1 (cd Try.f16 [true, true, true]) s (kret P Try.f16 (K))) (kret P Try.f16 (K))))) =
  (must (Nat.blt 1 16777215 && mgoes es seen last) ((mover es since seen = true → (ALoop I 1 (cd Try.f16 [true, true, true, true, true, false, true, false, false]) (acode I P (Gm A5) (adraw P (Gm A5)) 1 (cd Try.f16 [true, true, true, true, true, false, true, false, false])) (ablock 2 (athen (cd Try.f16 [true, true, true, true, true, true]) (fun s => acode I P (Gm A5) (adraw P (Gm A5)) 1 (cd Try.f16 [true, true, true, true, true, true]) s (kret P Try.f16 (K))) (kret P Try.f16 (K)))) ⟨(.node (.node (.node (.node (.node (.node .leaf (some (.int IntKind.i64 (0 : Int))) .leaf) none .leaf) none .leaf) (some .nils) (.node .leaf (some (.ptr 1 0)) (.node .leaf (some (.agg [])) .leaf))) none (.node .leaf none (.node .leaf (some (.bool false)) (.node .leaf (some (.tup [])) .leaf)))) none (.node (.node (.node (.node (.node .leaf (some (.int IntKind.i64 (0 : Int))) .leaf) none .leaf) none .leaf) none (.node .leaf (some (.tup [(.bool false)])) (.node .leaf (some (.fn (Fn.func 21) [(.agg [])] [])) .leaf))) none (.node (.node .leaf none (.node .leaf (some .nils) .leaf)) (some .nils) (.node .leaf none (.node .leaf (some .nils) .leaf))))), (.node (.node .leaf (some (.it 0 (since) (seen) (last) (cur))) .leaf) (some (.mp { kt := Sh.i IntKind.i64, vs := [Sh.i IntKind.i64, Sh.i IntKind.i64, Sh.i IntKind.i64], agg := true } (es) (clk))) .leaf), 3, 68⟩)) ∧ (∀ (x0 : Rw), (∀ (b1 : Nat), ((x0, b1) ∈ mleft es seen → (must (clk.beq clk) ((matB (x0, b1).snd es = some (x0, b1)) ∧ (((0 : Nat) + (2 : Nat) ≤ (137438953472 : Nat)) ∧ (∀ (c'2 : Nat), ((0 : Nat) + 2 ≤ c'2 → (c'2 ≤ 9223372036854775807 → (X ⟨(.node (.node (.node .leaf (some (.sl 2 0 2 (c'2))) (.node .leaf (some (.ptr 1 0)) .leaf)) none .leaf) none .leaf), (.node (.node .leaf (some (.it 0 (since) (seen ++ [b1]) (clk) (some (x0, b1)))) .leaf) (some (.mp { kt := Sh.i IntKind.i64, vs := [Sh.i IntKind.i64, Sh.i IntKind.i64, Sh.i IntKind.i64], agg := true } (es) (clk))) (.node .leaf (some (.rows 48 [Sh.i IntKind.i64, Sh.i IntKind.i64] (([] : List Rw) ++ ((rwA [(.int IntKind.i64 (((x0, b1).fst).i 2)), (.int IntKind.i64 (1 : Int))]) :: ((rwA [(.int IntKind.i64 (IntKind.i64.wrap ((x0, b1).fst.i ((1 : Nat) + 1 + 1) + 1))), (.int IntKind.i64 (-1 : Int))]) :: []))) (c'2 * [Sh.i IntKind.i64, Sh.i IntKind.i64].length))) .leaf)), 3, 68⟩)))))))))))) := by kernel_rfl
theorem t_edB (I : Interp O) (K : AV → Tr (AO O) → Nat → Prop) (X : St O → Prop) (es : List (Rw × Nat)) (clk since : Nat) (seen : List Nat) (last : Nat) (cur : Option (Rw × Nat)) (n c : Nat) (xs : List Rw) (room : Nat) : acode I P (Gm A5) (adraw P (Gm A5)) 1 (cd Try.f16 [true, true, false, true, false, false]) (j_edB es clk since seen last cur n c xs room) (lpgL 1 [[(1, 1)], [(1, 1), (2, 2)], [(1, 1), (3, 2)], [(1, 1), (4, 2)], [(1, 1), (5, 2)], [(1, 1), (6, 2)], [(1, 1), (7, 2)], [(1, 1), (8, 2)], [(1, 1), (9, 2)]] [3, 11] 3 X (ablock 0 (athen (cd Try.f16 [true, true, true]) (fun s => acode I P (Gm A5) (adraw P (Gm A5)) 1 (cd Try.f16 [true, true, true]) s (kret P Try.f16 (K))) (kret P Try.f16 (K))))) =
  (must (Nat.blt 1 16777215 && mgoes es seen last) ((mover es since seen = true → (((n = xs.length) ∧ ((n ≤ (1000 : Nat)) ∧ (NE xs))) ∧ (∀ (ys0 : List Rw), (ys0.Perm xs → (risE ys0 → (ALoop I 1 (cd Try.f16 [true, true, true, true, true, false, true, false, false]) (acode I P (Gm A5) (adraw P (Gm A5)) 1 (cd Try.f16 [true, true, true, true, true, false, true, false, false])) (ablock 2 (athen (cd Try.f16 [true, true, true, true, true, true]) (fun s => acode I P (Gm A5) (adraw P (Gm A5)) 1 (cd Try.f16 [true, true, true, true, true, true]) s (kret P Try.f16 (K))) (kret P Try.f16 (K)))) ⟨(.node (.node (.node (.node (.node (.node .leaf (some (.int IntKind.i64 ((↑n : Int)))) .leaf) none .leaf) none .leaf) (some (.sl 2 0 (n) (c))) (.node .leaf (some (.ptr 1 0)) (.node .leaf (some (.agg [])) .leaf))) none (.node .leaf none (.node .leaf (some (.bool false)) (.node .leaf (some (.tup [])) .leaf)))) none (.node (.node (.node (.node (.node .leaf (some (.int IntKind.i64 (0 : Int))) .leaf) none .leaf) none .leaf) none (.node .leaf (some (.tup [(.bool false)])) (.node .leaf (some (.fn (Fn.func 21) [(.agg [])] [])) .leaf))) none (.node (.node .leaf none (.node .leaf (some (.sl 2 0 (n) (c))) .leaf)) (some .nils) (.node .leaf none (.node .leaf (some (.sl 2 0 (n) (c))) .leaf))))), (.node (.node .leaf (some (.it 0 (since) (seen) (last) (cur))) .leaf) (some (.mp { kt := Sh.i IntKind.i64, vs := [Sh.i IntKind.i64, Sh.i IntKind.i64, Sh.i IntKind.i64], agg := true } (es) (clk))) (.node .leaf (some (.rows 48 [Sh.i IntKind.i64, Sh.i IntKind.i64] (ys0) (room))) .leaf)), 3, 68⟩)))))) ∧ (∀ (x1 : Rw), (∀ (b2 : Nat), ((x1, b2) ∈ mleft es seen → (must (clk.beq clk) ((matB (x1, b2).snd es = some (x1, b2)) ∧ (must (n.ble xs.length && (c * [Sh.i IntKind.i64, Sh.i IntKind.i64].length).ble room && Nat.blt 2 16777215) ((n + (2 : Nat) ≤ (137438953472 : Nat)) ∧ (∀ (c'3 : Nat), (n + 2 ≤ c'3 → (c'3 ≤ 9223372036854775807 → (X ⟨(.node (.node (.node .leaf (some (.sl 2 0 (n + 2) (c'3))) (.node .leaf (some (.ptr 1 0)) .leaf)) none .leaf) none .leaf), (.node (.node .leaf (some (.it 0 (since) (seen ++ [b2]) (clk) (some (x1, b2)))) .leaf) (some (.mp { kt := Sh.i IntKind.i64, vs := [Sh.i IntKind.i64, Sh.i IntKind.i64, Sh.i IntKind.i64], agg := true } (es) (clk))) (.node .leaf (some (.rows 48 [Sh.i IntKind.i64, Sh.i IntKind.i64] ((List.take n xs) ++ ((rwA [(.int IntKind.i64 (((x1, b2).fst).i 2)), (.int IntKind.i64 (1 : Int))]) :: ((rwA [(.int IntKind.i64 (IntKind.i64.wrap ((x1, b2).fst.i ((1 : Nat) + 1 + 1) + 1))), (.int IntKind.i64 (-1 : Int))]) :: []))) (c'3 * [Sh.i IntKind.i64, Sh.i IntKind.i64].length))) .leaf)), 3, 68⟩))))))))))))) := by kernel_rfl
theorem t_agN (I : Interp O) (K : AV → Tr (AO O) → Nat → Prop) (X : St O → Prop) (es : List (Rw × Nat)) (clk : Nat) : acode I P (Gm A6) (adraw P (Gm A6)) 0 (cd Try.f10 [true, true, true, true, true, false, true, false, false]) (j_agN es clk) (lpg 0 [(0, 0)] [2, 3, 4, 6, 7, 8, 21, 22, 23] 1 X (ablock 1 (athen (cd Try.f10 [true, true, true, true, true, true]) (fun s => acode I P (Gm A6) (adraw P (Gm A6)) 0 (cd Try.f10 [true, true, true, true, true, true]) s (kret P Try.f10 (K))) (kret P Try.f10 (K))))) =
  ((es.length ≤ (9223372036854775807 : Nat)) ∧ (K (.tup [(.int IntKind.i64 (0 : Int)), (.int IntKind.i64 (0 : Int)), (.int IntKind.i64 (0 : Int)), (.int IntKind.i64 (10 : Int))]) (.node .leaf (some (.mp { kt := Sh.i IntKind.i64, vs := [Sh.i IntKind.i64, Sh.i IntKind.i64, Sh.i IntKind.i64], agg := true } (es) (clk))) .leaf) 1)) := by kernel_rfl
theorem t_agR (I : Interp O) (K : AV → Tr (AO O) → Nat → Prop) (X : St O → Prop) (l c room : Nat) (xs : List Rw) (es : List (Rw × Nat)) (clk : Nat) (lo hi vo nw : Int) (op : Bool) (n d : Nat) (ys : List Rw) (r2 : Nat) (i : Int) : acode I P (Gm A6) (adraw P (Gm A6)) 1 (cd Try.f10 [true, true, true, true, true, false, true, false, false]) (j_agR (cO xs room) es clk lo hi vo nw op n d ys r2 i) (lpg 1 [(1, 1), (2, 2)] [2, 3, 4, 6, 7, 8, 21, 22, 23] 3 X (ablock 1 (athen (cd Try.f10 [true, true, true, true, true, true]) (fun s => acode I P (Gm A6) (adraw P (Gm A6)) 1 (cd Try.f10 [true, true, true, true, true, true]) s (kret P Try.f10 (K))) (kret P Try.f10 (K))))) =
  (bsplit (decide (i < (↑n : Int))) fun | true => (must (decide ((0 : Int) ≤ i ∧ i < (↑n : Int))) (xget (ys) (i.toNat) fun x0 => (bsplit (x0.i ((0 : Nat) + 1) == 0) fun | true => (X ⟨(.node (.node (.node (.node .leaf (some (.int IntKind.i64 (IntKind.i64.wrap (nw + x0.i ((0 : Nat) + 1))))) (.node .leaf (some (.int IntKind.i64 (IntKind.i64.wrap (i + 1)))) .leaf)) (some (.int IntKind.i64 (hi))) .leaf) none (.node .leaf none (.node (.node .leaf (some (.sl 2 0 (n) (d))) .leaf) none .leaf))) none (.node (.node (.node .leaf (some (.bool (op))) .leaf) (some (.int IntKind.i64 (vo))) .leaf) (some (.int IntKind.i64 (lo))) (.node .leaf (some (.map 1)) (.node (.node .leaf (some (.int IntKind.i64 ((↑n : Int)))) .leaf) none .leaf)))), (.node (.node .leaf (some (.mp { kt := Sh.i IntKind.i64, vs := [Sh.i IntKind.i64, Sh.i IntKind.i64, Sh.i IntKind.i64], agg := true } (es) (clk))) .leaf) (some (.rows 31 [Sh.i IntKind.i64, Sh.i IntKind.i64, Sh.i IntKind.i64] (xs) (room))) (.node .leaf (some (.rows 48 [Sh.i IntKind.i64, Sh.i IntKind.i64] (ys) (r2))) .leaf)), 3, 56⟩) | false => (bsplit (decide (IntKind.i64.wrap (nw + x0.i ((0 : Nat) + 1)) > vo)) fun | true => (X ⟨(.node (.node (.node (.node .leaf (some (.int IntKind.i64 (IntKind.i64.wrap (nw + x0.i ((0 : Nat) + 1))))) (.node .leaf (some (.int IntKind.i64 (IntKind.i64.wrap (i + 1)))) .leaf)) (some (.int IntKind.i64 (hi))) .leaf) none (.node .leaf none (.node (.node .leaf (some (.sl 2 0 (n) (d))) .leaf) none .leaf))) none (.node (.node (.node .leaf (some (.bool true)) .leaf) (some (.int IntKind.i64 (IntKind.i64.wrap (nw + x0.i ((0 : Nat) + 1))))) .leaf) (some (.int IntKind.i64 ((x0).i 0))) (.node .leaf (some (.map 1)) (.node (.node .leaf (some (.int IntKind.i64 ((↑n : Int)))) .leaf) none .leaf)))), (.node (.node .leaf (some (.mp { kt := Sh.i IntKind.i64, vs := [Sh.i IntKind.i64, Sh.i IntKind.i64, Sh.i IntKind.i64], agg := true } (es) (clk))) .leaf) (some (.rows 31 [Sh.i IntKind.i64, Sh.i IntKind.i64, Sh.i IntKind.i64] (xs) (room))) (.node .leaf (some (.rows 48 [Sh.i IntKind.i64, Sh.i IntKind.i64] (ys) (r2))) .leaf)), 3, 56⟩) | false => (bsplit (op) fun | true => (X ⟨(.node (.node (.node (.node .leaf (some (.int IntKind.i64 (IntKind.i64.wrap (nw + x0.i ((0 : Nat) + 1))))) (.node .leaf (some (.int IntKind.i64 (IntKind.i64.wrap (i + 1)))) .leaf)) (some (.int IntKind.i64 (IntKind.i64.wrap (x0.i 0 - 1)))) .leaf) none (.node .leaf none (.node (.node .leaf (some (.sl 2 0 (n) (d))) .leaf) none .leaf))) none (.node (.node (.node .leaf (some (.bool false)) .leaf) (some (.int IntKind.i64 (vo))) .leaf) (some (.int IntKind.i64 (lo))) (.node .leaf (some (.map 1)) (.node (.node .leaf (some (.int IntKind.i64 ((↑n : Int)))) .leaf) none .leaf)))), (.node (.node .leaf (some (.mp { kt := Sh.i IntKind.i64, vs := [Sh.i IntKind.i64, Sh.i IntKind.i64, Sh.i IntKind.i64], agg := true } (es) (clk))) .leaf) (some (.rows 31 [Sh.i IntKind.i64, Sh.i IntKind.i64, Sh.i IntKind.i64] (xs) (room))) (.node .leaf (some (.rows 48 [Sh.i IntKind.i64, Sh.i IntKind.i64] (ys) (r2))) .leaf)), 3, 56⟩) | false => (X ⟨(.node (.node (.node (.node .leaf (some (.int IntKind.i64 (IntKind.i64.wrap (nw + x0.i ((0 : Nat) + 1))))) (.node .leaf (some (.int IntKind.i64 (IntKind.i64.wrap (i + 1)))) .leaf)) (some (.int IntKind.i64 (hi))) .leaf) none (.node .leaf none (.node (.node .leaf (some (.sl 2 0 (n) (d))) .leaf) none .leaf))) none (.node (.node (.node .leaf (some (.bool (op))) .leaf) (some (.int IntKind.i64 (vo))) .leaf) (some (.int IntKind.i64 (lo))) (.node .leaf (some (.map 1)) (.node (.node .leaf (some (.int IntKind.i64 ((↑n : Int)))) .leaf) none .leaf)))), (.node (.node .leaf (some (.mp { kt := Sh.i IntKind.i64, vs := [Sh.i IntKind.i64, Sh.i IntKind.i64, Sh.i IntKind.i64], agg := true } (es) (clk))) .leaf) (some (.rows 31 [Sh.i IntKind.i64, Sh.i IntKind.i64, Sh.i IntKind.i64] (xs) (room))) (.node .leaf (some (.rows 48 [Sh.i IntKind.i64, Sh.i IntKind.i64] (ys) (r2))) .leaf)), 3, 56⟩)))))) | false => ((es.length ≤ (9223372036854775807 : Nat)) ∧ (bsplit (decide (IntKind.i64.wrap (2 * vo) ≤ (↑es.length : Int))) fun | true => (K (.tup [(.int IntKind.i64 (0 : Int)), (.int IntKind.i64 (0 : Int)), (.int IntKind.i64 (0 : Int)), (.int IntKind.i64 (10 : Int))]) (.node (.node .leaf (some (.mp { kt := Sh.i IntKind.i64, vs := [Sh.i IntKind.i64, Sh.i IntKind.i64, Sh.i IntKind.i64], agg := true } (es) (clk))) .leaf) (some (.rows 31 [Sh.i IntKind.i64, Sh.i IntKind.i64, Sh.i IntKind.i64] (xs) (room))) (.node .leaf (some (.rows 48 [Sh.i IntKind.i64, Sh.i IntKind.i64] (ys) (r2))) .leaf)) 3) | false => (K (.tup [(.int IntKind.i64 (lo)), (.int IntKind.i64 (hi)), (.int IntKind.i64 (vo)), (.int IntKind.i64 (0 : Int))]) (.node (.node .leaf (some (.mp { kt := Sh.i IntKind.i64, vs := [Sh.i IntKind.i64, Sh.i IntKind.i64, Sh.i IntKind.i64], agg := true } (es) (clk))) .leaf) (some (.rows 31 [Sh.i IntKind.i64, Sh.i IntKind.i64, Sh.i IntKind.i64] (xs) (room))) (.node .leaf (some (.rows 48 [Sh.i IntKind.i64, Sh.i IntKind.i64] (ys) (r2))) .leaf)) 3)))) := by kernel_rfl
theorem t_agO (I : Interp O) (K : AV → Tr (AO O) → Nat → Prop) (X : St O → Prop) (ob : Obj) (xs : List Rw) (es : List (Rw × Nat)) (clk : Nat) (lo hi vo nw : Int) (op : Bool) (n d : Nat) (ys : List Rw) (r2 : Nat) (i : Int) : acode I P (Gm A6) (adraw P (Gm A6)) 1 (cd Try.f10 [true, true, true, true, true, false, true, false, false]) (j_agR (oO ob xs) es clk lo hi vo nw op n d ys r2 i) (lpg 1 [(1, 1), (2, 2)] [2, 3, 4, 6, 7, 8, 21, 22, 23] 3 X (ablock 1 (athen (cd Try.f10 [true, true, true, true, true, true]) (fun s => acode I P (Gm A6) (adraw P (Gm A6)) 1 (cd Try.f10 [true, true, true, true, true, true]) s (kret P Try.f10 (K))) (kret P Try.f10 (K))))) =
  (bsplit (decide (i < (↑n : Int))) fun | true => (must (decide ((0 : Int) ≤ i ∧ i < (↑n : Int))) (xget (ys) (i.toNat) fun x0 => (bsplit (x0.i ((0 : Nat) + 1) == 0) fun | true => (X ⟨(.node (.node (.node (.node .leaf (some (.int IntKind.i64 (IntKind.i64.wrap (nw + x0.i ((0 : Nat) + 1))))) (.node .leaf (some (.int IntKind.i64 (IntKind.i64.wrap (i + 1)))) .leaf)) (some (.int IntKind.i64 (hi))) .leaf) none (.node .leaf none (.node (.node .leaf (some (.sl 2 0 (n) (d))) .leaf) none .leaf))) none (.node (.node (.node .leaf (some (.bool (op))) .leaf) (some (.int IntKind.i64 (vo))) .leaf) (some (.int IntKind.i64 (lo))) (.node .leaf (some (.map 1)) (.node (.node .leaf (some (.int IntKind.i64 ((↑n : Int)))) .leaf) none .leaf)))), (.node (.node .leaf (some (.mp { kt := Sh.i IntKind.i64, vs := [Sh.i IntKind.i64, Sh.i IntKind.i64, Sh.i IntKind.i64], agg := true } (es) (clk))) .leaf) (some (AO.out ob cS xs)) (.node .leaf (some (.rows 48 [Sh.i IntKind.i64, Sh.i IntKind.i64] (ys) (r2))) .leaf)), 3, 56⟩) | false => (bsplit (decide (IntKind.i64.wrap (nw + x0.i ((0 : Nat) + 1)) > vo)) fun | true => (X ⟨(.node (.node (.node (.node .leaf (some (.int IntKind.i64 (IntKind.i64.wrap (nw + x0.i ((0 : Nat) + 1))))) (.node .leaf (some (.int IntKind.i64 (IntKind.i64.wrap (i + 1)))) .leaf)) (some (.int IntKind.i64 (hi))) .leaf) none (.node .leaf none (.node (.node .leaf (some (.sl 2 0 (n) (d))) .leaf) none .leaf))) none (.node (.node (.node .leaf (some (.bool true)) .leaf) (some (.int IntKind.i64 (IntKind.i64.wrap (nw + x0.i ((0 : Nat) + 1))))) .leaf) (some (.int IntKind.i64 ((x0).i 0))) (.node .leaf (some (.map 1)) (.node (.node .leaf (some (.int IntKind.i64 ((↑n : Int)))) .leaf) none .leaf)))), (.node (.node .leaf (some (.mp { kt := Sh.i IntKind.i64, vs := [Sh.i IntKind.i64, Sh.i IntKind.i64, Sh.i IntKind.i64], agg := true } (es) (clk))) .leaf) (some (AO.out ob cS xs)) (.node .leaf (some (.rows 48 [Sh.i IntKind.i64, Sh.i IntKind.i64] (ys) (r2))) .leaf)), 3, 56⟩) | false => (bsplit (op) fun | true => (X ⟨(.node (.node (.node (.node .leaf (some (.int IntKind.i64 (IntKind.i64.wrap (nw + x0.i ((0 : Nat) + 1))))) (.node .leaf (some (.int IntKind.i64 (IntKind.i64.wrap (i + 1)))) .leaf)) (some (.int IntKind.i64 (IntKind.i64.wrap (x0.i 0 - 1)))) .leaf) none (.node .leaf none (.node (.node .leaf (some (.sl 2 0 (n) (d))) .leaf) none .leaf))) none (.node (.node (.node .leaf (some (.bool false)) .leaf) (some (.int IntKind.i64 (vo))) .leaf) (some (.int IntKind.i64 (lo))) (.node .leaf (some (.map 1)) (.node (.node .leaf (some (.int IntKind.i64 ((↑n : Int)))) .leaf) none .leaf)))), (.node (.node .leaf (some (.mp { kt := Sh.i IntKind.i64, vs := [Sh.i IntKind.i64, Sh.i IntKind.i64, Sh.i IntKind.i64], agg := true } (es) (clk))) .leaf) (some (AO.out ob cS xs)) (.node .leaf (some (.rows 48 [Sh.i IntKind.i64, Sh.i IntKind.i64] (ys) (r2))) .leaf)), 3, 56⟩) | false => (X ⟨(.node (.node (.node (.node .leaf (some (.int IntKind.i64 (IntKind.i64.wrap (nw + x0.i ((0 : Nat) + 1))))) (.node .leaf (some (.int IntKind.i64 (IntKind.i64.wrap (i + 1)))) .leaf)) (some (.int IntKind.i64 (hi))) .leaf) none (.node .leaf none (.node (.node .leaf (some (.sl 2 0 (n) (d))) .leaf) none .leaf))) none (.node (.node (.node .leaf (some (.bool (op))) .leaf) (some (.int IntKind.i64 (vo))) .leaf) (some (.int IntKind.i64 (lo))) (.node .leaf (some (.map 1)) (.node (.node .leaf (some (.int IntKind.i64 ((↑n : Int)))) .leaf) none .leaf)))), (.node (.node .leaf (some (.mp { kt := Sh.i IntKind.i64, vs := [Sh.i IntKind.i64, Sh.i IntKind.i64, Sh.i IntKind.i64], agg := true } (es) (clk))) .leaf) (some (AO.out ob cS xs)) (.node .leaf (some (.rows 48 [Sh.i IntKind.i64, Sh.i IntKind.i64] (ys) (r2))) .leaf)), 3, 56⟩)))))) | false => ((es.length ≤ (9223372036854775807 : Nat)) ∧ (bsplit (decide (IntKind.i64.wrap (2 * vo) ≤ (↑es.length : Int))) fun | true => (K (.tup [(.int IntKind.i64 (0 : Int)), (.int IntKind.i64 (0 : Int)), (.int IntKind.i64 (0 : Int)), (.int IntKind.i64 (10 : Int))]) (.node (.node .leaf (some (.mp { kt := Sh.i IntKind.i64, vs := [Sh.i IntKind.i64, Sh.i IntKind.i64, Sh.i IntKind.i64], agg := true } (es) (clk))) .leaf) (some (AO.out ob cS xs)) (.node .leaf (some (.rows 48 [Sh.i IntKind.i64, Sh.i IntKind.i64] (ys) (r2))) .leaf)) 3) | false => (K (.tup [(.int IntKind.i64 (lo)), (.int IntKind.i64 (hi)), (.int IntKind.i64 (vo)), (.int IntKind.i64 (0 : Int))]) (.node (.node .leaf (some (.mp { kt := Sh.i IntKind.i64, vs := [Sh.i IntKind.i64, Sh.i IntKind.i64, Sh.i IntKind.i64], agg := true } (es) (clk))) .leaf) (some (AO.out ob cS xs)) (.node .leaf (some (.rows 48 [Sh.i IntKind.i64, Sh.i IntKind.i64] (ys) (r2))) .leaf)) 3)))) := by kernel_rfl
theorem t_agQ (I : Interp O) (K : AV → Tr (AO O) → Nat → Prop) (X : St O → Prop) (xs : List Rw) (room : Nat) (es : List (Rw × Nat)) (clk : Nat) : acode I P (Gm A6) (adraw P (Gm A6)) 1 (cd Try.f10 [true, true, true, true, true, false, true, false, false]) (j_agQ (cO xs room) es clk) (lpg 1 [(1, 1)] [2, 3, 4, 6, 7, 8, 21, 22, 23] 2 X (ablock 1 (athen (cd Try.f10 [true, true, true, true, true, true]) (fun s => acode I P (Gm A6) (adraw P (Gm A6)) 1 (cd Try.f10 [true, true, true, true, true, true]) s (kret P Try.f10 (K))) (kret P Try.f10 (K))))) =
  ((es.length ≤ (9223372036854775807 : Nat)) ∧ (K (.tup [(.int IntKind.i64 (0 : Int)), (.int IntKind.i64 (0 : Int)), (.int IntKind.i64 (0 : Int)), (.int IntKind.i64 (10 : Int))]) (.node (.node .leaf (some (.mp { kt := Sh.i IntKind.i64, vs := [Sh.i IntKind.i64, Sh.i IntKind.i64, Sh.i IntKind.i64], agg := true } (es) (clk))) .leaf) (some (.rows 31 [Sh.i IntKind.i64, Sh.i IntKind.i64, Sh.i IntKind.i64] (xs) (room))) .leaf) 2)) := by kernel_rfl
theorem t_agP (I : Interp O) (K : AV → Tr (AO O) → Nat → Prop) (X : St O → Prop) (ob : Obj) (xs : List Rw) (es : List (Rw × Nat)) (clk : Nat) : acode I P (Gm A6) (adraw P (Gm A6)) 1 (cd Try.f10 [true, true, true, true, true, false, true, false, false]) (j_agQ (oO ob xs) es clk) (lpg 1 [(1, 1)] [2, 3, 4, 6, 7, 8, 21, 22, 23] 2 X (ablock 1 (athen (cd Try.f10 [true, true, true, true, true, true]) (fun s => acode I P (Gm A6) (adraw P (Gm A6)) 1 (cd Try.f10 [true, true, true, true, true, true]) s (kret P Try.f10 (K))) (kret P Try.f10 (K))))) =
  ((es.length ≤ (9223372036854775807 : Nat)) ∧ (K (.tup [(.int IntKind.i64 (0 : Int)), (.int IntKind.i64 (0 : Int)), (.int IntKind.i64 (0 : Int)), (.int IntKind.i64 (10 : Int))]) (.node (.node .leaf (some (.mp { kt := Sh.i IntKind.i64, vs := [Sh.i IntKind.i64, Sh.i IntKind.i64, Sh.i IntKind.i64], agg := true } (es) (clk))) .leaf) (some (AO.out ob cS xs)) .leaf) 2)) := by kernel_rfl
theorem t_me0 (I : Interp O) (K : AV → Tr (AO O) → Nat → Prop) (X Y : St O → Prop) (es : List (Rw × Nat)) (clk since : Nat) (seen : List Nat) (last : Nat) (cur : Option (Rw × Nat)) : acode I P (Gm A5) (adraw P (Gm A5)) 1 (cd Try.f16 [true, true, true, true, true, false, true, false, false]) (j_me0 es clk since seen last cur) (lpg 1 [(1, 1)] [6, 30, 31, 32] 3 Y (ablock 2 (athen (cd Try.f16 [true, true, true, true, true, true]) (fun s => acode I P (Gm A5) (adraw P (Gm A5)) 1 (cd Try.f16 [true, true, true, true, true, true]) s (kret P Try.f16 (K))) (kret P Try.f16 (K))))) =
  (K .nils (.node (.node .leaf (some (.it 0 (since) (seen) (last) (cur))) .leaf) (some (.mp { kt := Sh.i IntKind.i64, vs := [Sh.i IntKind.i64, Sh.i IntKind.i64, Sh.i IntKind.i64], agg := true } (es) (clk))) .leaf) 3) := by kernel_rfl
theorem t_meA (I : Interp O) (K : AV → Tr (AO O) → Nat → Prop) (X Y : St O → Prop) (es : List (Rw × Nat)) (clk since : Nat) (seen : List Nat) (last : Nat) (cur : Option (Rw × Nat)) (n c : Nat) (ys : List Rw) (room : Nat) (i : Int) : acode I P (Gm A5) (adraw P (Gm A5)) 1 (cd Try.f16 [true, true, true, true, true, false, true, false, false]) (j_meA es clk since seen last cur n c ys room i) (lpgL 1 [[(1, 1), (2, 2)], [(1, 1), (2, 2), (3, 3)], [(1, 1), (2, 2), (4, 3)], [(1, 1), (2, 2), (5, 3)], [(1, 1), (2, 2), (6, 3)], [(1, 1), (2, 2), (7, 3)], [(1, 1), (2, 2), (8, 3)], [(1, 1), (2, 2), (9, 3)]] [6, 30, 31, 32] 4 Y (ablock 2 (athen (cd Try.f16 [true, true, true, true, true, true]) (fun s => acode I P (Gm A5) (adraw P (Gm A5)) 1 (cd Try.f16 [true, true, true, true, true, true]) s (kret P Try.f16 (K))) (kret P Try.f16 (K))))) =
  (bsplit (decide (i < (↑n : Int))) fun | true => (must (decide ((0 : Int) ≤ i ∧ i < (↑n : Int))) (xget (ys) (i.toNat) fun x0 => (((0 : Nat) + (1 : Nat) ≤ (137438953472 : Nat)) ∧ (∀ (c'1 : Nat), ((0 : Nat) + 1 ≤ c'1 → (c'1 ≤ 9223372036854775807 → (Y ⟨(.node (.node (.node (.node (.node (.node .leaf (some (.int IntKind.i64 ((↑n : Int)))) .leaf) none .leaf) none .leaf) none .leaf) none .leaf) none (.node (.node (.node (.node (.node .leaf (some (.int IntKind.i64 (IntKind.i64.wrap (i + 1)))) .leaf) none .leaf) none .leaf) none .leaf) none (.node .leaf (some (.sl 3 0 1 (c'1))) (.node .leaf none (.node .leaf (some (.sl 2 0 (n) (c))) .leaf))))), (.node (.node (.node .leaf (some (.rows 48 [Sh.i IntKind.i64, Sh.i IntKind.i64] (([] : List Rw) ++ ((rwA [(.int IntKind.i64 ((x0).i 0)), (.int IntKind.i64 ((x0).i 1))]) :: [])) (c'1 * [Sh.i IntKind.i64, Sh.i IntKind.i64].length))) .leaf) (some (.it 0 (since) (seen) (last) (cur))) .leaf) (some (.mp { kt := Sh.i IntKind.i64, vs := [Sh.i IntKind.i64, Sh.i IntKind.i64, Sh.i IntKind.i64], agg := true } (es) (clk))) (.node .leaf (some (.rows 48 [Sh.i IntKind.i64, Sh.i IntKind.i64] (ys) (room))) .leaf)), 4, 68⟩))))))) | false => (K .nils (.node (.node .leaf (some (.it 0 (since) (seen) (last) (cur))) .leaf) (some (.mp { kt := Sh.i IntKind.i64, vs := [Sh.i IntKind.i64, Sh.i IntKind.i64, Sh.i IntKind.i64], agg := true } (es) (clk))) (.node .leaf (some (.rows 48 [Sh.i IntKind.i64, Sh.i IntKind.i64] (ys) (room))) .leaf)) 4)) := by kernel_rfl
theorem t_meB (I : Interp O) (K : AV → Tr (AO O) → Nat → Prop) (X Y : St O → Prop) (es : List (Rw × Nat)) (clk since : Nat) (seen : List Nat) (last : Nat) (cur : Option (Rw × Nat)) (n c : Nat) (ys : List Rw) (room : Nat) (i : Int) (k d : Nat) (out : List Rw) (r2 : Nat) : acode I P (Gm A5) (adraw P (Gm A5)) 1 (cd Try.f16 [true, true, true, true, true, false, true, false, false]) (j_meB es clk since seen last cur n c ys room i k d out r2) (lpgL 1 [[(1, 1), (2, 2)], [(1, 1), (2, 2), (3, 3)], [(1, 1), (2, 2), (4, 3)], [(1, 1), (2, 2), (5, 3)], [(1, 1), (2, 2), (6, 3)], [(1, 1), (2, 2), (7, 3)], [(1, 1), (2, 2), (8, 3)], [(1, 1), (2, 2), (9, 3)]] [6, 30, 31, 32] 4 Y (ablock 2 (athen (cd Try.f16 [true, true, true, true, true, true]) (fun s => acode I P (Gm A5) (adraw P (Gm A5)) 1 (cd Try.f16 [true, true, true, true, true, true]) s (kret P Try.f16 (K))) (kret P Try.f16 (K))))) =
  (bsplit (decide (i < (↑n : Int))) fun | true => (must (decide ((0 : Int) ≤ i ∧ i < (↑n : Int))) (xget (ys) (i.toNat) fun x0 => (bsplit (decide ((↑k : Int) > 0)) fun | true => (must (decide ((0 : Int) ≤ IntKind.i64.wrap ((↑k : Int) - 1) ∧ IntKind.i64.wrap ((↑k : Int) - 1) < (↑k : Int))) (xget (out) ((IntKind.i64.wrap ((↑k : Int) - 1)).toNat) fun x1 => (bsplit (x1.i 0 == x0.i 0) fun | true => (must (decide ((0 : Int) ≤ IntKind.i64.wrap ((↑k : Int) - 1) ∧ IntKind.i64.wrap ((↑k : Int) - 1) < (↑k : Int))) (xget (out) ((IntKind.i64.wrap ((↑k : Int) - 1)).toNat) fun x2 => (must (decide ((0 : Int) ≤ IntKind.i64.wrap ((↑k : Int) - 1) ∧ IntKind.i64.wrap ((↑k : Int) - 1) < (↑k : Int))) (xget (out) ((IntKind.i64.wrap ((↑k : Int) - 1)).toNat) fun x3 => (Y ⟨(.node (.node (.node (.node (.node (.node .leaf (some (.int IntKind.i64 ((↑n : Int)))) .leaf) none .leaf) none .leaf) none .leaf) none .leaf) none (.node (.node (.node (.node (.node .leaf (some (.int IntKind.i64 (IntKind.i64.wrap (i + 1)))) .leaf) none .leaf) none .leaf) none .leaf) none (.node .leaf (some (.sl 3 0 (k) (d))) (.node .leaf none (.node .leaf (some (.sl 2 0 (n) (c))) .leaf))))), (.node (.node (.node .leaf (some (.rows 48 [Sh.i IntKind.i64, Sh.i IntKind.i64] (out.set (IntKind.i64.wrap ((↑k : Int) - 1)).toNat   (setI x3 1 (IntKind.i64.wrap (x2.i ((0 : Nat) + 1) + x0.i ((0 : Nat) + 1))))) (r2))) .leaf) (some (.it 0 (since) (seen) (last) (cur))) .leaf) (some (.mp { kt := Sh.i IntKind.i64, vs := [Sh.i IntKind.i64, Sh.i IntKind.i64, Sh.i IntKind.i64], agg := true } (es) (clk))) (.node .leaf (some (.rows 48 [Sh.i IntKind.i64, Sh.i IntKind.i64] (ys) (room))) .leaf)), 4, 68⟩))))) | false => (must (k.ble out.length && (d * [Sh.i IntKind.i64, Sh.i IntKind.i64].length).ble r2 && Nat.blt 3 16777215) ((k + (1 : Nat) ≤ (137438953472 : Nat)) ∧ (∀ (c'4 : Nat), (k + 1 ≤ c'4 → (c'4 ≤ 9223372036854775807 → (Y ⟨(.node (.node (.node (.node (.node (.node .leaf (some (.int IntKind.i64 ((↑n : Int)))) .leaf) none .leaf) none .leaf) none .leaf) none .leaf) none (.node (.node (.node (.node (.node .leaf (some (.int IntKind.i64 (IntKind.i64.wrap (i + 1)))) .leaf) none .leaf) none .leaf) none .leaf) none (.node .leaf (some (.sl 3 0 (k + 1) (c'4))) (.node .leaf none (.node .leaf (some (.sl 2 0 (n) (c))) .leaf))))), (.node (.node (.node .leaf (some (.rows 48 [Sh.i IntKind.i64, Sh.i IntKind.i64] ((List.take k out) ++ ((rwA [(.int IntKind.i64 ((x0).i 0)), (.int IntKind.i64 ((x0).i 1))]) :: [])) (c'4 * [Sh.i IntKind.i64, Sh.i IntKind.i64].length))) .leaf) (some (.it 0 (since) (seen) (last) (cur))) .leaf) (some (.mp { kt := Sh.i IntKind.i64, vs := [Sh.i IntKind.i64, Sh.i IntKind.i64, Sh.i IntKind.i64], agg := true } (es) (clk))) (.node .leaf (some (.rows 48 [Sh.i IntKind.i64, Sh.i IntKind.i64] (ys) (room))) .leaf)), 4, 68⟩))))))))) | false => (must (k.ble out.length && (d * [Sh.i IntKind.i64, Sh.i IntKind.i64].length).ble r2 && Nat.blt 3 16777215) ((k + (1 : Nat) ≤ (137438953472 : Nat)) ∧ (∀ (c'5 : Nat), (k + 1 ≤ c'5 → (c'5 ≤ 9223372036854775807 → (Y ⟨(.node (.node (.node (.node (.node (.node .leaf (some (.int IntKind.i64 ((↑n : Int)))) .leaf) none .leaf) none .leaf) none .leaf) none .leaf) none (.node (.node (.node (.node (.node .leaf (some (.int IntKind.i64 (IntKind.i64.wrap (i + 1)))) .leaf) none .leaf) none .leaf) none .leaf) none (.node .leaf (some (.sl 3 0 (k + 1) (c'5))) (.node .leaf none (.node .leaf (some (.sl 2 0 (n) (c))) .leaf))))), (.node (.node (.node .leaf (some (.rows 48 [Sh.i IntKind.i64, Sh.i IntKind.i64] ((List.take k out) ++ ((rwA [(.int IntKind.i64 ((x0).i 0)), (.int IntKind.i64 ((x0).i 1))]) :: [])) (c'5 * [Sh.i IntKind.i64, Sh.i IntKind.i64].length))) .leaf) (some (.it 0 (since) (seen) (last) (cur))) .leaf) (some (.mp { kt := Sh.i IntKind.i64, vs := [Sh.i IntKind.i64, Sh.i IntKind.i64, Sh.i IntKind.i64], agg := true } (es) (clk))) (.node .leaf (some (.rows 48 [Sh.i IntKind.i64, Sh.i IntKind.i64] (ys) (room))) .leaf)), 4, 68⟩))))))))) | false => (K (.sl 3 0 (k) (d)) (.node (.node (.node .leaf (some (.rows 48 [Sh.i IntKind.i64, Sh.i IntKind.i64] (out) (r2))) .leaf) (some (.it 0 (since) (seen) (last) (cur))) .leaf) (some (.mp { kt := Sh.i IntKind.i64, vs := [Sh.i IntKind.i64, Sh.i IntKind.i64, Sh.i IntKind.i64], agg := true } (es) (clk))) (.node .leaf (some (.rows 48 [Sh.i IntKind.i64, Sh.i IntKind.i64] (ys) (room))) .leaf)) 4)) := by kernel_rfl
end W
end Go.Tb

/- Claims: edges put together; plain law. -/
set_option linter.all false
set_option maxRecDepth 100000
namespace Go.Tb.W
open Go Go.Proofs
def sumAt (l : List (Int × Int)) (p : Int) : Int := ((l.filter (fun x => x.1 == p)).map (·.2)).sum
theorem sumAt_app (a b : List (Int × Int)) (p : Int) : sumAt (a ++ b) p = sumAt a p + sumAt b p := by
  unfold sumAt; rw [List.filter_append, List.map_append, List.sum_append]
theorem sumAt_one (x : Int × Int) (p : Int) : sumAt [x] p = if x.1 = p then x.2 else 0 := by
  unfold sumAt
  by_cases h : x.1 = p <;> simp [h]
theorem perm_sum {a b : List Int} (h : a.Perm b) : a.sum = b.sum := by
  induction h with
  | nil => rfl
  | cons x _ ih => simp [ih]
  | swap x y l => simp; omega
  | trans _ _ h1 h2 => exact h1.trans h2
theorem sumAt_perm {a b : List (Int × Int)} (h : a.Perm b) (p : Int) : sumAt a p = sumAt b p := by
  unfold sumAt
  exact perm_sum ((h.filter _).map _)
/-- What edges put together are: rising strictly, of just those places, with the sums. -/
structure Jn (l out : List (Int × Int)) : Prop where
  st : out.Pairwise (fun x y => x.1 < y.1)
  pl : ∀ p, (∃ x ∈ out, x.1 = p) ↔ ∃ x ∈ l, x.1 = p
  sm : ∀ x ∈ out, x.2 = sumAt l x.1
theorem Jn.nil : Jn [] [] := ⟨.nil, fun p => Iff.rfl, fun x h => by cases h⟩
theorem last_split {out : List (Int × Int)} {y : Int × Int} (h : out.getLast? = some y) : out = out.dropLast ++ [y] := by
  obtain ⟨ys, rfl⟩ := List.getLast?_eq_some_iff.1 h
  simp
theorem sum_no {l : List (Int × Int)} {p : Int} (h : ∀ x ∈ l, x.1 ≠ p) : sumAt l p = 0 := by
  unfold sumAt
  rw [List.filter_eq_nil_iff.2 fun x hx => by simpa using h x hx]; rfl
theorem Jn.put {l out : List (Int × Int)} (h : Jn l out) {x : Int × Int} (hx : ∀ y ∈ l, y.1 ≤ x.1) : Jn (l ++ [x]) (putE out x) := by
  unfold putE
  cases hl : out.getLast? with
  | none =>
    have ho : out = [] := List.getLast?_eq_none_iff.1 hl
    have hn : ∀ y ∈ l, False := fun y hy => by
      obtain ⟨z, hz, _⟩ := (h.pl y.1).2 ⟨y, hy, rfl⟩
      rw [ho] at hz; cases hz
    have hl0 : l = [] := List.eq_nil_iff_forall_not_mem.2 hn
    subst hl0
    refine ⟨List.pairwise_singleton .., fun p => by simp, fun y hy => ?_⟩
    simp at hy; subst hy
    rw [List.nil_append, sumAt_one, if_pos rfl]
  | some y =>
    have hs := last_split hl
    have hym : y ∈ out := by rw [hs]; simp
    obtain ⟨z, hz, hzy⟩ := (h.pl y.1).1 ⟨y, hym, rfl⟩
    have hyx : y.1 ≤ x.1 := by rw [← hzy]; exact hx z hz
    have hst := h.st
    rw [hs] at hst
    obtain ⟨st1, _, st2⟩ := List.pairwise_append.1 hst
    have hlt : ∀ w ∈ out.dropLast, w.1 < y.1 := fun w hw => st2 w hw y (by simp)
    simp only
    by_cases he : y.1 = x.1
    · rw [if_pos he]
      refine ⟨List.pairwise_append.2 ⟨st1, List.pairwise_singleton .., fun a ha b hb => ?_⟩, fun p => ?_, fun w hw => ?_⟩
      · simp at hb; subst hb; exact hlt a ha
      · have hp := h.pl p
        rw [hs] at hp
        constructor
        · rintro ⟨w, hw, rfl⟩
          rcases List.mem_append.1 hw with hw | hw
          · obtain ⟨u, hu, he2⟩ := hp.1 ⟨w, List.mem_append_left _ hw, rfl⟩
            exact ⟨u, List.mem_append_left _ hu, he2⟩
          · simp at hw; subst hw
            exact ⟨x, by simp, he.symm⟩
        · rintro ⟨u, hu, rfl⟩
          rcases List.mem_append.1 hu with hu | hu
          · obtain ⟨w, hw, he2⟩ := hp.2 ⟨u, hu, rfl⟩
            rcases List.mem_append.1 hw with hw | hw
            · exact ⟨w, List.mem_append_left _ hw, he2⟩
            · simp at hw; subst hw
              exact ⟨(w.1, w.2 + x.2), by simp, he2⟩
          · simp at hu; subst hu
            exact ⟨(y.1, y.2 + u.2), by simp, he⟩
      · rcases List.mem_append.1 hw with hw | hw
        · have := hlt w hw
          rw [sumAt_app, sumAt_one, if_neg (by omega), h.sm w (by rw [hs]; exact List.mem_append_left _ hw)]
          omega
        · simp at hw; subst hw
          show y.2 + x.2 = sumAt (l ++ [x]) y.1
          rw [sumAt_app, sumAt_one, if_pos he.symm, h.sm y hym]
    · rw [if_neg he]
      have hlt2 : ∀ w ∈ out, w.1 < x.1 := fun w hw => by
        rw [hs] at hw
        rcases List.mem_append.1 hw with hw | hw
        · have := hlt w hw; omega
        · simp at hw; subst hw; omega
      refine ⟨List.pairwise_append.2 ⟨h.st, List.pairwise_singleton .., fun a ha b hb => ?_⟩, fun p => ?_, fun w hw => ?_⟩
      · simp at hb; subst hb; exact hlt2 a ha
      · have hp := h.pl p
        constructor
        · rintro ⟨w, hw, rfl⟩
          rcases List.mem_append.1 hw with hw | hw
          · obtain ⟨u, hu, he2⟩ := hp.1 ⟨w, hw, rfl⟩
            exact ⟨u, List.mem_append_left _ hu, he2⟩
          · exact ⟨w, List.mem_append_right _ hw, rfl⟩
        · rintro ⟨u, hu, rfl⟩
          rcases List.mem_append.1 hu with hu | hu
          · obtain ⟨w, hw, he2⟩ := hp.2 ⟨u, hu, rfl⟩
            exact ⟨w, List.mem_append_left _ hw, he2⟩
          · exact ⟨u, List.mem_append_right _ hu, rfl⟩
      · rcases List.mem_append.1 hw with hw | hw
        · have := hlt2 w hw
          rw [sumAt_app, sumAt_one, if_neg (by omega), h.sm w hw]; omega
        · simp at hw; subst hw
          have hno : ∀ y ∈ l, y.1 ≠ w.1 := fun y hy e => by
            obtain ⟨u, hu, he2⟩ := (h.pl y.1).2 ⟨y, hy, rfl⟩
            have := hlt2 u hu; omega
          rw [sumAt_app, sumAt_one, if_pos rfl, sum_no hno]; omega
theorem join_snoc (l : List (Int × Int)) (x : Int × Int) : joinE (l ++ [x]) = putE (joinE l) x := by unfold joinE; rw [List.foldl_append]; rfl
theorem Jn.joinR : ∀ (r : List (Int × Int)), r.reverse.Pairwise (fun x y => x.1 ≤ y.1) → Jn r.reverse (joinE r.reverse)
  | [], _ => Jn.nil
  | x :: r, h => by
    rw [List.reverse_cons] at h ⊢
    obtain ⟨h1, _, h2⟩ := List.pairwise_append.1 h
    rw [join_snoc]
    exact (Jn.joinR r h1).put fun y hy => h2 y hy x (by simp)
theorem Jn.join {l : List (Int × Int)} (h : l.Pairwise (fun x y => x.1 ≤ y.1)) : Jn l (joinE l) := by
  have := Jn.joinR l.reverse
  rw [List.reverse_reverse] at this
  exact this h
theorem Jn.uniq {l m a b : List (Int × Int)} (ha : Jn l a) (hb : Jn m b) (hp : l.Perm m) : a = b := by
  have nd : ∀ {c : List (Int × Int)}, c.Pairwise (fun x y => x.1 < y.1) → c.Nodup := fun h => h.imp fun {x y} hxy e => by rw [e] at hxy; omega
  have sub : ∀ {l m a b : List (Int × Int)}, Jn l a → Jn m b → l.Perm m → ∀ x ∈ a, x ∈ b := fun {l m a b} ha hb hp x hx => by
    obtain ⟨u, hu, hue⟩ := (ha.pl x.1).1 ⟨x, hx, rfl⟩
    obtain ⟨y, hy, hye⟩ := (hb.pl x.1).2 ⟨u, hp.mem_iff.1 hu, hue⟩
    have : y = x := by
      refine Prod.ext hye ?_
      rw [hb.sm y hy, ha.sm x hx, hye, sumAt_perm hp]
    rw [← this]; exact hy
  have hperm : a.Perm b := (List.perm_ext_iff_of_nodup (nd ha.st) (nd hb.st)).2 fun x => ⟨sub ha hb hp x, sub hb ha hp.symm x⟩
  exact List.Perm.eq_of_pairwise (le := fun x y : Int × Int => x.1 < y.1) (fun x y _ _ h1 h2 => by omega) ha.st hb.st hperm
theorem insP_perm (x : Int × Int) : ∀ l, (insP x l).Perm (x :: l)
  | [] => List.Perm.refl _
  | y :: l => by
    unfold insP
    split
    · exact List.Perm.refl _
    · exact ((insP_perm x l).cons y).trans (.swap ..)
theorem srtP_perm : ∀ l, (srtP l).Perm l
  | [] => List.Perm.refl _
  | x :: l => (insP_perm x (srtP l)).trans ((srtP_perm l).cons x)
theorem insP_so (x : Int × Int) : ∀ {l : List (Int × Int)}, l.Pairwise (fun x y => x.1 ≤ y.1) → (insP x l).Pairwise (fun x y => x.1 ≤ y.1)
  | [], _ => List.pairwise_singleton ..
  | y :: l, h => by
    obtain ⟨h1, h2⟩ := List.pairwise_cons.1 h
    unfold insP
    split
    · refine List.pairwise_cons.2 ⟨fun z hz => ?_, h⟩
      rcases List.mem_cons.1 hz with rfl | hz
      · assumption
      · have := h1 z hz; omega
    · refine List.pairwise_cons.2 ⟨fun z hz => ?_, insP_so x h2⟩
      rcases List.mem_cons.1 ((insP_perm x l).mem_iff.1 hz) with rfl | hz
      · omega
      · exact h1 z hz
theorem srtP_so : ∀ l, (srtP l).Pairwise (fun x y => x.1 ≤ y.1)
  | [] => .nil
  | x :: l => insP_so x (srtP_so l)
theorem edgeF_of {es : List (Rw × Nat)} {L : List (Int × Int)} (hp : L.Perm (rawE es)) (hs : L.Pairwise (fun x y => x.1 ≤ y.1)) : joinE L = edgeF es :=
  Jn.uniq (Jn.join hs) (Jn.join (srtP_so _)) (hp.trans (srtP_perm _).symm)
end Go.Tb.W

/- Claims: edges, proved. -/
set_option linter.all false
set_option maxRecDepth 100000
set_option maxHeartbeats 4000000
namespace Go.Tb.W
open Go Go.Proofs
theorem mleft_mem {es : List (Rw × Nat)} {seen : List Nat} {e : Rw × Nat} (h : e ∈ mleft es seen) : e ∈ es ∧ seen.contains e.2 = false := by
  unfold mleft at h
  obtain ⟨h1, h2⟩ := List.mem_filter.1 h
  exact ⟨h1, by simpa using h2⟩
theorem mleft_lt {es : List (Rw × Nat)} {seen : List Nat} {e : Rw × Nat} (h : e ∈ mleft es seen) : (mleft es (seen ++ [e.2])).length < (mleft es seen).length := by
  have : mleft es (seen ++ [e.2]) = (mleft es seen).filter (fun x => !(x.2 == e.2)) := by
    unfold mleft
    rw [List.filter_filter]
    refine List.filter_congr fun x _ => ?_
    rw [Bool.eq_iff_iff]; simp [and_comm]
  rw [this]
  exact List.length_filter_lt_length_iff_exists.2 ⟨e, h, by simp⟩
theorem mover_nil {es : List (Rw × Nat)} {seen : List Nat} {since : Nat} (h : mover es since seen = true) (ho : ∀ e ∈ es, e.2 < since) : ∀ e ∈ es, seen.contains e.2 = true := fun e he => by
  cases hs : seen.contains e.2 with
  | true => rfl
  | false =>
    unfold mover at h
    have := List.all_eq_true.1 h e (by unfold mleft; exact List.mem_filter.2 ⟨he, by show (!seen.contains e.2) = true; rw [hs]; rfl⟩)
    have := of_decide_eq_true this
    have := ho e he
    omega
theorem matB_mem : ∀ {es : List (Rw × Nat)} {e : Rw × Nat}, es.Pairwise (fun a b => a.2 ≠ b.2) → e ∈ es → matB e.2 es = some e
  | [], _, _, h => by simp at h
  | a :: l, e, hp, he => by
    obtain ⟨hp1, hp2⟩ := List.pairwise_cons.1 hp
    simp only [matB]
    rcases List.mem_cons.1 he with rfl | he
    · have : Nat.beq e.2 e.2 = true := Nat.beq_refl _
      rw [this]
    · have : Nat.beq a.2 e.2 = false := by
        cases hb : Nat.beq a.2 e.2 with
        | false => rfl
        | true => exact absurd (Nat.eq_of_beq_eq_true hb) (hp1 e he)
      rw [this]
      exact matB_mem hp2 he
theorem mgoes_ok {es : List (Rw × Nat)} {seen : List Nat} {last : Nat} (h : seen = [] ∨ (es ≠ [] ∧ ∀ e ∈ es, e.2 < last)) : mgoes es seen last = true := by
  unfold mgoes
  rcases h with rfl | ⟨h1, h2⟩
  · rfl
  · cases es with
    | nil => exact absurd rfl h1
    | cons a l =>
      have := h2 a (List.mem_cons_self ..)
      simp [this]
def pickS (es : List (Rw × Nat)) (seen : List Nat) : List (Rw × Nat) := es.filter (fun x => seen.contains x.2)
theorem pick_same {es : List (Rw × Nat)} {seen : List Nat} {b : Nat} (h : ∀ x ∈ es, x.2 ≠ b) : pickS es (seen ++ [b]) = pickS es seen := by
  unfold pickS
  refine List.filter_congr fun x hx => ?_
  have := h x hx
  rw [Bool.eq_iff_iff]; simp [this]
theorem pick_add {seen : List Nat} {e : Rw × Nat} (hs : seen.contains e.2 = false) : ∀ {es : List (Rw × Nat)}, es.Pairwise (fun a b => a.2 ≠ b.2) → e ∈ es → (pickS es (seen ++ [e.2])).Perm (e :: pickS es seen)
  | [], _, h => by simp at h
  | a :: l, hp, he => by
    obtain ⟨hp1, hp2⟩ := List.pairwise_cons.1 hp
    rcases List.mem_cons.1 he with rfl | he
    · have h1 : pickS (e :: l) (seen ++ [e.2]) = e :: pickS l (seen ++ [e.2]) := by unfold pickS; rw [List.filter_cons_of_pos (by simp)]
      have h2 : pickS (e :: l) seen = pickS l seen := by unfold pickS; rw [List.filter_cons_of_neg (by rw [hs]; simp)]
      rw [h1, h2, pick_same fun x hx => fun h => hp1 x hx h.symm]
    · have ih := pick_add hs hp2 he
      have hne : a.2 ≠ e.2 := hp1 e he
      by_cases ha : seen.contains a.2 = true
      · have h1 : pickS (a :: l) (seen ++ [e.2]) = a :: pickS l (seen ++ [e.2]) := by unfold pickS; rw [List.filter_cons_of_pos (by simp at ha ⊢; exact .inl ha)]
        have h2 : pickS (a :: l) seen = a :: pickS l seen := by unfold pickS; rw [List.filter_cons_of_pos (p := fun x : Rw × Nat => seen.contains x.2) ha]
        rw [h1, h2]
        exact (ih.cons a).trans (.swap ..)
      · have h1 : pickS (a :: l) (seen ++ [e.2]) = pickS l (seen ++ [e.2]) := by unfold pickS; rw [List.filter_cons_of_neg (by simp at ha ⊢; exact ⟨ha, hne⟩)]
        have h2 : pickS (a :: l) seen = pickS l seen := by unfold pickS; rw [List.filter_cons_of_neg (p := fun x : Rw × Nat => seen.contains x.2) ha]
        rw [h1, h2]; exact ih
theorem pick_all {es : List (Rw × Nat)} {seen : List Nat} (h : ∀ e ∈ es, seen.contains e.2 = true) : pickS es seen = es := List.filter_eq_self.2 h
theorem raw_len (es : List (Rw × Nat)) : (rawE es).length = 2 * es.length := by
  induction es with
  | nil => rfl
  | cons a l ih =>
    show ([_, _] ++ rawE l).length = _
    rw [List.length_append, ih]; simp; omega
theorem raw_step {es : List (Rw × Nat)} {seen : List Nat} {L : List (Int × Int)} {e : Rw × Nat} (hL : L.Perm (rawE (pickS es seen))) (hs : seen.contains e.2 = false) (hb : es.Pairwise (fun a b => a.2 ≠ b.2)) (he : e ∈ es) :
    (L ++ [(e.1.i 2, 1), (e.1.i 3 + 1, -1)]).Perm (rawE (pickS es (seen ++ [e.2]))) := by
  have h1 : (rawE (pickS es (seen ++ [e.2]))).Perm (rawE (e :: pickS es seen)) := (pick_add hs hb he).flatMap_right _
  refine List.Perm.trans ?_ h1.symm
  show (L ++ [(e.1.i 2, 1), (e.1.i 3 + 1, -1)]).Perm ([(e.1.i 2, 1), (e.1.i 3 + 1, -1)] ++ rawE (pickS es seen))
  exact List.perm_append_comm.trans (hL.append_left _)
theorem raw_mem {es : List (Rw × Nat)} {p : Int × Int} (h : p ∈ rawE es) : ∃ e ∈ es, p = (e.1.i 2, 1) ∨ p = (e.1.i 3 + 1, -1) := by
  unfold rawE at h
  obtain ⟨e, he, hp⟩ := List.mem_flatMap.1 h
  simp at hp
  exact ⟨e, he, hp⟩
theorem edg_get {L : List (Int × Int)} {i : Nat} (hi : i < L.length) : (L.map edg)[i]? = some (edg L[i]) := by rw [List.getElem?_map, List.getElem?_eq_getElem hi]; rfl
theorem ys_edg {ys : List Rw} {L : List (Int × Int)} (h : ys.Perm (L.map edg)) : ∃ M : List (Int × Int), ys = M.map edg ∧ M.Perm L := by
  refine ⟨ys.map (fun y => (y.i 0, y.i 1)), ?_, ?_⟩
  · rw [List.map_map]
    refine (List.map_id ys).symm.trans (List.map_congr_left fun y hy => ?_)
    obtain ⟨p, _, rfl⟩ := List.mem_map.1 (h.mem_iff.1 hy)
    rfl
  · have := h.map (fun y : Rw => (y.i 0, y.i 1))
    rw [List.map_map] at this
    refine this.trans (List.Perm.of_eq ?_)
    exact (List.map_congr_left fun p _ => rfl).trans (List.map_id L)
theorem put_ne (out : List (Int × Int)) (x : Int × Int) : putE out x ≠ [] ∧ (putE out x).length ≤ out.length + 1 := by
  unfold putE
  split
  · rename_i y hy
    split
    · refine ⟨by simp, ?_⟩
      have := last_split hy
      have h2 := congrArg List.length this
      simp at h2 ⊢
    · exact ⟨by simp, by simp⟩
  · exact ⟨by simp, by simp⟩
theorem put_bd {out : List (Int × Int)} {x : Int × Int} {k : Int} (h : ∀ p ∈ out, -k ≤ p.2 ∧ p.2 ≤ k) (hx : -1 ≤ x.2 ∧ x.2 ≤ 1) (hk : 0 ≤ k) : ∀ p ∈ putE out x, -(k + 1) ≤ p.2 ∧ p.2 ≤ k + 1 := by
  intro p hp
  unfold putE at hp
  split at hp
  · rename_i y hy
    have hs := last_split hy
    have hym := h y (by rw [hs]; simp)
    split at hp
    · rcases List.mem_append.1 hp with hp | hp
      · have := h p (by rw [hs]; exact List.mem_append_left _ hp); omega
      · simp at hp; subst hp; simp only; omega
    · rcases List.mem_append.1 hp with hp | hp
      · have := h p hp; omega
      · simp at hp; subst hp; omega
  · simp at hp; subst hp; omega
theorem join_bd : ∀ (L : List (Int × Int)), (∀ p ∈ L, -1 ≤ p.2 ∧ p.2 ≤ 1) → ∀ i, i ≤ L.length → (joinE (L.take i)).length ≤ i ∧ ∀ p ∈ joinE (L.take i), -(i : Int) ≤ p.2 ∧ p.2 ≤ i
  | L, hL, 0, _ => ⟨by simp [joinE], fun p hp => by simp [joinE] at hp⟩
  | L, hL, i + 1, hi => by
    obtain ⟨h1, h2⟩ := join_bd L hL i (by omega)
    rw [List.take_succ_eq_append_getElem (show i < L.length by omega), join_snoc]
    refine ⟨by have := (put_ne (joinE (L.take i)) L[i]).2; omega, ?_⟩
    have := put_bd h2 (hL _ (List.getElem_mem (show i < L.length by omega))) (by omega)
    simpa using this
theorem setI_edg (a b v : Int) : setI (edg (a, b)) 1 v = edg (a, v) := by
  unfold setI edg rwA
  refine congr (congr (congrArg Rw.mk ?_) ?_) ?_ <;> funext q <;> (cases q with
    | zero => rfl
    | succ q => cases q with
      | zero => rfl
      | succ q => rfl)
end Go.Tb.W

/- Claims: edges, proved. -/
set_option linter.all false
set_option maxRecDepth 100000
set_option maxHeartbeats 4000000
namespace Go.Tb.W
open Go Go.Proofs
variable {I : Interp O}
theorem ne_map (L : List (Int × Int)) : NE (L.map edg) := fun x hx => by
  obtain ⟨p, _, rfl⟩ := List.mem_map.1 hx
  rfl
abbrev Eα : Type := Option (List Nat × Option (Rw × Nat) × List (Int × Int) × Nat × Nat)
noncomputable abbrev Ejd (es : List (Rw × Nat)) (clk : Nat) (x : Eα) : St O := match x with
  | none => j_edA es clk clk [] clk none
  | some y => j_edB es clk clk y.1 clk y.2.1 y.2.2.1.length y.2.2.2.1 (y.2.2.1.map edg) y.2.2.2.2
def Egd (es : List (Rw × Nat)) (x : Eα) : Prop := match x with
  | none => True
  | some y => es ≠ [] ∧ y.2.2.1.Perm (rawE (pickS es y.1)) ∧ y.2.2.2.1 * 2 ≤ y.2.2.2.2
abbrev Mα : Type := Nat × Nat × Nat
noncomputable abbrev Mj (es : List (Rw × Nat)) (clk : Nat) (seen : List Nat) (cur : Option (Rw × Nat)) (L : List (Int × Int)) (c room : Nat) (x : Mα) : St O := match x.1 with
  | 0 => j_meA es clk clk seen clk cur L.length c (L.map edg) room 0
  | i + 1 => j_meB es clk clk seen clk cur L.length c (L.map edg) room ((i + 1 : Nat) : Int) (joinE (L.take (i + 1))).length x.2.1 ((joinE (L.take (i + 1))).map edg) x.2.2
theorem k_edges (hG : GOk I P (Gm A5)) : ∀ (args : List AV) (hp : Tr (AO O)) (nx : Nat) (K : AV → Tr (AO O) → Nat → Prop), c_edges args hp nx K → ACall I P 16 args hp (fun v hp' => ∃ nx', K v hp' nx') := by
  intro args hp nx K h
  unfold c_edges at h; split at h
  · rename_i n
    split at h
    · rename_i es clk hb hg hnb hfr
      obtain ⟨ok, hk1, hk2⟩ := h
      refine hcallG mix hG (fn := Try.f16) (by kernel_rfl) (by kernel_rfl) (by kernel_rfl) [n] [mO es clk] [.map 0] rfl (uniq1 hb) rfl ⟨hg, trivial⟩ rfl rfl (fun hr ho => (t_edges I _ es clk).mpr ?_)
      have hln := ok.ln
      refine ALoop.start [(1, 1)] [3, 11] 3 (j_edA es clk clk [] clk none) (by kernel_rfl) (by kernel_rfl) ?_
      refine ALoop.invjL (pss := [[(1, 1)], [(1, 1), (2, 2)], [(1, 1), (3, 2)], [(1, 1), (4, 2)], [(1, 1), (5, 2)], [(1, 1), (6, 2)], [(1, 1), (7, 2)], [(1, 1), (8, 2)], [(1, 1), (9, 2)]]) (ts := [3, 11]) (nx := 3) (Ejd es clk) (Egd es) (fun x => match x with | none => (mleft es []).length + 1 | some y => (mleft es y.1).length) ?_ none trivial
      rintro (_ | ⟨seen, cur, L, c, room⟩) g
      · refine (t_edA I _ _ es clk clk [] clk none).mpr (must_mk (by rw [mgoes_ok (.inl rfl)]; rfl) ⟨fun hm => ?_, fun x b hx => ?_⟩)
        · have hes : es = [] := by
            cases es with
            | nil => rfl
            | cons a l => have := mover_nil hm ok.old a (List.mem_cons_self ..); simp at this
          refine ALoop.start [(1, 1)] [6, 30, 31, 32] 3 (j_me0 es clk clk [] clk none) (by kernel_rfl) (by kernel_rfl) ?_
          refine ALoop.stepg [(1, 1)] [6, 30, 31, 32] 3 ?_
          exact (t_me0 I _ (fun _ => True) _ es clk clk [] clk none).mpr ⟨[], nx, uniq1 hb, trivial, rfl, rfl, hk1 hes⟩
        · obtain ⟨h1, h2⟩ := mleft_mem hx
          have hbd := ok.bd _ h1
          have hbd : -1152921504606846976 ≤ x.i 2 ∧ x.i 2 ≤ x.i 3 ∧ x.i 3 ≤ 1152921504606846976 := hbd
          refine must_mk (Nat.beq_refl _) ⟨matB_mem ok.brn h1, by omega, fun c' q1 q2 => ⟨some ([b], some (x, b), [(x.i 2, 1), (x.i 3 + 1, -1)], c', c' * 2), ⟨fun e => (by rw [e] at h1; cases h1), ?_, Nat.le_refl _⟩, ?_, ?_⟩⟩
          · have := raw_step (seen := []) (L := []) (e := (x, b)) (by
              have : pickS es [] = [] := List.filter_eq_nil_iff.2 fun _ _ => by simp
              rw [this]; exact List.Perm.refl _) h2 ok.brn h1
            simpa using this
          · have := mleft_lt hx
            show (mleft es [b]).length < (mleft es []).length + 1
            have h3 : (mleft es ([] ++ [b])).length < (mleft es []).length := this
            simp only [List.nil_append] at h3
            omega
          · have e : IntKind.i64.wrap (x.i (1 + 1 + 1) + 1) = x.i 3 + 1 := w_id (by show _ ≤ x.i 3 + 1; omega) (by show x.i 3 + 1 ≤ _; omega)
            show (⟨_, _, _, _⟩ : St O) = _
            simp only [e]
            rfl
      · obtain ⟨hne, hL, hroom⟩ := g
        simp only at hL hroom
        have hlen : L.length ≤ 128 := by
          have := hL.length_eq
          rw [raw_len] at this
          have h2 : (pickS es seen).length ≤ es.length := List.length_filter_le _ _
          omega
        refine (t_edB I _ _ es clk clk seen clk cur L.length c (L.map edg) room).mpr (must_mk (by rw [mgoes_ok (.inr ⟨hne, ok.old⟩)]; rfl) ⟨fun hm => ⟨⟨by simp, by omega, ne_map L⟩, fun ys hys hris => ?_⟩, fun x b hx => ?_⟩)
        · have hall := mover_nil hm ok.old
          rw [pick_all hall] at hL
          obtain ⟨M, rfl, hM⟩ := ys_edg hys
          have hMr := hM.trans hL
          have hMl : M.length = L.length := hM.length_eq
          have hMs : M.Pairwise (fun x y => x.1 ≤ y.1) := ((List.pairwise_map (f := edg) (R := fun x y : Rw => x.i 0 ≤ y.i 0)).1 hris).imp (fun {a b} h => h)
          have hM1 : ∀ p ∈ M, -1 ≤ p.2 ∧ p.2 ≤ 1 := fun p hp => by
            obtain ⟨e, _, h | h⟩ := raw_mem (hMr.mem_iff.1 hp) <;> rw [h] <;> simp
          have hM0 : 0 < M.length := by
            have h3 := hMr.length_eq
            rw [raw_len] at h3
            have : 0 < es.length := List.length_pos_iff.2 hne
            omega
          rw [← hMl]
          refine ALoop.start [(1, 1), (2, 2)] [6, 30, 31, 32] 4 (j_meA es clk clk seen clk cur M.length c (M.map edg) room 0) (by kernel_rfl) (by kernel_rfl) ?_
          refine ALoop.invjL (pss := [[(1, 1), (2, 2)], [(1, 1), (2, 2), (3, 3)], [(1, 1), (2, 2), (4, 3)], [(1, 1), (2, 2), (5, 3)], [(1, 1), (2, 2), (6, 3)], [(1, 1), (2, 2), (7, 3)], [(1, 1), (2, 2), (8, 3)], [(1, 1), (2, 2), (9, 3)]]) (ts := [6, 30, 31, 32]) (nx := 4) (Mj es clk seen cur M c room) (fun x => x.1 ≤ M.length ∧ x.2.1 * 2 ≤ x.2.2) (fun x => M.length - x.1) ?_ (0, 0, 0) ⟨Nat.zero_le _, Nat.le_refl _⟩
          rintro ⟨i, d, r2⟩ ⟨g1, g2⟩
          simp only at g1 g2
          have hget : ∀ j : Nat, (hj : j < M.length) → (M.map edg)[((j : Nat) : Int).toNat]? = some (edg M[j]) := fun j hj => by rw [Int.toNat_natCast]; exact edg_get hj
          cases i with
          | zero =>
            refine (t_meA I _ (fun _ => True) _ es clk clk seen clk cur M.length c (M.map edg) room 0).mpr (bsplit_both (fun hx => ?_) (fun hx => absurd (of_decide_eq_false hx) (by omega)))
            refine must_mk (decide_eq_true ⟨by omega, by omega⟩) (xget_mk (hget 0 hM0) ⟨by omega, fun c' q1 q2 => ⟨(1, c', c' * 2), ⟨by show 1 ≤ M.length; omega, Nat.le_refl _⟩, by show M.length - 1 < M.length - 0; omega, ?_⟩⟩)
            have e1 : joinE (M.take (0 + 1)) = [M[0]] := by
              rw [List.take_succ_eq_append_getElem hM0, join_snoc]; rfl
            show _ = Mj es clk seen cur M c room (0 + 1, c', c' * 2)
            simp only [Mj, e1]
            rw [w_id (n := (0 : Int) + 1) (by omega) (by omega)]
            rfl
          | succ i =>
            obtain ⟨b1, b2⟩ := join_bd M hM1 (i + 1) g1
            have hne2 : joinE (M.take (i + 1)) ≠ [] := by
              rw [List.take_succ_eq_append_getElem (show i < M.length by omega), join_snoc]; exact (put_ne _ _).1
            generalize hO : joinE (M.take (i + 1)) = out at b1 b2 hne2
            have hk0 : 0 < out.length := List.length_pos_iff.2 hne2
            show acode I P (Gm A5) (adraw P (Gm A5)) 1 _ (Mj es clk seen cur M c room (i + 1, d, r2)) _
            simp only [Mj, hO]
            refine (t_meB I _ (fun _ => True) _ es clk clk seen clk cur M.length c (M.map edg) room ((i + 1 : Nat) : Int) out.length d (out.map edg) r2).mpr (bsplit_both (fun hx => ?_) (fun hx => ?_))
            · have hx : ((i + 1 : Nat) : Int) < (M.length : Int) := of_decide_eq_true hx
              have hi : i + 1 < M.length := by omega
              have hstep : joinE (M.take (i + 1 + 1)) = putE out M[i + 1] := by rw [List.take_succ_eq_append_getElem hi, join_snoc, hO]
              have hx1 := hM1 _ (List.getElem_mem hi)
              refine must_mk (decide_eq_true ⟨by omega, hx⟩) (xget_mk (hget (i + 1) hi) (bs_t (decide_eq_true (by omega)) ?_))
              rw [w_id (n := (out.length : Int) - 1) (by omega) (by omega)]
              have et : ((out.length : Int) - 1).toNat = out.length - 1 := by omega
              rw [et]
              have hb' : decide ((0 : Int) ≤ (out.length : Int) - 1 ∧ (out.length : Int) - 1 < (out.length : Int)) = true := decide_eq_true ⟨by omega, by omega⟩
              have hlast : out.getLast? = some (out[out.length - 1]'(by omega)) := by rw [List.getLast?_eq_getElem?]; exact List.getElem?_eq_getElem (by omega)
              have hgl := edg_get (L := out) (i := out.length - 1) (by omega)
              generalize hy : out[out.length - 1]'(by omega) = y at hlast hgl
              have hyb := b2 y (by rw [← hy]; exact List.getElem_mem _)
              refine must_mk hb' (xget_mk hgl (bsplit_both (fun he => ?_) (fun he => ?_)))
              · have he : y.1 = (M[i + 1]).1 := eq_of_beq he
                refine must_mk hb' (xget_mk hgl (must_mk hb' (xget_mk hgl ⟨(i + 1 + 1, d, r2), ⟨by show i + 1 + 1 ≤ M.length; omega, g2⟩, by show M.length - (i + 1 + 1) < M.length - (i + 1); omega, ?_⟩)))
                have hp : putE out M[i + 1] = out.dropLast ++ [(y.1, y.2 + (M[i + 1]).2)] := by unfold putE; rw [hlast]; simp only [he, if_true]
                have hset : (out.map edg).set (out.length - 1) (setI (edg y) 1 (IntKind.i64.wrap (y.2 + (M[i + 1]).2))) = (putE out M[i + 1]).map edg := by
                  rw [hp, w_id (n := y.2 + (M[i + 1]).2) (by omega) (by omega), setI_edg y.1 y.2]
                  have hs := last_split hlast
                  have hdl : out.dropLast.length = out.length - 1 := by simp
                  rw [List.map_append]
                  conv => lhs; rw [hs]
                  rw [List.map_append, List.set_append, if_neg (by simp)]
                  simp
                have hl2 : (putE out M[i + 1]).length = out.length := by rw [hp]; simp; omega
                show _ = Mj es clk seen cur M c room (i + 1 + 1, d, r2)
                simp only [Mj, hstep]
                rw [hl2, ← hset, w_id (n := ((i + 1 : Nat) : Int) + 1) (by omega) (by omega)]
                rfl
              · have he : y.1 ≠ (M[i + 1]).1 := ne_of_beq_false he
                refine must_mk ?_ ⟨by omega, fun c' q1 q2 => ⟨(i + 1 + 1, c', c' * 2), ⟨by show i + 1 + 1 ≤ M.length; omega, Nat.le_refl _⟩, by show M.length - (i + 1 + 1) < M.length - (i + 1); omega, ?_⟩⟩
                · simp [Nat.ble_eq]; exact g2
                · have hp : putE out M[i + 1] = out ++ [M[i + 1]] := by unfold putE; rw [hlast]; simp only [if_neg he]
                  have e1 : List.take out.length (out.map edg) = out.map edg := List.take_of_length_le (by simp)
                  show _ = Mj es clk seen cur M c room (i + 1 + 1, c', c' * 2)
                  simp only [Mj, hstep]
                  rw [hp, e1, List.length_append, List.map_append, w_id (n := ((i + 1 : Nat) : Int) + 1) (by omega) (by omega)]
                  rfl
            · have hx := of_decide_eq_false hx
              have hi : i + 1 = M.length := by omega
              rw [hi, List.take_length, edgeF_of hMr hMs] at hO
              subst hO
              exact ⟨[(3, nx)], nx + 1, uniq2n (uniq1 hb) hfr hnb (by rw [hg]; simp) rfl, ⟨hfr, trivial⟩, rfl, rfl, hk2 hne d r2⟩
        · obtain ⟨h1, h2⟩ := mleft_mem hx
          have hbd : -1152921504606846976 ≤ x.i 2 ∧ x.i 2 ≤ x.i 3 ∧ x.i 3 ≤ 1152921504606846976 := ok.bd _ h1
          refine must_mk (Nat.beq_refl _) ⟨matB_mem ok.brn h1, must_mk (by simp [Nat.ble_eq]; exact hroom) ⟨by omega, fun c' q1 q2 => ⟨some (seen ++ [b], some (x, b), L ++ [(x.i 2, 1), (x.i 3 + 1, -1)], c', c' * 2), ⟨hne, raw_step hL h2 ok.brn h1, Nat.le_refl _⟩, mleft_lt hx, ?_⟩⟩⟩
          have e : IntKind.i64.wrap (x.i (1 + 1 + 1) + 1) = x.i 3 + 1 := w_id (by show _ ≤ x.i 3 + 1; omega) (by show x.i 3 + 1 ≤ _; omega)
          have e1 : List.take L.length (L.map edg) = L.map edg := List.take_of_length_le (by simp)
          show (⟨_, _, _, _⟩ : St O) = Ejd es clk (some (seen ++ [b], some (x, b), L ++ [(x.i 2, 1), (x.i 3 + 1, -1)], c', c' * 2))
          simp only [e, e1, Ejd]
          rw [List.length_append, List.map_append]
          rfl
    · exact h.elim
  · exact h.elim
end Go.Tb.W

/- Claims: the library's sort, and edges. -/
set_option linter.all false
set_option maxRecDepth 100000
set_option maxHeartbeats 2000000
namespace Go.Tb.W
open Go Go.Proofs
variable {I : Interp O}
theorem bitLen_le : ∀ n, n ≤ 1000 → Lib.bitLen n ≤ 64 := by
  intro n hn
  have : ∀ m : Fin 1001, Lib.bitLen m.1 ≤ 64 := by decide
  exact this ⟨n, by omega⟩
theorem k_blen : ∀ (args : List AV) (K : AV → Prop), c_blen args K → ∀ hp, ACall I P 26 args hp (fun v hp' => K v ∧ hp' = hp) := by
  intro args K h hp
  unfold c_blen at h; split at h
  · rename_i n
    obtain ⟨⟨h0, h1⟩, hk⟩ := h
    refine ⟨callable (fn := Try.f26) (by kernel_rfl) (by kernel_rfl) (by kernel_rfl), fun ρ fp w args' hs hd => ?_⟩
    cases hd with
    | cons hv ht =>
    cases ht
    cases hv
    have hl := bitLen_le n.toNat (by omega)
    refine (Any.bits_Len Try.bitsLen n w h0 (by omega)).mono fun e w' he => ?_
    obtain ⟨rfl, rfl⟩ := he
    exact ⟨.int .i64 (Lib.bitLen n.toNat), hp, ρ, fp, _, ⟨hk _ (by omega) (by omega), rfl⟩, rfl, .int _ _ (by simp [inK_iff, loK, hiK]; omega), hs, Since.refl _ ρ fp⟩
  · exact h.elim
theorem gS6 : GOk I P (Gm S6) := Gm.consH (Gm.consP gS3 k_blen) (k_pdqG 1001)
theorem So.ris {xs : List Rw} (h : So xs 0 xs.length) : risE xs := by
  refine List.pairwise_iff_getElem.2 fun p q hp hq hpq => ?_
  have := h p q (Nat.zero_le _) hpq hq
  unfold kE gE at this
  rw [List.getElem?_eq_getElem hp, List.getElem?_eq_getElem hq] at this
  exact this
theorem k_sort : ∀ (args : List AV) (hp : Tr (AO O)) (nx : Nat) (K : AV → Tr (AO O) → Nat → Prop), c_sort args hp nx K → ACall I P 20 args hp (fun v hp' => ∃ nx', K v hp' nx') := by
  intro args hp nx K h
  unfold c_sort at h; split at h
  · rename_i n l c
    split at h
    · rename_i xs0 room hb hg
      obtain ⟨⟨hl, h12, hne⟩, hk⟩ := h
      refine hcallG mix gS6 (fn := Try.f20) (by kernel_rfl) (by kernel_rfl) (by kernel_rfl) [n] [eO xs0 room] [.sl 0 0 l c, fnO] rfl (uniq1 hb) rfl ⟨hg, trivial⟩ rfl rfl (fun hr ho => (t_sortG I _ l c room xs0).mpr ?_)
      refine ⟨?_, fun r r0 r1 => ⟨⟨hl, h12, hne⟩, ⟨⟨Int.le_refl _, Int.natCast_nonneg _, Int.le_refl _, by omega⟩, ⟨r0, by omega⟩, fun p q h1 h2 h3 => by
        have h1 : p < 0 := h1
        omega⟩, fun ys k s => ⟨[], nx, uniq1 hb, trivial, rfl, rfl, hk ys k.pm (So.ris (by
          have s : So ys 0 l := s
          rwa [show ys.length = l by rw [k.len]; exact hl.symm]))⟩⟩⟩
      rw [w_u64]
      omega
    · exact h.elim
  · exact hcallG mix gS6 (fn := Try.f20) (by kernel_rfl) (by kernel_rfl) (by kernel_rfl) [] [] [.nils, fnO] rfl rfl rfl trivial rfl rfl (fun hr ho => (t_sortZ I _).mpr ⟨by rw [w_u64]; omega, fun r _ _ => ⟨⟨⟨Int.le_refl _, Int.le_refl _⟩, Int.le_refl _, Int.le_refl _⟩, ⟨[], nx, rfl, trivial, rfl, rfl, h⟩⟩⟩)
  · exact h.elim
theorem gA5 : GOk I P (Gm A5) := Gm.consH Gm.nil k_sort
theorem gA6 : GOk I P (Gm A6) := Gm.consH gA4 (k_edges gA5)
end Go.Tb.W

/- Claims: what is agreed on, proved. -/
set_option linter.all false
set_option maxRecDepth 100000
set_option maxHeartbeats 2000000
namespace Go.Tb.W
open Go Go.Proofs
theorem mfind_none {k : Int} : ∀ {es : List (Rw × Nat)}, mfind (.int .i64 k) es = none → ∀ e ∈ es, e.1.i 0 ≠ k
  | [], _, e, h => by simp at h
  | a :: l, h, e, he => by
    simp only [mfind] at h
    split at h
    · cases h
    · rename_i hk
      rcases List.mem_cons.1 he with rfl | he
      · simpa [isK] using hk
      · exact mfind_none h e he
theorem mfind_some {k : Int} {e : Rw × Nat} : ∀ {es : List (Rw × Nat)}, mfind (.int .i64 k) es = some e → e ∈ es ∧ e.1.i 0 = k
  | [], h => by simp [mfind] at h
  | a :: l, h => by
    simp only [mfind] at h
    split at h
    · rename_i hk
      cases h
      exact ⟨List.mem_cons_self .., by simpa [isK] using hk⟩
    · obtain ⟨h1, h2⟩ := mfind_some h
      exact ⟨List.mem_cons_of_mem _ h1, h2⟩
theorem mput_mem {row : Rw} {k : Int} {clk : Nat} : ∀ {es : List (Rw × Nat)}, es.Pairwise (fun a b => a.1.i 0 ≠ b.1.i 0) → ∀ e ∈ mput row (.int .i64 k) clk es, (e.1 = row ∧ (e.2 = clk ∧ mfind (.int .i64 k) es = none ∨ ∃ a ∈ es, a.1.i 0 = k ∧ a.2 = e.2)) ∨ (e ∈ es ∧ e.1.i 0 ≠ k)
  | [], _, e, he => by simp [mput] at he; subst he; exact .inl ⟨rfl, .inl ⟨rfl, rfl⟩⟩
  | a :: l, hp, e, he => by
    simp only [mput] at he
    obtain ⟨hp1, hp2⟩ := List.pairwise_cons.1 hp
    split at he
    · rename_i hk
      have hk : a.1.i 0 = k := by simpa [isK] using hk
      rcases List.mem_cons.1 he with rfl | he
      · exact .inl ⟨rfl, .inr ⟨a, List.mem_cons_self .., hk, rfl⟩⟩
      · exact .inr ⟨List.mem_cons_of_mem _ he, fun e' => hp1 e he (hk.trans e'.symm)⟩
    · rename_i hk
      have hk' : a.1.i 0 ≠ k := by simpa [isK] using hk
      rcases List.mem_cons.1 he with rfl | he
      · exact .inr ⟨List.mem_cons_self .., hk'⟩
      · rcases mput_mem hp2 e he with ⟨h1, h2 | ⟨b, hb, h3⟩⟩ | ⟨h1, h2⟩
        · exact .inl ⟨h1, .inl ⟨h2.1, by simp only [mfind, hk]; exact h2.2⟩⟩
        · exact .inl ⟨h1, .inr ⟨b, List.mem_cons_of_mem _ hb, h3⟩⟩
        · exact .inr ⟨List.mem_cons_of_mem _ h1, h2⟩
theorem mput_key {row : Rw} {k : Int} {clk : Nat} (hr : row.i 0 = k) : ∀ {es : List (Rw × Nat)}, es.Pairwise (fun a b => a.1.i 0 ≠ b.1.i 0) → (mput row (.int .i64 k) clk es).Pairwise (fun a b => a.1.i 0 ≠ b.1.i 0)
  | [], _ => by simp [mput]
  | a :: l, hp => by
    obtain ⟨hp1, hp2⟩ := List.pairwise_cons.1 hp
    simp only [mput]
    split
    · rename_i hk
      have hk : a.1.i 0 = k := by simpa [isK] using hk
      exact List.pairwise_cons.2 ⟨fun b hb => by simp only; rw [hr, ← hk]; exact hp1 b hb, hp2⟩
    · rename_i hk
      have hk' : a.1.i 0 ≠ k := by simpa [isK] using hk
      refine List.pairwise_cons.2 ⟨fun b hb => ?_, mput_key hr hp2⟩
      rcases mput_mem hp2 b hb with ⟨h1, _⟩ | ⟨h1, _⟩
      · rw [h1, hr]; exact hk'
      · exact hp1 b h1
theorem mput_brn {row : Rw} {k : Int} {clk : Nat} : ∀ {es : List (Rw × Nat)}, es.Pairwise (fun a b => a.1.i 0 ≠ b.1.i 0) → es.Pairwise (fun a b => a.2 ≠ b.2) → (∀ e ∈ es, e.2 < clk) → (mput row (.int .i64 k) clk es).Pairwise (fun a b => a.2 ≠ b.2)
  | [], _, _, _ => by simp [mput]
  | a :: l, hk0, hp, ho => by
    obtain ⟨hp1, hp2⟩ := List.pairwise_cons.1 hp
    obtain ⟨hk1, hk2⟩ := List.pairwise_cons.1 hk0
    simp only [mput]
    split
    · exact List.pairwise_cons.2 ⟨fun b hb => hp1 b hb, hp2⟩
    · refine List.pairwise_cons.2 ⟨fun b hb => ?_, mput_brn hk2 hp2 (fun e he => ho e (List.mem_cons_of_mem _ he))⟩
      have ha := ho a (List.mem_cons_self ..)
      rcases mput_mem hk2 b hb with ⟨_, h2 | ⟨c, hc, _, h3⟩⟩ | ⟨h1, _⟩
      · omega
      · rw [← h3]; exact hp1 c hc
      · exact hp1 b h1
theorem mput_old {row : Rw} {k : Int} {clk : Nat} {es : List (Rw × Nat)} (hk : es.Pairwise (fun a b => a.1.i 0 ≠ b.1.i 0)) (ho : ∀ e ∈ es, e.2 < clk) : ∀ e ∈ mput row (.int .i64 k) clk es, e.2 < mclk (.int .i64 k) es clk := fun e he => by
  have hm : clk ≤ mclk (.int .i64 k) es clk := by unfold mclk; split <;> omega
  rcases mput_mem hk e he with ⟨_, h2 | ⟨c, hc, _, h3⟩⟩ | ⟨h1, _⟩
  · unfold mclk; rw [h2.2]; simp only; omega
  · have := ho c hc; omega
  · have := ho e h1; omega
theorem mput_len (row : Rw) (k : AV) (clk : Nat) : ∀ es : List (Rw × Nat), (mput row k clk es).length ≤ es.length + 1
  | [] => by simp [mput]
  | a :: l => by
    simp only [mput]
    split
    · simp
    · have := mput_len row k clk l; simp; omega
theorem okM_last : ∀ (r : List Rw), (∀ x ∈ r, mayR x = true) → r.length ≤ 64 → okM (lastF r.reverse).1 (lastF r.reverse).2 ∧ (lastF r.reverse).1.length ≤ r.length
  | [], _, _ => ⟨⟨.nil, .nil, fun e h => (by cases h), by decide, fun e h => (by cases h), fun e h => (by cases h)⟩, Nat.le_refl _⟩
  | x :: r, hm, hl => by
    obtain ⟨ih, ihl⟩ := okM_last r (fun y hy => hm y (List.mem_cons_of_mem _ hy)) (by simp at hl; omega)
    have hx := hm x (List.mem_cons_self ..)
    unfold mayR mayC at hx
    have hx := of_decide_eq_true hx
    have e : lastF (x :: r).reverse = lastS (lastF r.reverse) x := by unfold lastF; rw [List.reverse_cons, List.foldl_append]; rfl
    rw [e]
    generalize lastF r.reverse = s at ih ihl
    obtain ⟨es, clk⟩ := s
    simp only at ih ihl
    have hlen : (mput (rwA [.int .i64 (x.i 0), .int .i64 (x.i 0), .int .i64 (x.i 1), .int .i64 (x.i 2)]) (.int .i64 (x.i 0)) clk es).length ≤ es.length + 1 := mput_len ..
    simp at hl
    show okM (mput (rwA [.int .i64 (x.i 0), .int .i64 (x.i 0), .int .i64 (x.i 1), .int .i64 (x.i 2)]) (.int .i64 (x.i 0)) clk es) (mclk (.int .i64 (x.i 0)) es clk) ∧ (mput (rwA [.int .i64 (x.i 0), .int .i64 (x.i 0), .int .i64 (x.i 1), .int .i64 (x.i 2)]) (.int .i64 (x.i 0)) clk es).length ≤ (x :: r).length
    refine ⟨⟨mput_key (row := rwA [.int .i64 (x.i 0), .int .i64 (x.i 0), .int .i64 (x.i 1), .int .i64 (x.i 2)]) (k := x.i 0) rfl ih.key, mput_brn ih.key ih.brn ih.old, mput_old ih.key ih.old, by omega, fun e he => ?_, fun e he => ?_⟩, by simp; omega⟩
    · rcases mput_mem ih.key e he with ⟨h1, _⟩ | ⟨h1, _⟩
      · rw [h1]; exact ⟨hx.2.2.1, hx.2.1, hx.2.2.2⟩
      · exact ih.bd e h1
    · rcases mput_mem ih.key e he with ⟨h1, _⟩ | ⟨h1, _⟩
      · rw [h1]; rfl
      · exact ih.id e h1
theorem okM_of {xs : List Rw} (hm : ∀ x ∈ xs, mayR x = true) (hl : xs.length ≤ 64) : okM (lastF xs).1 (lastF xs).2 ∧ (lastF xs).1.length ≤ xs.length := by
  have := okM_last xs.reverse (fun x hx => hm x (List.mem_reverse.1 hx)) (by simpa using hl)
  rw [List.reverse_reverse, List.length_reverse] at this
  exact this
/-- Where the counting may stand. -/
structure AgB (s : Ag) (k : Int) : Prop where
  n : -k ≤ s.nw ∧ s.nw ≤ k
  v : 0 ≤ s.vo ∧ s.vo ≤ k
theorem agS_cases (s : Ag) (p : Int × Int) : (p.2 = 0 ∧ agS s p = { s with nw := s.nw + p.2 }) ∨ (p.2 ≠ 0 ∧ s.nw + p.2 > s.vo ∧ agS s p = { s with nw := s.nw + p.2, vo := s.nw + p.2, lo := p.1, op := true }) ∨
    (p.2 ≠ 0 ∧ ¬ s.nw + p.2 > s.vo ∧ s.op = true ∧ agS s p = { s with nw := s.nw + p.2, hi := p.1 - 1, op := false }) ∨ (p.2 ≠ 0 ∧ ¬ s.nw + p.2 > s.vo ∧ s.op = false ∧ agS s p = { s with nw := s.nw + p.2 }) := by
  unfold agS
  by_cases h1 : p.2 = 0
  · exact .inl ⟨h1, by rw [if_pos h1]⟩
  · by_cases h2 : s.nw + p.2 > s.vo
    · exact .inr (.inl ⟨h1, h2, by rw [if_neg h1, if_pos h2]⟩)
    · cases h3 : s.op with
      | true => exact .inr (.inr (.inl ⟨h1, h2, rfl, by rw [if_neg h1, if_neg h2, if_pos rfl]⟩))
      | false => exact .inr (.inr (.inr ⟨h1, h2, rfl, by rw [if_neg h1, if_neg h2, if_neg (by decide)]⟩))
theorem AgB.step {s : Ag} {k d : Int} (h : AgB s k) {p : Int × Int} (hp : -d ≤ p.2 ∧ p.2 ≤ d) (hd : 0 ≤ d) : AgB (agS s p) (k + d) := by
  have h1 := h.n; have h2 := h.v
  rcases agS_cases s p with ⟨_, e⟩ | ⟨_, h3, e⟩ | ⟨_, _, _, e⟩ | ⟨_, _, _, e⟩ <;> rw [e] <;> exact ⟨by show _ ≤ s.nw + p.2 ∧ s.nw + p.2 ≤ _; omega, by
    first
      | (show 0 ≤ s.vo ∧ s.vo ≤ _; omega)
      | (show 0 ≤ s.nw + p.2 ∧ s.nw + p.2 ≤ _; omega)⟩
theorem ag_take {L : List (Int × Int)} {i : Nat} (hi : i < L.length) : agF (L.take (i + 1)) = agS (agF (L.take i)) L[i] := by
  unfold agF; rw [List.take_succ_eq_append_getElem hi, List.foldl_append]; rfl
theorem ag_bd {L : List (Int × Int)} (hb : ∀ p ∈ L, -128 ≤ p.2 ∧ p.2 ≤ 128) : ∀ i, i ≤ L.length → AgB (agF (L.take i)) (128 * (i : Int))
  | 0, _ => ⟨by simp [agF], by simp [agF]⟩
  | i + 1, hi => by
    have := (ag_bd hb i (by omega)).step (hb _ (List.getElem_mem (show i < L.length by omega))) (by omega)
    rw [ag_take (show i < L.length by omega)]
    have e : (128 : Int) * (i : Int) + 128 = 128 * ((i + 1 : Nat) : Int) := by omega
    rw [← e]; exact this
theorem edge_bd {es : List (Rw × Nat)} (hl : es.length ≤ 64) (hb : ∀ e ∈ es, -1152921504606846976 ≤ e.1.i 2 ∧ e.1.i 2 ≤ e.1.i 3 ∧ e.1.i 3 ≤ 1152921504606846976) : (edgeF es).length ≤ 128 ∧ ∀ p ∈ edgeF es, (-128 ≤ p.2 ∧ p.2 ≤ 128) ∧ (-1152921504606846976 ≤ p.1 ∧ p.1 ≤ 1152921504606846977) := by
  have hlen : (srtP (rawE es)).length = 2 * es.length := by rw [(srtP_perm _).length_eq, raw_len]
  have h1 : ∀ p ∈ srtP (rawE es), -1 ≤ p.2 ∧ p.2 ≤ 1 := fun p hp => by
    obtain ⟨e, _, h | h⟩ := raw_mem ((srtP_perm _).mem_iff.1 hp) <;> rw [h] <;> simp
  obtain ⟨b1, b2⟩ := join_bd (srtP (rawE es)) h1 _ (Nat.le_refl _)
  rw [List.take_length] at b1 b2
  refine ⟨by show (joinE _).length ≤ 128; omega, fun p hp => ⟨by have := b2 p hp; omega, ?_⟩⟩
  obtain ⟨u, hu, he⟩ := ((Jn.join (srtP_so (rawE es))).pl p.1).1 ⟨p, hp, rfl⟩
  obtain ⟨e, hm, h | h⟩ := raw_mem ((srtP_perm _).mem_iff.1 hu)
  · have := hb e hm; rw [← he, h]; simp only; omega
  · have := hb e hm; rw [← he, h]; simp only; omega
theorem edge_ne {es : List (Rw × Nat)} (h : es ≠ []) : edgeF es ≠ [] := fun e => by
  cases es with
  | nil => exact h rfl
  | cons a l =>
    obtain ⟨u, hu, _⟩ := ((Jn.join (srtP_so (rawE (a :: l)))).pl (a.1.i 2)).2 ⟨(a.1.i 2, 1), (srtP_perm _).mem_iff.2 (List.mem_flatMap.2 ⟨a, List.mem_cons_self .., by simp⟩), rfl⟩
    have e : joinE (srtP (rawE (a :: l))) = [] := e
    rw [e] at hu; cases hu
end Go.Tb.W

/- Claims: what is agreed on, proved. -/
set_option linter.all false
set_option maxRecDepth 100000
set_option maxHeartbeats 4000000
namespace Go.Tb.W
open Go Go.Proofs
variable {I : Interp O}
theorem k_agreeC : ∀ (args : List AV) (hp : Tr (AO O)) (nx : Nat) (K : AV → Tr (AO O) → Nat → Prop), c_agreeC args hp nx K → ACall I P 10 args hp (fun v hp' => ∃ nx', K v hp' nx') := by
  intro args hp nx K h
  unfold c_agreeC at h; split at h
  · rename_i v
    rcases slC_spec h with ⟨rfl, h6, hk⟩ | ⟨n, l, c, rfl, hb, ⟨xs, room, hg, hl, h6, hk⟩ | ⟨ob, xs, hg, hl, h6, hk⟩⟩
    · refine hcallG mix gA6 (fn := Try.f10) (by kernel_rfl) (by kernel_rfl) (by kernel_rfl) [] [] [.nils] rfl rfl rfl trivial rfl rfl (fun hr ho => (t_agreeN I _).mpr ⟨(okM_of (xs := []) (fun x h => (by cases h)) (by decide)).1, fun _ => ?_, fun h => absurd rfl h⟩)
      refine ALoop.start [(0, 0)] [2, 3, 4, 6, 7, 8, 21, 22, 23] 1 (j_agN [] 0) (by kernel_rfl) (by kernel_rfl) ?_
      refine ALoop.stepg [(0, 0)] [2, 3, 4, 6, 7, 8, 21, 22, 23] 1 ?_
      exact (t_agN I _ _ [] 0).mpr ⟨by decide, ⟨[], nx, rfl, trivial, rfl, rfl, hk⟩⟩
    · refine hcallG mix gA6 (fn := Try.f10) (by kernel_rfl) (by kernel_rfl) (by kernel_rfl) [n] [cO xs room] [.sl 0 0 l c] rfl (uniq1 hb) rfl ⟨hg, trivial⟩ rfl rfl (fun hr ho => (t_agreeR I _ l c room xs).mpr ⟨hl, ?_⟩)
      have hlc := rg_lc hr
      have hlen : (xs.take l).length = l := by simp; omega
      generalize hys : xs.take l = ys at hk h6 hlen
      have out : ∀ lo hi vo e, agLo ys = lo → agHi ys = hi → agVo ys = vo → agE ys = e → K (.tup [.int .i64 lo, .int .i64 hi, .int .i64 vo, .int .i64 e]) (hp.set n (some (cO xs room))) nx := fun lo hi vo e h1 h2 h3 h4 => by
        subst h1; subst h2; subst h3; subst h4
        exact hk
      have outE : ∀ e, e ≠ 0 → agE ys = e → K (.tup [.int .i64 0, .int .i64 0, .int .i64 0, .int .i64 e]) (hp.set n (some (cO xs room))) nx := fun e h0 he => out 0 0 0 e (by unfold agLo; rw [if_neg (by rw [he]; exact h0)]) (by unfold agHi; rw [if_neg (by rw [he]; exact h0)]) (by unfold agVo; rw [if_neg (by rw [he]; exact h0)]) he
      refine bsplit_both (fun a1 => ⟨[], nx, uniq1 hb, trivial, rfl, rfl, outE 1 (by decide) ?_⟩) (fun a1 => bsplit_both (fun a2 => ⟨[], nx, uniq1 hb, trivial, rfl, rfl, outE 4 (by decide) (by
        have a1 := of_decide_eq_false a1
        have a2 := of_decide_eq_true a2
        unfold agE; rw [if_neg a1, if_pos (by omega)])⟩) (fun a2 => ⟨hl, ?_⟩))
      · unfold agE; rw [if_pos (of_decide_eq_true a1)]
      · have a1 := of_decide_eq_false a1
        have a2 := of_decide_eq_false a2
        have h64 : ys.length ≤ 64 := by omega
        obtain ⟨ok, hel⟩ := okM_of (bad_neg a1) h64
        have hE : agE ys = if 2 * (agM ys).vo ≤ ((lastF ys).1.length : Int) then 10 else 0 := by unfold agE; rw [if_neg a1, if_neg (by omega)]
        have hM : agM ys = agF (edgeF (lastF ys).1) := rfl
        generalize lastF ys = q at ok hel hE hM
        obtain ⟨es, clk⟩ := q
        simp only at ok hel hE hM ⊢
        refine ⟨ok, fun hes => ?_, fun hes d r2 => ?_⟩
        · refine ALoop.start [(1, 1)] [2, 3, 4, 6, 7, 8, 21, 22, 23] 2 (j_agQ (cO xs room) es clk) (by kernel_rfl) (by kernel_rfl) ?_
          refine ALoop.stepg [(1, 1)] [2, 3, 4, 6, 7, 8, 21, 22, 23] 2 ?_
          refine (t_agQ I _ _ xs room es clk).mpr ⟨by omega, ⟨[], nx, uniq1 hb, trivial, rfl, rfl, outE 10 (by decide) ?_⟩⟩
          rw [hE, hM, hes]; rfl
        · obtain ⟨b1, b2⟩ := edge_bd ok.ln ok.bd
          generalize edgeF es = L at b1 b2 hM
          have ab := ag_bd (L := L) (fun p hp => (b2 p hp).1)
          refine ALoop.invg (ps := [(1, 1), (2, 2)]) (ts := [2, 3, 4, 6, 7, 8, 21, 22, 23]) (nx := 3) (fun i : Nat => j_agR (cO xs room) es clk (agF (L.take i)).lo (agF (L.take i)).hi (agF (L.take i)).vo (agF (L.take i)).nw (agF (L.take i)).op L.length d (L.map edg) r2 (i : Nat)) (fun i => i ≤ L.length) (fun i => L.length - i) ?_ (by kernel_rfl) 0 (by kernel_rfl) (Nat.zero_le _)
          intro i hi
          have hb2 := ab i hi
          have hst : ∀ hi2 : i < L.length, agF (L.take (i + 1)) = agS (agF (L.take i)) L[i] := fun hi2 => ag_take hi2
          have hfin : i = L.length → agF (L.take i) = agM ys := fun e => by rw [e, List.take_length, hM]
          generalize agF (L.take i) = s at hb2 hst hfin
          have n1 := hb2.n; have n2 := hb2.v
          refine (t_agR I _ _ l c room xs es clk s.lo s.hi s.vo s.nw s.op L.length d (L.map edg) r2 (i : Nat)).mpr (bsplit_both (fun hx => ?_) (fun hx => ?_))
          · have hx := of_decide_eq_true hx
            have hi2 : i < L.length := by omega
            have hst := hst hi2
            have hpb := b2 _ (List.getElem_mem hi2)
            have hget : (L.map edg)[((i : Nat) : Int).toNat]? = some (edg L[i]) := by rw [Int.toNat_natCast]; exact edg_get hi2
            refine must_mk (decide_eq_true ⟨by omega, hx⟩) (xget_mk hget ?_)
            generalize L[i] = p at hst hpb
            have w1 : IntKind.i64.wrap (s.nw + (edg p).i (0 + 1)) = s.nw + p.2 := w_id (by show _ ≤ s.nw + p.2; omega) (by show s.nw + p.2 ≤ _; omega)
            have w2 : IntKind.i64.wrap ((edg p).i 0 - 1) = p.1 - 1 := w_id (by show _ ≤ p.1 - 1; omega) (by show p.1 - 1 ≤ _; omega)
            have w3 : IntKind.i64.wrap ((i : Int) + 1) = ((i + 1 : Nat) : Int) := by rw [w_id (by omega) (by omega)]; omega
            rw [w1, w2, w3]
            have fin : ∀ s0 : St O, s0 = j_agR (cO xs room) es clk (agF (L.take (i + 1))).lo (agF (L.take (i + 1))).hi (agF (L.take (i + 1))).vo (agF (L.take (i + 1))).nw (agF (L.take (i + 1))).op L.length d (L.map edg) r2 ((i + 1 : Nat) : Int) → ∃ y : Nat, y ≤ L.length ∧ L.length - y < L.length - i ∧ s0 = j_agR (cO xs room) es clk (agF (L.take y)).lo (agF (L.take y)).hi (agF (L.take y)).vo (agF (L.take y)).nw (agF (L.take y)).op L.length d (L.map edg) r2 (y : Nat) := fun s0 h0 => ⟨i + 1, by omega, by omega, h0⟩
            rw [hst] at fin
            have e2 : (edg p).i (0 + 1) = p.2 := rfl
            rcases agS_cases s p with ⟨h1, e⟩ | ⟨h1, h2, e⟩ | ⟨h1, h2, h3, e⟩ | ⟨h1, h2, h3, e⟩ <;> rw [e] at fin
            · exact bs_t (by rw [e2, h1]; rfl) (fin _ rfl)
            · exact bs_f (by rw [e2]; simp [h1]) (bs_t (decide_eq_true h2) (fin _ rfl))
            · exact bs_f (by rw [e2]; simp [h1]) (bs_f (decide_eq_false h2) (bs_t h3 (fin _ rfl)))
            · exact bs_f (by rw [e2]; simp [h1]) (bs_f (decide_eq_false h2) (bs_f h3 (fin _ (by rw [h3]; rfl))))
          · have hx := of_decide_eq_false hx
            have hs := hfin (by omega)
            rw [hs] at n1 n2 ⊢
            rw [w_id (n := 2 * (agM ys).vo) (by omega) (by omega)]
            refine ⟨by omega, bsplit_both (fun hz => ⟨[], nx, uniq1 hb, trivial, rfl, rfl, outE 10 (by decide) ?_⟩) (fun hz => ?_)⟩
            · rw [hE, if_pos (of_decide_eq_true hz)]
            · have h0 : agE ys = 0 := by rw [hE, if_neg (of_decide_eq_false hz)]
              exact ⟨[], nx, uniq1 hb, trivial, rfl, rfl, out _ _ _ 0 (by unfold agLo; rw [if_pos h0]) (by unfold agHi; rw [if_pos h0]) (by unfold agVo; rw [if_pos h0]) h0⟩
    · refine hcallG mix gA6 (fn := Try.f10) (by kernel_rfl) (by kernel_rfl) (by kernel_rfl) [n] [oO ob xs] [.sl 0 0 l c] rfl (uniq1 hb) rfl ⟨hg, trivial⟩ rfl rfl (fun hr ho => (t_agreeO I _ l c ob xs).mpr ⟨hl, ?_⟩)
      have hlc := rg_lc hr
      have hlen : (xs.take l).length = l := by simp; omega
      generalize hys : xs.take l = ys at hk h6 hlen
      have out : ∀ lo hi vo e, agLo ys = lo → agHi ys = hi → agVo ys = vo → agE ys = e → K (.tup [.int .i64 lo, .int .i64 hi, .int .i64 vo, .int .i64 e]) (hp.set n (some (oO ob xs))) nx := fun lo hi vo e h1 h2 h3 h4 => by
        subst h1; subst h2; subst h3; subst h4
        exact hk
      have outE : ∀ e, e ≠ 0 → agE ys = e → K (.tup [.int .i64 0, .int .i64 0, .int .i64 0, .int .i64 e]) (hp.set n (some (oO ob xs))) nx := fun e h0 he => out 0 0 0 e (by unfold agLo; rw [if_neg (by rw [he]; exact h0)]) (by unfold agHi; rw [if_neg (by rw [he]; exact h0)]) (by unfold agVo; rw [if_neg (by rw [he]; exact h0)]) he
      refine bsplit_both (fun a1 => ⟨[], nx, uniq1 hb, trivial, rfl, rfl, outE 1 (by decide) ?_⟩) (fun a1 => bsplit_both (fun a2 => ⟨[], nx, uniq1 hb, trivial, rfl, rfl, outE 4 (by decide) (by
        have a1 := of_decide_eq_false a1
        have a2 := of_decide_eq_true a2
        unfold agE; rw [if_neg a1, if_pos (by omega)])⟩) (fun a2 => ⟨hl, ?_⟩))
      · unfold agE; rw [if_pos (of_decide_eq_true a1)]
      · have a1 := of_decide_eq_false a1
        have a2 := of_decide_eq_false a2
        have h64 : ys.length ≤ 64 := by omega
        obtain ⟨ok, hel⟩ := okM_of (bad_neg a1) h64
        have hE : agE ys = if 2 * (agM ys).vo ≤ ((lastF ys).1.length : Int) then 10 else 0 := by unfold agE; rw [if_neg a1, if_neg (by omega)]
        have hM : agM ys = agF (edgeF (lastF ys).1) := rfl
        generalize lastF ys = q at ok hel hE hM
        obtain ⟨es, clk⟩ := q
        simp only at ok hel hE hM ⊢
        refine ⟨ok, fun hes => ?_, fun hes d r2 => ?_⟩
        · refine ALoop.start [(1, 1)] [2, 3, 4, 6, 7, 8, 21, 22, 23] 2 (j_agQ (oO ob xs) es clk) (by kernel_rfl) (by kernel_rfl) ?_
          refine ALoop.stepg [(1, 1)] [2, 3, 4, 6, 7, 8, 21, 22, 23] 2 ?_
          refine (t_agP I _ _ ob xs es clk).mpr ⟨by omega, ⟨[], nx, uniq1 hb, trivial, rfl, rfl, outE 10 (by decide) ?_⟩⟩
          rw [hE, hM, hes]; rfl
        · obtain ⟨b1, b2⟩ := edge_bd ok.ln ok.bd
          generalize edgeF es = L at b1 b2 hM
          have ab := ag_bd (L := L) (fun p hp => (b2 p hp).1)
          refine ALoop.invg (ps := [(1, 1), (2, 2)]) (ts := [2, 3, 4, 6, 7, 8, 21, 22, 23]) (nx := 3) (fun i : Nat => j_agR (oO ob xs) es clk (agF (L.take i)).lo (agF (L.take i)).hi (agF (L.take i)).vo (agF (L.take i)).nw (agF (L.take i)).op L.length d (L.map edg) r2 (i : Nat)) (fun i => i ≤ L.length) (fun i => L.length - i) ?_ (by kernel_rfl) 0 (by kernel_rfl) (Nat.zero_le _)
          intro i hi
          have hb2 := ab i hi
          have hst : ∀ hi2 : i < L.length, agF (L.take (i + 1)) = agS (agF (L.take i)) L[i] := fun hi2 => ag_take hi2
          have hfin : i = L.length → agF (L.take i) = agM ys := fun e => by rw [e, List.take_length, hM]
          generalize agF (L.take i) = s at hb2 hst hfin
          have n1 := hb2.n; have n2 := hb2.v
          refine (t_agO I _ _ ob xs es clk s.lo s.hi s.vo s.nw s.op L.length d (L.map edg) r2 (i : Nat)).mpr (bsplit_both (fun hx => ?_) (fun hx => ?_))
          · have hx := of_decide_eq_true hx
            have hi2 : i < L.length := by omega
            have hst := hst hi2
            have hpb := b2 _ (List.getElem_mem hi2)
            have hget : (L.map edg)[((i : Nat) : Int).toNat]? = some (edg L[i]) := by rw [Int.toNat_natCast]; exact edg_get hi2
            refine must_mk (decide_eq_true ⟨by omega, hx⟩) (xget_mk hget ?_)
            generalize L[i] = p at hst hpb
            have w1 : IntKind.i64.wrap (s.nw + (edg p).i (0 + 1)) = s.nw + p.2 := w_id (by show _ ≤ s.nw + p.2; omega) (by show s.nw + p.2 ≤ _; omega)
            have w2 : IntKind.i64.wrap ((edg p).i 0 - 1) = p.1 - 1 := w_id (by show _ ≤ p.1 - 1; omega) (by show p.1 - 1 ≤ _; omega)
            have w3 : IntKind.i64.wrap ((i : Int) + 1) = ((i + 1 : Nat) : Int) := by rw [w_id (by omega) (by omega)]; omega
            rw [w1, w2, w3]
            have fin : ∀ s0 : St O, s0 = j_agR (oO ob xs) es clk (agF (L.take (i + 1))).lo (agF (L.take (i + 1))).hi (agF (L.take (i + 1))).vo (agF (L.take (i + 1))).nw (agF (L.take (i + 1))).op L.length d (L.map edg) r2 ((i + 1 : Nat) : Int) → ∃ y : Nat, y ≤ L.length ∧ L.length - y < L.length - i ∧ s0 = j_agR (oO ob xs) es clk (agF (L.take y)).lo (agF (L.take y)).hi (agF (L.take y)).vo (agF (L.take y)).nw (agF (L.take y)).op L.length d (L.map edg) r2 (y : Nat) := fun s0 h0 => ⟨i + 1, by omega, by omega, h0⟩
            rw [hst] at fin
            have e2 : (edg p).i (0 + 1) = p.2 := rfl
            rcases agS_cases s p with ⟨h1, e⟩ | ⟨h1, h2, e⟩ | ⟨h1, h2, h3, e⟩ | ⟨h1, h2, h3, e⟩ <;> rw [e] at fin
            · exact bs_t (by rw [e2, h1]; rfl) (fin _ rfl)
            · exact bs_f (by rw [e2]; simp [h1]) (bs_t (decide_eq_true h2) (fin _ rfl))
            · exact bs_f (by rw [e2]; simp [h1]) (bs_f (decide_eq_false h2) (bs_t h3 (fin _ rfl)))
            · exact bs_f (by rw [e2]; simp [h1]) (bs_f (decide_eq_false h2) (bs_f h3 (fin _ (by rw [h3]; rfl))))
          · have hx := of_decide_eq_false hx
            have hs := hfin (by omega)
            rw [hs] at n1 n2 ⊢
            rw [w_id (n := 2 * (agM ys).vo) (by omega) (by omega)]
            refine ⟨by omega, bsplit_both (fun hz => ⟨[], nx, uniq1 hb, trivial, rfl, rfl, outE 10 (by decide) ?_⟩) (fun hz => ?_)⟩
            · rw [hE, if_pos (of_decide_eq_true hz)]
            · have h0 : agE ys = 0 := by rw [hE, if_neg (of_decide_eq_false hz)]
              exact ⟨[], nx, uniq1 hb, trivial, rfl, rfl, out _ _ _ 0 (by unfold agLo; rw [if_pos h0]) (by unfold agHi; rw [if_pos h0]) (by unfold agVo; rw [if_pos h0]) h0⟩
  · exact h.elim
end Go.Tb.W

/- Claims: a map's keys in order, told by the library's contracts; whose claims have what is agreed on. -/
set_option linter.all false
set_option maxRecDepth 100000
set_option maxHeartbeats 1000000
namespace Go.Proofs
open Go.RowKit Go.Maps Go.Sort Go.Shelf
theorem Try.sortsA (m : Nat) : AnyZI.SortsIn Try.prog Try.sortedA_ren Fence.wide m :=
  ⟨fun blk off cap ss W hH hblk hsz => callsIn_wide.2 (AnyM.slices_Sort_int Try.sortA blk off cap ss W hH hblk hsz),
   fun p cap W => callsIn_wide.2 (AnyM.slices_Sort_int_none Try.sortA p cap W)⟩
theorem Try.keysIs (mb : Option Nat) (W : World) : Calls Try.prog 18 #[.map mb] W fun e w' => e = .returned (.func (.func 24) #[] #[.pointer (some ⟨W.heap.size, 0, none⟩)]) ∧ w' = W.alloc (.cells #[.map mb] 43) :=
  (callsIn_wide (n := 5)).1 (AnyZI.keys_in Try.keysA Fence.wide 5 trivial rfl mb W)
theorem Try.sortedIs {H : Type} (bx b nn : Nat) (D0 : DataW H) (R : Value → Option (DataW H × List MemPlace)) (w : World) (hc : w.cell? ⟨bx, 0, none⟩ = some (.map (some b))) (hbx : bx < w.heap.size) (hown : w.ownsMap Try.prog 3 R b nn D0) (hmax : Maps.size D0 ≤ maxLen) (hbytes : Maps.size D0 * 8 ≤ 140737488355328) :
    Calls Try.prog 17 #[.func (.func 24) #[] #[.pointer (some ⟨bx, 0, none⟩)]] w fun e w' => ∃ (v : Value) (ss : List Int), e = .returned v ∧ ss.Perm (intKeys D0) ∧
      w'.ownsRow w.heap.size 3 1 v ss.length ((ss.mergeSort (fun x y => decide (x ≤ y))).map encZ) ∧ (v = .slice none 0 0 ↔ ss = []) ∧ Below w.heap.size w w' := by
  refine (callsIn_wide (n := 6)).1 ?_
  have hseq : SeqGives Fence.wide 3 Try.prog 24 #[.pointer (some ⟨bx, 0, none⟩)] encZ (fun ss => ss.Perm (intKeys D0)) (Maps.size D0) w :=
    AnyZI.keys_gives (ρ := Try.keysA_ren) { Try.keysA with } Fence.wide _ trivial rfl (by omega) bx b nn D0 _ hbx hc hown
  exact AnyZI.sorted_in Try.sortedA Fence.wide 6 trivial trivial trivial trivial rfl (by omega) (Try.sortsA _) (enters_of Try.func23 (by kernel_rfl) rfl) 24 #[.pointer (some ⟨bx, 0, none⟩)] trivial (enters_of Try.func24 (by kernel_rfl) rfl) _ _ hmax hbytes _ hseq
end Go.Proofs
namespace Go.Tb
open Go Go.Maps
/-- A map with whole numbers as keys is one that the library's contracts know. -/
theorem keys_map {P : Program} {ms : MSh} {kt : TypeId} (hms : ms.kt = .i .i64) (hkt : P.underlying kt = some (.int .i64)) {w : World} {b clk : Nat} {es : List (Rw × Nat)} {es' : Array MapEntry} (hb : w.heap[b]? = some (.map es' clk)) (hr : MapRel ms es es'.toList)
    (hk : es.Pairwise (fun x y => x.1.i 0 ≠ y.1.i 0)) (hn : es.Pairwise (fun x y => x.2 ≠ y.2)) (ho : ∀ e ∈ es, e.2 < clk) (hl : es.length ≤ 9223372036854775807) :
    ∃ D0 : DataW Unit, w.ownsMap P kt (fun _ => some (.nil, [])) b es.length D0 ∧ Maps.size D0 = es.length ∧ (intKeys D0).Perm (es.map fun e => e.1.i 0) := by
  obtain ⟨he, hw⟩ := hr
  have hkey : ∀ x : Rw, vkey ms x = .int .i64 (x.i 0) := fun x => by unfold vkey; rw [hms]; rfl
  have hrd : ∀ e ∈ es, Go.WideElems.rd (H := Unit) P kt (fun _ => some (.nil, [])) (mkE ms e) = some (.int .i64 (e.1.i 0), .nil) := fun e h => by
    have h1 := hw e h
    simp only [okE, Bool.and_eq_true, hms] at h1
    have h2 : keyOf P kt (.int .i64 (e.1.i 0)) = some (.int .i64 (e.1.i 0)) := Go.Maps.keyOf_int_mk hkt (by
      have := h1.1
      simp only [okS] at this
      simp only [inK_iff, loK, hiK] at this
      simp only [Lit.wf, decide_eq_true_eq, Bool.and_eq_true]
      exact this)
    unfold mkE
    rw [hkey]
    exact Go.WideElems.rd_mk (val := vval ms e.1) (yv := (.nil, [])) h2 rfl
  have hsz : es'.size = es.length := by
    have := congrArg List.length he
    simpa using this
  refine ⟨.map ((es'.toList.map (Go.WideElems.rg P kt fun _ => some (.nil, []))).foldr DataW.insert []), ⟨es', clk, hb, ⟨by rw [hsz]; exact hl, ⟨?_, ?_, ?_⟩, ?_⟩, by rw [hsz]; exact Nat.le_refl _, rfl⟩, ?_, ?_⟩
  · intro x hx
    rw [he] at hx
    obtain ⟨e, h1, rfl⟩ := List.mem_map.1 hx
    exact ho e h1
  · rw [he, List.map_map]
    exact List.pairwise_map.2 hn
  · rw [he, List.map_map]
    refine List.pairwise_map.2 (hk.imp fun {a b} h => ?_)
    show vkey ms a.1 ≠ vkey ms b.1
    rw [hkey, hkey]
    intro e
    simp at e
    exact h e
  · intro x hx
    rw [he] at hx
    obtain ⟨e, h1, rfl⟩ := List.mem_map.1 hx
    exact ⟨_, hrd e h1⟩
  · show List.length _ = _
    rw [(Go.WideShapes.sorted_perm _).length_eq, List.length_map]; simp [hsz]
  · show (List.map _ _).Perm _
    refine ((Go.WideShapes.sorted_perm _).map _).trans ?_
    rw [he, List.map_map, List.map_map]
    refine List.Perm.of_eq (List.map_congr_left fun e h => ?_)
    show intOf (Go.WideElems.rg P kt (fun _ => some (.nil, [])) (mkE ms e)).1 = _
    rw [Go.WideElems.rg_of (hrd e h)]; rfl
end Go.Tb
namespace Go.Tb.W
open Go Go.Proofs Go.Maps
variable {I : Interp O}
theorem insJ_perm (x : Int) : ∀ l, (insJ x l).Perm (x :: l)
  | [] => List.Perm.refl _
  | y :: l => by
    unfold insJ; split
    · exact List.Perm.refl _
    · exact ((insJ_perm x l).cons y).trans (List.Perm.swap x y l)
theorem srtJ_perm : ∀ l, (srtJ l).Perm l
  | [] => List.Perm.refl _
  | x :: l => (insJ_perm x _).trans ((srtJ_perm l).cons x)
theorem insJ_so (x : Int) : ∀ {l : List Int}, l.Pairwise (· ≤ ·) → (insJ x l).Pairwise (· ≤ ·)
  | [], _ => by simp [insJ]
  | y :: l, h => by
    obtain ⟨h1, h2⟩ := List.pairwise_cons.1 h
    unfold insJ; split
    · rename_i hxy
      exact List.pairwise_cons.2 ⟨fun z hz => by
        rcases List.mem_cons.1 hz with rfl | hz
        · exact hxy
        · exact Int.le_trans hxy (h1 z hz), h⟩
    · rename_i hxy
      refine List.pairwise_cons.2 ⟨fun z hz => ?_, insJ_so x h2⟩
      rcases List.mem_cons.1 ((insJ_perm x l).mem_iff.1 hz) with rfl | hz
      · omega
      · exact h1 z hz
theorem srtJ_so : ∀ l, (srtJ l).Pairwise (· ≤ ·)
  | [] => .nil
  | x :: l => insJ_so x (srtJ_so l)
theorem so_uniq {a b : List Int} (ha : a.Pairwise (· ≤ ·)) (hb : b.Pairwise (· ≤ ·)) (h : a.Perm b) : a = b :=
  List.Perm.eq_of_pairwise (fun x y _ _ h1 h2 => Int.le_antisymm h1 h2) ha hb h
theorem merge_srtJ {ss l : List Int} (h : ss.Perm l) : ss.mergeSort (fun x y => decide (x ≤ y)) = srtJ l := by
  refine so_uniq ?_ (srtJ_so l) ((List.mergeSort_perm ..).trans (h.trans (srtJ_perm l).symm))
  exact (List.pairwise_mergeSort (le := fun x y : Int => decide (x ≤ y)) (fun a b c => by simp; omega) (fun a b => by simp; omega) ss).imp (fun h => by simpa using h)
def pK (es : List (Rw × Nat)) (lo hi k : Int) : Bool := decide ((mrow (.int .i64 k) es).i 2 ≤ lo) && decide ((mrow (.int .i64 k) es).i 3 ≥ hi)
theorem mrow_mem {es : List (Rw × Nat)} (hk : es.Pairwise (fun x y => x.1.i 0 ≠ y.1.i 0)) {e : Rw × Nat} (he : e ∈ es) : mrow (.int .i64 (e.1.i 0)) es = e.1 := by
  unfold mrow
  cases h : mfind (.int .i64 (e.1.i 0)) es with
  | none => exact absurd rfl (mfind_none h e he)
  | some a =>
    obtain ⟨h1, h2⟩ := mfind_some h
    have : a = e := by
      induction es with
      | nil => cases he
      | cons b l ih =>
        obtain ⟨p1, p2⟩ := List.pairwise_cons.1 hk
        rcases List.mem_cons.1 h1 with rfl | h1 <;> rcases List.mem_cons.1 he with rfl | he
        · rfl
        · exact absurd h2 (p1 e he)
        · exact absurd h2.symm (p1 a (by assumption))
        · refine ih p2 he ?_ h1
          simp only [mfind] at h
          split at h
          · rename_i hb
            have hb : b.1.i 0 = e.1.i 0 := by simpa [isK] using hb
            exact absurd hb (p1 e he)
          · exact h
    rw [this]
theorem true_filter {es : List (Rw × Nat)} (hk : es.Pairwise (fun x y => x.1.i 0 ≠ y.1.i 0)) (lo hi : Int) :
    (srtJ (keyL es)).filter (pK es lo hi) = srtJ ((es.filter (fun e => decide (e.1.i 2 ≤ lo) && decide (e.1.i 3 ≥ hi))).map (fun e => e.1.i 0)) := by
  refine so_uniq ((srtJ_so _).filter _) (srtJ_so _) ((((srtJ_perm _).filter _).trans ?_).trans (srtJ_perm _).symm)
  unfold keyL
  rw [List.filter_map]
  refine List.Perm.of_eq (congrArg _ (List.filter_congr fun e he => ?_))
  show pK es lo hi (e.1.i 0) = _
  unfold pK
  rw [mrow_mem hk he]
theorem k_keys : ∀ (args : List AV) (hp : Tr (AO O)) (nx : Nat) (K : AV → Tr (AO O) → Nat → Prop), c_keys args hp nx K → ACall I P 18 args hp (fun v hp' => ∃ nx', K v hp' nx') := by
  intro args hp nx K h
  unfold c_keys at h; split at h
  · rename_i n
    split at h
    · rename_i hnb hfr
      refine ⟨callable (fn := Try.f18) (by kernel_rfl) (by kernel_rfl) (by kernel_rfl), fun ρ fp W args' hs hd => ?_⟩
      cases hd with
      | cons hv ht =>
      cases ht
      cases hv with
      | map hρ =>
      rename_i bm z
      refine (Go.Proofs.Try.keysIs (some bm) W).mono ?_
      rintro e W' ⟨rfl, rfl⟩
      have hold : ∀ x, x < W.heap.size → (W.alloc (.cells #[.map (some bm)] 43)).heap[x]? = W.heap[x]? := fun x hx => Go.Tb.heap_alloc_old W _ hx
      have hnm : n ≠ nx := fun e => by subst e; rw [(hs.dom _ hfr).1] at hρ; cases hρ
      obtain ⟨hsn, hext⟩ := hs.new (w' := W.alloc (.cells #[.map (some bm)] 43)) (n := nx) (b := W.heap.size) (z := 0) (bs := [W.heap.size]) hnb (o := kO n) hfr hold (by simp) ⟨W.heap.size, .map (some bm), by simp, rfl, Go.Tb.heap_alloc_new W _, .map (z := z) (by simp [hnm]; exact hρ)⟩
      refine ⟨_, _, _, _, _, ⟨_, h⟩, rfl, ?_, hsn, ⟨rfl, rfl, rfl, by simp, fun x hx _ => hold x hx, fun m x hx => ?_, hext⟩⟩
      · have hpt : Den (fun m => if m = nx then some (W.heap.size, 0) else ρ m) (.ptr nx 0) (.pointer (some ⟨W.heap.size, 0 + 0, none⟩)) := .ptr (n := nx) (b := W.heap.size) (z := 0) 0 (by simp)
        have := Den.fn (.func 24) (a := []) (b := [.ptr nx 0]) .nil (.cons hpt .nil)
        simpa using this
      · by_cases e : m = nx
        · simp [e] at hx; exact .inr (by omega)
        · simp [e] at hx; exact .inl ⟨m, hx⟩
    · exact h.elim
  · exact h.elim
theorem k_sorted : ∀ (args : List AV) (hp : Tr (AO O)) (nx : Nat) (K : AV → Tr (AO O) → Nat → Prop), c_sorted args hp nx K → ACall I P 17 args hp (fun v hp' => ∃ nx', K v hp' nx') := by
  intro args hp nx K h
  unfold c_sorted at h; split at h
  · rename_i m
    split at h
    · rename_i n hgm
      split at h
      · rename_i es clk hgn hnb hfr
        obtain ⟨ok, hk1, hk2⟩ := h
        refine ⟨callable (fn := Try.f17) (by kernel_rfl) (by kernel_rfl) (by kernel_rfl), fun ρ fp W args' hs hd => ?_⟩
        cases hd with
        | cons hv ht =>
        cases ht
        cases hv with
        | fn _ ha hb =>
        cases ha
        cases hb with
        | cons hq ht =>
        cases ht
        cases hq with
        | ptr o hρ =>
        rename_i bx z
        obtain ⟨b1, x, k1, k2, k3, k4⟩ := hs.ok m _ hgm
        rw [k1] at hρ
        cases hρ
        cases k4 with
        | map hρm =>
        rename_i bq zq
        obtain ⟨bm, es', m1, m2, m3, m4⟩ := hs.ok n _ hgn
        rw [m1] at hρm
        cases hρm
        have hln := ok.ln
        obtain ⟨D0, hown, hsz, hperm⟩ := keys_map (P := P) (kt := 3) rfl (by kernel_rfl) m3 m4 ok.key ok.brn ok.old (by omega)
        have hc : W.cell? ⟨bx, 0, none⟩ = some (.map (some bq)) := by
          unfold World.cell?
          simp only [k3]
          rfl
        refine (Go.Proofs.Try.sortedIs bx bq es.length D0 _ W hc (Array.getElem?_eq_some_iff.1 k3).1 hown (by rw [hsz]; show _ ≤ 9223372036854775807; omega) (by rw [hsz]; omega)).mono ?_
        rintro e W' ⟨v, ss, rfl, hp', hrow, hnil, hb⟩
        have hss := hp'.trans hperm
        have hlen : ss.length = es.length := by have := hss.length_eq; simpa using this
        have hold : ∀ x, x < W.heap.size → W'.heap[x]? = W.heap[x]? := fun x hx => hb.block x hx
        have hrg : ∀ x ∈ ss, inK .i64 x = true := fun x hx => by
          obtain ⟨e, he, rfl⟩ := List.mem_map.1 (hss.mem_iff.1 hx)
          have := m4.2 e he
          simp only [okE, Bool.and_eq_true] at this
          exact this.1
        have hsrt : ss.mergeSort (fun x y => decide (x ≤ y)) = srtJ (keyL es) := merge_srtJ hss
        rcases hrow.2 with ⟨rfl, hz⟩ | ⟨g, cap, cur, rfl, hg1, hg2, hg3, hg4, hg5, hg6⟩
        · have : es = [] := List.eq_nil_of_length_eq_zero (by omega)
          refine ⟨.nils, hp, ρ, fp, _, ⟨nx, hk1 this⟩, rfl, .nils, ⟨fun n o hn => (hs.ok n o hn).mono (Ext.refl _) (fun b ob hob h => (hold b (Array.getElem?_eq_some_iff.1 h).1).trans h) (fun x hx => hold x (hs.lt hx)), hs.dom, hs.dis, fun b ob hob => ⟨(hold b (Array.getElem?_eq_some_iff.1 (hs.fz b ob hob).1).1).trans (hs.fz b ob hob).1, (hs.fz b ob hob).2⟩⟩, ⟨hb.os, hb.tape, hb.output, hb.size, fun x hx _ => hold x hx, fun n x hx => .inl ⟨n, hx⟩, Ext.refl _⟩⟩
        · have hne : es ≠ [] := fun e => by
            subst e
            have : ss = [] := List.eq_nil_of_length_eq_zero hlen
            have := hnil.2 this
            cases this
          obtain ⟨hsn, hext⟩ := hs.new (w' := W') (n := nx) (b := g) (z := 0) (bs := [g]) hnb (o := nO ((srtJ (keyL es)).map iR) cap) hfr hold (by simp; exact hg1) (by
            refine ⟨g, 0, cur, by simp, rfl, hg2, by rw [hg5]; omega, ?_, ?_⟩
            · rw [List.length_map, ← hsrt, List.length_mergeSort]; simp; omega
            · intro i v hv
              have hi : encL [.i .i64] ((srtJ (keyL es)).map iR) = (srtJ (keyL es)).map (AV.int .i64) := by
                unfold encL
                rw [List.flatMap_map]
                induction srtJ (keyL es) with
                | nil => rfl
                | cons a l ih => rw [List.flatMap_cons, ih]; rfl
              rw [hi, List.getElem?_map] at hv
              cases hj : (srtJ (keyL es))[i]? with
              | none => rw [hj] at hv; cases hv
              | some y =>
                rw [hj] at hv
                cases hv
                refine ⟨.int .i64 y, ?_, .int _ _ (hrg y ?_)⟩
                · have h7 : (cur.toList.take (ss.length * 1))[i]? = some (.int .i64 y) := by
                    rw [hg6, hsrt, List.getElem?_map, hj]; rfl
                  rw [List.getElem?_take] at h7
                  split at h7
                  · simpa using h7
                  · cases h7
                · have := List.mem_of_getElem? hj
                  rw [← hsrt] at this
                  exact (List.mergeSort_perm ..).mem_iff.1 this)
          refine ⟨.sl nx 0 es.length cap, _, _, _, _, ⟨_, hk2 hne cap cap⟩, rfl, ?_, hsn, ?_⟩
          · rw [hlen]
            have := Den.sl (ρ := fun m => if m = nx then some (g, 0) else ρ m) (n := nx) (b := g) (z := 0) 0 es.length cap (by simp) (by omega) hg4
            exact this
          · refine ⟨hb.os, hb.tape, hb.output, hb.size, fun x hx _ => hold x hx, fun n x hx => ?_, hext⟩
            by_cases e : n = nx
            · simp [e] at hx; exact .inr (by omega)
            · simp [e] at hx; exact .inl ⟨n, hx⟩
      · exact h.elim
    · exact h.elim
  · exact h.elim
theorem gA7 : GOk I P (Gm A7) := Gm.consH (Gm.consH (Gm.consH (Gm.consH Gm.nil k_sorted) k_keys) k_last) k_agreeC
end Go.Tb.W

/- Claims: whose claims have what is agreed on, proved. -/
set_option linter.all false
set_option maxRecDepth 100000
set_option maxHeartbeats 1000000
namespace Go.Tb.W
open Go Go.Proofs
variable {I : Interp O}
def c_trueC (args : List AV) (hp : Tr (AO O)) (nx : Nat) (K : AV → Tr (AO O) → Nat → Prop) : Prop := match args with
  | [v] => slC hp v fun xs f => match Nat.blt nx 16777215, hp.get nx with
    | true, none => xs.length ≤ 1000 ∧ (agE xs ≠ 0 → K .nils (f hp) nx) ∧ (agE xs = 0 → (trueF xs = [] → K .nils (f hp) nx) ∧ (trueF xs ≠ [] → ∀ c room, K (.sl nx 0 (trueF xs).length c) (f (hp.set nx (some (nO ((trueF xs).map iR) room)))) (nx + 1)))
    | _, _ => False
  | _ => False
noncomputable def Tj (o : AO O) (es : List (Rw × Nat)) (clk : Nat) (lo hi : Int) (L : List Int) (c r1 : Nat) (x : Nat × Nat × Nat) : St O := match (L.take x.1).filter (pK es lo hi) with
  | [] => j_trA o es clk lo hi L.length c (L.map iR) r1 ((x.1 : Nat) : Int)
  | y :: out => j_trB o es clk lo hi L.length c (L.map iR) r1 ((x.1 : Nat) : Int) (y :: out).length x.2.1 ((y :: out).map iR) x.2.2
theorem iR_get {L : List Int} {i : Nat} (h : i < L.length) : (L.map iR)[((i : Nat) : Int).toNat]? = some (iR L[i]) := by
  rw [Int.toNat_natCast, List.getElem?_map, List.getElem?_eq_getElem h]; rfl
theorem filt_step {L : List Int} {i : Nat} (h : i < L.length) (p : Int → Bool) : (L.take (i + 1)).filter p = (L.take i).filter p ++ (if p L[i] = true then [L[i]] else []) := by
  rw [List.take_succ_eq_append_getElem h, List.filter_append]
  congr 1
  by_cases hp : p L[i] = true <;> simp [hp]
theorem okK_of {es : List (Rw × Nat)} {clk : Nat} (h : okM es clk) : okK es clk := ⟨h.key, h.brn, h.old, by have := h.ln; omega⟩
theorem Tj_nil {o : AO O} {es : List (Rw × Nat)} {clk : Nat} {lo hi : Int} {L : List Int} {c r1 : Nat} {x : Nat × Nat × Nat} (h : (L.take x.1).filter (pK es lo hi) = []) : Tj o es clk lo hi L c r1 x = j_trA o es clk lo hi L.length c (L.map iR) r1 ((x.1 : Nat) : Int) := by
  show (match (L.take x.1).filter (pK es lo hi) with | [] => _ | y :: out => _) = _
  rw [h]
theorem Tj_cons {o : AO O} {es : List (Rw × Nat)} {clk : Nat} {lo hi : Int} {L : List Int} {c r1 : Nat} {x : Nat × Nat × Nat} {out : List Int} (h : (L.take x.1).filter (pK es lo hi) = out) (h0 : out ≠ []) : Tj o es clk lo hi L c r1 x = j_trB o es clk lo hi L.length c (L.map iR) r1 ((x.1 : Nat) : Int) out.length x.2.1 (out.map iR) x.2.2 := by
  show (match (L.take x.1).filter (pK es lo hi) with | [] => _ | y :: out => _) = _
  rw [h]
  cases out with
  | nil => exact absurd rfl h0
  | cons a l => rfl
theorem k_trueC : ∀ (args : List AV) (hp : Tr (AO O)) (nx : Nat) (K : AV → Tr (AO O) → Nat → Prop), c_trueC args hp nx K → ACall I P 11 args hp (fun v hp' => ∃ nx', K v hp' nx') := by
  intro args hp nx K h
  unfold c_trueC at h; split at h
  · rename_i v
    rcases slC_spec h with ⟨rfl, hk⟩ | ⟨n, l, c, rfl, hb, ⟨xs, room, hg, hl, hk⟩ | ⟨ob, xs, hg, hl, hk⟩⟩
    · split at hk
      · obtain ⟨_, hk1, _⟩ := hk
        exact hcallG mix gA7 (fn := Try.f11) (by kernel_rfl) (by kernel_rfl) (by kernel_rfl) [] [] [.nils] rfl rfl rfl trivial rfl rfl (fun hr ho => (t_trueN I _).mpr ⟨by decide, ⟨[], nx, rfl, trivial, rfl, rfl, hk1 (by decide)⟩⟩)
      · exact hk.elim
    · split at hk
      · rename_i hnb hfr
        obtain ⟨h6, hk1, hk2⟩ := hk
        refine hcallG mix gA7 (fn := Try.f11) (by kernel_rfl) (by kernel_rfl) (by kernel_rfl) [n] [cO xs room] [.sl 0 0 l c] rfl (uniq1 hb) rfl ⟨hg, trivial⟩ rfl rfl (fun hr ho => (t_trueR I _ l c room xs).mpr ⟨hl, h6, ?_⟩)
        have hlc := rg_lc hr
        generalize hys : xs.take l = ys at hk1 hk2 h6
        refine bsplit_both (fun a1 => ⟨[], nx, uniq1 hb, trivial, rfl, rfl, hk1 (by simpa using a1)⟩) (fun a1 => ⟨hl, ?_⟩)
        have h0 : agE ys = 0 := by simpa using a1
        obtain ⟨hk1, hk2⟩ := hk2 h0
        have hbad : ¬ badI ys ≥ 0 := fun e => by unfold agE at h0; rw [if_pos e] at h0; cases h0
        have h64 : ys.length ≤ 64 := by
          unfold agE at h0; rw [if_neg hbad] at h0
          split at h0
          · cases h0
          · omega
        obtain ⟨ok, hel⟩ := okM_of (bad_neg hbad) h64
        have hT : trueF ys = (srtJ (keyL (lastF ys).1)).filter (pK (lastF ys).1 (agLo ys) (agHi ys)) := (true_filter ok.key _ _).symm
        rw [hT] at hk1 hk2
        generalize agLo ys = lo at hk1 hk2 ⊢
        generalize agHi ys = hi at hk1 hk2 ⊢
        generalize agVo ys = vo at hk1 hk2 ⊢
        generalize agE ys = er at hk1 hk2 ⊢
        generalize lastF ys = q at ok hel hk1 hk2
        obtain ⟨es, clk⟩ := q
        simp only at ok hel hk1 hk2 ⊢
        refine ⟨okK_of ok, fun hes => ?_, fun hes d r1 => ?_⟩
        · refine ALoop.start [(1, 1), (2, 2)] [3, 4, 7, 8, 25, 26, 27] 3 (j_trN (cO xs room) es clk lo hi) (by kernel_rfl) (by kernel_rfl) ?_
          refine ALoop.stepg [(1, 1), (2, 2)] [3, 4, 7, 8, 25, 26, 27] 3 ?_
          exact (t_trNR I _ _ room xs es clk lo hi).mpr ⟨[], nx, uniq1 hb, trivial, rfl, rfl, hk1 (by rw [hes]; rfl)⟩
        · have hLl : (srtJ (keyL es)).length = es.length := by rw [(srtJ_perm _).length_eq]; unfold keyL; simp
          have hln := ok.ln
          rw [← hLl]
          generalize srtJ (keyL es) = L at hLl hk1 hk2
          refine ALoop.start [(1, 1), (2, 2), (3, 3)] [3, 4, 7, 8, 25, 26, 27] 5 (Tj (cO xs room) es clk lo hi L d r1 (0, 0, 0)) (by kernel_rfl) (by kernel_rfl) ?_
          refine ALoop.invjL (pss := [[(1, 1), (2, 2), (3, 3)], [(1, 1), (2, 2), (3, 3), (4, 4)], [(1, 1), (2, 2), (3, 3), (5, 4)], [(1, 1), (2, 2), (3, 3), (6, 4)], [(1, 1), (2, 2), (3, 3), (7, 4)], [(1, 1), (2, 2), (3, 3), (8, 4)], [(1, 1), (2, 2), (3, 3), (9, 4)]]) (ts := [3, 4, 7, 8, 25, 26, 27]) (nx := 5) (Tj (cO xs room) es clk lo hi L d r1) (fun x => x.1 ≤ L.length ∧ x.2.1 ≤ x.2.2) (fun x => L.length - x.1) ?_ (0, 0, 0) ⟨Nat.zero_le _, Nat.le_refl _⟩
          rintro ⟨i, cc, r2⟩ ⟨g1, g2⟩
          simp only at g1 g2
          have key : ∀ (x0 : Rw), x0 = iR (x0.i 0) → mrow (encS x0 0 (.i .i64)) es = mrow (.int .i64 (x0.i 0)) es := fun _ _ => rfl
          have nxt : ∀ (hi' : i < L.length), IntKind.i64.wrap (((i : Nat) : Int) + 1) = (((i + 1 : Nat)) : Int) := fun _ => by rw [w_id (by omega) (by omega)]; omega
          cases hO : (L.take i).filter (pK es lo hi) with
          | nil =>
            rw [Tj_nil (x := (i, cc, r2)) hO]
            refine (t_trAR I _ _ room xs es clk lo hi L.length d (L.map iR) r1 ((i : Nat) : Int)).mpr (bsplit_both (fun hx => ?_) (fun hx => ?_))
            · have hx := of_decide_eq_true hx
              have hi' : i < L.length := by omega
              have hst := filt_step hi' (pK es lo hi)
              rw [hO, List.nil_append] at hst
              refine must_mk (decide_eq_true ⟨by omega, hx⟩) (xget_mk (iR_get hi') (bsplit_both (fun a2 => ?_) (fun a2 => ?_)))
              · refine bsplit_both (fun a3 => ⟨by omega, fun c' q1 q2 => ⟨(i + 1, c', c' * 1), ⟨by show i + 1 ≤ L.length; omega, by show c' ≤ c' * 1; omega⟩, by show L.length - (i + 1) < L.length - i; omega, ?_⟩⟩) (fun a3 => ⟨(i + 1, cc, r2), ⟨by show i + 1 ≤ L.length; omega, g2⟩, by show L.length - (i + 1) < L.length - i; omega, ?_⟩)
                · have hp : pK es lo hi L[i] = true := by unfold pK; exact Bool.and_eq_true_iff.2 ⟨a2, a3⟩
                  rw [if_pos hp] at hst
                  rw [Tj_cons (x := (i + 1, c', c' * 1)) hst (by simp), nxt hi']
                  rfl
                · have hp : pK es lo hi L[i] = false := by
                    unfold pK; exact Bool.and_eq_false_iff.2 (.inr a3)
                  rw [hp, if_neg (by decide)] at hst
                  rw [Tj_nil (x := (i + 1, cc, r2)) hst, nxt hi']
                  rfl
              · refine ⟨(i + 1, cc, r2), ⟨by show i + 1 ≤ L.length; omega, g2⟩, by show L.length - (i + 1) < L.length - i; omega, ?_⟩
                have hp : pK es lo hi L[i] = false := by
                  unfold pK; exact Bool.and_eq_false_iff.2 (.inl a2)
                rw [hp, if_neg (by decide)] at hst
                rw [Tj_nil (x := (i + 1, cc, r2)) hst, nxt hi']
                rfl
            · have hx := of_decide_eq_false hx
              have hi : i = L.length := by omega
              rw [hi, List.take_length] at hO
              exact ⟨[], nx, uniq1 hb, trivial, rfl, rfl, hk1 hO⟩
          | cons y out0 =>
            have hne : y :: out0 ≠ [] := by simp
            generalize y :: out0 = out at hO hne
            rw [Tj_cons (x := (i, cc, r2)) hO hne]
            have hol : out.length ≤ L.length := by rw [← hO]; exact Nat.le_trans (List.length_filter_le _ _) (by simp; omega)
            refine (t_trBR I _ _ room xs es clk lo hi L.length d (L.map iR) r1 ((i : Nat) : Int) out.length cc (out.map iR) r2).mpr (bsplit_both (fun hx => ?_) (fun hx => ?_))
            · have hx := of_decide_eq_true hx
              have hi' : i < L.length := by omega
              have hst := filt_step hi' (pK es lo hi)
              rw [hO] at hst
              refine must_mk (decide_eq_true ⟨by omega, hx⟩) (xget_mk (iR_get hi') (bsplit_both (fun a2 => ?_) (fun a2 => ?_)))
              · refine bsplit_both (fun a3 => must_mk (by simp [Nat.ble_eq]; omega) ⟨by omega, fun c' q1 q2 => ⟨(i + 1, c', c' * 1), ⟨by show i + 1 ≤ L.length; omega, by show c' ≤ c' * 1; omega⟩, by show L.length - (i + 1) < L.length - i; omega, ?_⟩⟩) (fun a3 => ⟨(i + 1, cc, r2), ⟨by show i + 1 ≤ L.length; omega, g2⟩, by show L.length - (i + 1) < L.length - i; omega, ?_⟩)
                · have hp : pK es lo hi L[i] = true := by unfold pK; exact Bool.and_eq_true_iff.2 ⟨a2, a3⟩
                  rw [if_pos hp] at hst
                  rw [Tj_cons (x := (i + 1, c', c' * 1)) hst (by simp), nxt hi', List.take_of_length_le (by simp), List.map_append, List.length_append]
                  rfl
                · have hp : pK es lo hi L[i] = false := by
                    unfold pK; exact Bool.and_eq_false_iff.2 (.inr a3)
                  rw [hp, if_neg (by decide), List.append_nil] at hst
                  rw [Tj_cons (x := (i + 1, cc, r2)) hst hne, nxt hi']
                  rfl
              · refine ⟨(i + 1, cc, r2), ⟨by show i + 1 ≤ L.length; omega, g2⟩, by show L.length - (i + 1) < L.length - i; omega, ?_⟩
                have hp : pK es lo hi L[i] = false := by
                  unfold pK; exact Bool.and_eq_false_iff.2 (.inl a2)
                rw [hp, if_neg (by decide), List.append_nil] at hst
                rw [Tj_cons (x := (i + 1, cc, r2)) hst hne, nxt hi']
                rfl
            · have hx := of_decide_eq_false hx
              have hi : i = L.length := by omega
              rw [hi, List.take_length] at hO
              have hk2 := hk2 (by rw [hO]; exact hne)
              rw [hO] at hk2
              exact ⟨[(4, nx)], nx + 1, uniq2n (uniq1 hb) hfr hnb (by rw [hg]; simp) rfl, ⟨hfr, trivial⟩, rfl, rfl, hk2 cc r2⟩
      · exact hk.elim
    · split at hk
      · rename_i hnb hfr
        obtain ⟨h6, hk1, hk2⟩ := hk
        refine hcallG mix gA7 (fn := Try.f11) (by kernel_rfl) (by kernel_rfl) (by kernel_rfl) [n] [oO ob xs] [.sl 0 0 l c] rfl (uniq1 hb) rfl ⟨hg, trivial⟩ rfl rfl (fun hr ho => (t_trueO I _ l c ob xs).mpr ⟨hl, h6, ?_⟩)
        have hlc := rg_lc hr
        generalize hys : xs.take l = ys at hk1 hk2 h6
        refine bsplit_both (fun a1 => ⟨[], nx, uniq1 hb, trivial, rfl, rfl, hk1 (by simpa using a1)⟩) (fun a1 => ⟨hl, ?_⟩)
        have h0 : agE ys = 0 := by simpa using a1
        obtain ⟨hk1, hk2⟩ := hk2 h0
        have hbad : ¬ badI ys ≥ 0 := fun e => by unfold agE at h0; rw [if_pos e] at h0; cases h0
        have h64 : ys.length ≤ 64 := by
          unfold agE at h0; rw [if_neg hbad] at h0
          split at h0
          · cases h0
          · omega
        obtain ⟨ok, hel⟩ := okM_of (bad_neg hbad) h64
        have hT : trueF ys = (srtJ (keyL (lastF ys).1)).filter (pK (lastF ys).1 (agLo ys) (agHi ys)) := (true_filter ok.key _ _).symm
        rw [hT] at hk1 hk2
        generalize agLo ys = lo at hk1 hk2 ⊢
        generalize agHi ys = hi at hk1 hk2 ⊢
        generalize agVo ys = vo at hk1 hk2 ⊢
        generalize agE ys = er at hk1 hk2 ⊢
        generalize lastF ys = q at ok hel hk1 hk2
        obtain ⟨es, clk⟩ := q
        simp only at ok hel hk1 hk2 ⊢
        refine ⟨okK_of ok, fun hes => ?_, fun hes d r1 => ?_⟩
        · refine ALoop.start [(1, 1), (2, 2)] [3, 4, 7, 8, 25, 26, 27] 3 (j_trN (oO ob xs) es clk lo hi) (by kernel_rfl) (by kernel_rfl) ?_
          refine ALoop.stepg [(1, 1), (2, 2)] [3, 4, 7, 8, 25, 26, 27] 3 ?_
          exact (t_trNO I _ _ ob xs es clk lo hi).mpr ⟨[], nx, uniq1 hb, trivial, rfl, rfl, hk1 (by rw [hes]; rfl)⟩
        · have hLl : (srtJ (keyL es)).length = es.length := by rw [(srtJ_perm _).length_eq]; unfold keyL; simp
          have hln := ok.ln
          rw [← hLl]
          generalize srtJ (keyL es) = L at hLl hk1 hk2
          refine ALoop.start [(1, 1), (2, 2), (3, 3)] [3, 4, 7, 8, 25, 26, 27] 5 (Tj (oO ob xs) es clk lo hi L d r1 (0, 0, 0)) (by kernel_rfl) (by kernel_rfl) ?_
          refine ALoop.invjL (pss := [[(1, 1), (2, 2), (3, 3)], [(1, 1), (2, 2), (3, 3), (4, 4)], [(1, 1), (2, 2), (3, 3), (5, 4)], [(1, 1), (2, 2), (3, 3), (6, 4)], [(1, 1), (2, 2), (3, 3), (7, 4)], [(1, 1), (2, 2), (3, 3), (8, 4)], [(1, 1), (2, 2), (3, 3), (9, 4)]]) (ts := [3, 4, 7, 8, 25, 26, 27]) (nx := 5) (Tj (oO ob xs) es clk lo hi L d r1) (fun x => x.1 ≤ L.length ∧ x.2.1 ≤ x.2.2) (fun x => L.length - x.1) ?_ (0, 0, 0) ⟨Nat.zero_le _, Nat.le_refl _⟩
          rintro ⟨i, cc, r2⟩ ⟨g1, g2⟩
          simp only at g1 g2
          have key : ∀ (x0 : Rw), x0 = iR (x0.i 0) → mrow (encS x0 0 (.i .i64)) es = mrow (.int .i64 (x0.i 0)) es := fun _ _ => rfl
          have nxt : ∀ (hi' : i < L.length), IntKind.i64.wrap (((i : Nat) : Int) + 1) = (((i + 1 : Nat)) : Int) := fun _ => by rw [w_id (by omega) (by omega)]; omega
          cases hO : (L.take i).filter (pK es lo hi) with
          | nil =>
            rw [Tj_nil (x := (i, cc, r2)) hO]
            refine (t_trAO I _ _ ob xs es clk lo hi L.length d (L.map iR) r1 ((i : Nat) : Int)).mpr (bsplit_both (fun hx => ?_) (fun hx => ?_))
            · have hx := of_decide_eq_true hx
              have hi' : i < L.length := by omega
              have hst := filt_step hi' (pK es lo hi)
              rw [hO, List.nil_append] at hst
              refine must_mk (decide_eq_true ⟨by omega, hx⟩) (xget_mk (iR_get hi') (bsplit_both (fun a2 => ?_) (fun a2 => ?_)))
              · refine bsplit_both (fun a3 => ⟨by omega, fun c' q1 q2 => ⟨(i + 1, c', c' * 1), ⟨by show i + 1 ≤ L.length; omega, by show c' ≤ c' * 1; omega⟩, by show L.length - (i + 1) < L.length - i; omega, ?_⟩⟩) (fun a3 => ⟨(i + 1, cc, r2), ⟨by show i + 1 ≤ L.length; omega, g2⟩, by show L.length - (i + 1) < L.length - i; omega, ?_⟩)
                · have hp : pK es lo hi L[i] = true := by unfold pK; exact Bool.and_eq_true_iff.2 ⟨a2, a3⟩
                  rw [if_pos hp] at hst
                  rw [Tj_cons (x := (i + 1, c', c' * 1)) hst (by simp), nxt hi']
                  rfl
                · have hp : pK es lo hi L[i] = false := by
                    unfold pK; exact Bool.and_eq_false_iff.2 (.inr a3)
                  rw [hp, if_neg (by decide)] at hst
                  rw [Tj_nil (x := (i + 1, cc, r2)) hst, nxt hi']
                  rfl
              · refine ⟨(i + 1, cc, r2), ⟨by show i + 1 ≤ L.length; omega, g2⟩, by show L.length - (i + 1) < L.length - i; omega, ?_⟩
                have hp : pK es lo hi L[i] = false := by
                  unfold pK; exact Bool.and_eq_false_iff.2 (.inl a2)
                rw [hp, if_neg (by decide)] at hst
                rw [Tj_nil (x := (i + 1, cc, r2)) hst, nxt hi']
                rfl
            · have hx := of_decide_eq_false hx
              have hi : i = L.length := by omega
              rw [hi, List.take_length] at hO
              exact ⟨[], nx, uniq1 hb, trivial, rfl, rfl, hk1 hO⟩
          | cons y out0 =>
            have hne : y :: out0 ≠ [] := by simp
            generalize y :: out0 = out at hO hne
            rw [Tj_cons (x := (i, cc, r2)) hO hne]
            have hol : out.length ≤ L.length := by rw [← hO]; exact Nat.le_trans (List.length_filter_le _ _) (by simp; omega)
            refine (t_trBO I _ _ ob xs es clk lo hi L.length d (L.map iR) r1 ((i : Nat) : Int) out.length cc (out.map iR) r2).mpr (bsplit_both (fun hx => ?_) (fun hx => ?_))
            · have hx := of_decide_eq_true hx
              have hi' : i < L.length := by omega
              have hst := filt_step hi' (pK es lo hi)
              rw [hO] at hst
              refine must_mk (decide_eq_true ⟨by omega, hx⟩) (xget_mk (iR_get hi') (bsplit_both (fun a2 => ?_) (fun a2 => ?_)))
              · refine bsplit_both (fun a3 => must_mk (by simp [Nat.ble_eq]; omega) ⟨by omega, fun c' q1 q2 => ⟨(i + 1, c', c' * 1), ⟨by show i + 1 ≤ L.length; omega, by show c' ≤ c' * 1; omega⟩, by show L.length - (i + 1) < L.length - i; omega, ?_⟩⟩) (fun a3 => ⟨(i + 1, cc, r2), ⟨by show i + 1 ≤ L.length; omega, g2⟩, by show L.length - (i + 1) < L.length - i; omega, ?_⟩)
                · have hp : pK es lo hi L[i] = true := by unfold pK; exact Bool.and_eq_true_iff.2 ⟨a2, a3⟩
                  rw [if_pos hp] at hst
                  rw [Tj_cons (x := (i + 1, c', c' * 1)) hst (by simp), nxt hi', List.take_of_length_le (by simp), List.map_append, List.length_append]
                  rfl
                · have hp : pK es lo hi L[i] = false := by
                    unfold pK; exact Bool.and_eq_false_iff.2 (.inr a3)
                  rw [hp, if_neg (by decide), List.append_nil] at hst
                  rw [Tj_cons (x := (i + 1, cc, r2)) hst hne, nxt hi']
                  rfl
              · refine ⟨(i + 1, cc, r2), ⟨by show i + 1 ≤ L.length; omega, g2⟩, by show L.length - (i + 1) < L.length - i; omega, ?_⟩
                have hp : pK es lo hi L[i] = false := by
                  unfold pK; exact Bool.and_eq_false_iff.2 (.inl a2)
                rw [hp, if_neg (by decide), List.append_nil] at hst
                rw [Tj_cons (x := (i + 1, cc, r2)) hst hne, nxt hi']
                rfl
            · have hx := of_decide_eq_false hx
              have hi : i = L.length := by omega
              rw [hi, List.take_length] at hO
              have hk2 := hk2 (by rw [hO]; exact hne)
              rw [hO] at hk2
              exact ⟨[(4, nx)], nx + 1, uniq2n (uniq1 hb) hfr hnb (by rw [hg]; simp) rfl, ⟨hfr, trivial⟩, rfl, rfl, hk2 cc r2⟩
      · exact hk.elim
  · exact h.elim
end Go.Tb.W

/- Middles: what bits come to. -/
set_option linter.all false
namespace Go.Tb.W
open Go Go.Proofs
theorem add_and_xor : ∀ (n x y : Nat), x < 2 ^ n → y < 2 ^ n → x + y = 2 * (x &&& y) + (x ^^^ y)
  | 0, x, y, hx, hy => by
    obtain rfl : x = 0 := by simpa using hx
    obtain rfl : y = 0 := by simpa using hy
    rfl
  | n + 1, x, y, hx, hy => by
    have ih := add_and_xor n (x / 2) (y / 2) (by omega) (by omega)
    have a1 : (x &&& y) / 2 = x / 2 &&& y / 2 := Nat.and_div_two
    have a2 : (x ^^^ y) / 2 = x / 2 ^^^ y / 2 := Nat.xor_div_two
    have a3 : (x &&& y) % 2 = 1 ↔ x % 2 = 1 ∧ y % 2 = 1 := Nat.and_mod_two_eq_one
    have a4 : (x ^^^ y) % 2 = (x + y) % 2 := by
      have h := @Nat.xor_mod_two_eq_one x y
      by_cases h3 : (x ^^^ y) % 2 = 1
      · have h4 := h.1 h3
        by_cases h1 : x % 2 = 1 <;> by_cases h2 : y % 2 = 1
        · exact absurd ⟨fun _ => h2, fun _ => h1⟩ h4
        · omega
        · omega
        · exact absurd ⟨fun e => absurd e h1, fun e => absurd e h2⟩ h4
      · have h4 : (x % 2 = 1 ↔ y % 2 = 1) := Classical.not_not.1 (fun e => h3 (h.2 e))
        by_cases h1 : x % 2 = 1
        · have := h4.1 h1; omega
        · have h2 : ¬ y % 2 = 1 := fun e => h1 (h4.2 e)
          omega
    rw [← a1, ← a2] at ih
    by_cases h1 : x % 2 = 1 <;> by_cases h2 : y % 2 = 1
    · have := a3.2 ⟨h1, h2⟩; omega
    · have : ¬ (x &&& y) % 2 = 1 := fun e => h2 (a3.1 e).2
      omega
    · have : ¬ (x &&& y) % 2 = 1 := fun e => h1 (a3.1 e).1
      omega
    · have : ¬ (x &&& y) % 2 = 1 := fun e => h1 (a3.1 e).1
      omega
theorem tn (n : Int) : ((BitVec.ofInt 64 n).toNat : Int) = n % 18446744073709551616 := by
  rw [BitVec.toNat_ofInt]
  have : (0 : Int) ≤ n % 18446744073709551616 := Int.emod_nonneg _ (by decide)
  show (((n % (2 ^ 64 : Nat)).toNat : Nat) : Int) = _
  rw [show ((2 ^ 64 : Nat) : Int) = 18446744073709551616 from rfl, Int.toNat_of_nonneg this]
theorem and_xor {a b : Int} (ha : -9223372036854775808 ≤ a ∧ a ≤ 9223372036854775807) (hb : -9223372036854775808 ≤ b ∧ b ≤ 9223372036854775807) :
    a + b = 2 * bits .and .i64 a b + bits .xor .i64 a b ∧ (-9223372036854775808 ≤ bits .and .i64 a b ∧ bits .and .i64 a b ≤ 9223372036854775807) ∧ (-9223372036854775808 ≤ bits .xor .i64 a b ∧ bits .xor .i64 a b ≤ 9223372036854775807) := by
  have e1 : bits .and .i64 a b = IntKind.i64.wrap ((((BitVec.ofInt 64 a).toNat &&& (BitVec.ofInt 64 b).toNat : Nat)) : Int) := rfl
  have e2 : bits .xor .i64 a b = IntKind.i64.wrap ((((BitVec.ofInt 64 a).toNat ^^^ (BitVec.ofInt 64 b).toNat : Nat)) : Int) := rfl
  rw [e1, e2, w_i64, w_i64]
  have ta := tn a
  have tb := tn b
  have la : (BitVec.ofInt 64 a).toNat < 2 ^ 64 := (BitVec.ofInt 64 a).isLt
  have lb : (BitVec.ofInt 64 b).toNat < 2 ^ 64 := (BitVec.ofInt 64 b).isLt
  generalize (BitVec.ofInt 64 a).toNat = x at ta la
  generalize (BitVec.ofInt 64 b).toNat = y at tb lb
  have h := add_and_xor 64 x y la lb
  have l1 : (x &&& y) < 2 ^ 64 := Nat.and_lt_two_pow x lb
  have l2 : (x ^^^ y) < 2 ^ 64 := Nat.xor_lt_two_pow la lb
  have s1 : (x &&& y) >>> 63 = x >>> 63 &&& y >>> 63 := Nat.shiftRight_and_distrib
  have s2 : (x ^^^ y) >>> 63 = x >>> 63 ^^^ y >>> 63 := Nat.shiftRight_xor_distrib
  simp only [Nat.shiftRight_eq_div_pow] at s1 s2
  have hx : x / 2 ^ 63 = 0 ∨ x / 2 ^ 63 = 1 := by omega
  have hy : y / 2 ^ 63 = 0 ∨ y / 2 ^ 63 = 1 := by omega
  generalize (x &&& y) = p at *
  generalize (x ^^^ y) = q at *
  rcases hx with hx | hx <;> rcases hy with hy | hy <;> rw [hx, hy] at s1 s2 <;> simp at s1 s2 <;> refine ⟨?_, by omega, by omega⟩ <;> omega
theorem and_one_i {a : Int} (ha : -9223372036854775808 ≤ a ∧ a ≤ 9223372036854775807) : bits .and .i64 a 1 = a % 2 := by
  have e1 : bits .and .i64 a 1 = IntKind.i64.wrap ((((BitVec.ofInt 64 a).toNat &&& 1 : Nat)) : Int) := rfl
  rw [e1, Nat.and_one_is_mod, w_i64]
  have ta := tn a
  generalize (BitVec.ofInt 64 a).toNat = x at ta
  omega
theorem half (a : Int) : a.fdiv (2 ^ min (Int.toNat 1) IntKind.i64.bits) = a / 2 := by
  rw [show ((2 : Int) ^ min (Int.toNat 1) IntKind.i64.bits) = 2 from by decide, Int.fdiv_eq_ediv_of_nonneg _ (by decide)]
theorem mid_eq (a b : Int) : midI a b = (a + b) / 2 := by unfold midI; rw [Int.fdiv_eq_ediv_of_nonneg _ (by decide)]
theorem mid_own {a b : Int} (ha : -9223372036854775808 ≤ a ∧ a ≤ 9223372036854775807) (hb : -9223372036854775808 ≤ b ∧ b ≤ 9223372036854775807) :
    IntKind.i64.wrap (bits BinOp.and IntKind.i64 a b + (bits BinOp.xor IntKind.i64 a b).fdiv (2 ^ min (Int.toNat 1) IntKind.i64.bits)) = midI a b := by
  obtain ⟨h1, h2, h3⟩ := and_xor ha hb
  rw [half, mid_eq, w_i64]
  omega
theorem mid_ref {a b : Int} (ha : -9223372036854775808 ≤ a ∧ a ≤ 9223372036854775807) (hb : -9223372036854775808 ≤ b ∧ b ≤ 9223372036854775807) :
    IntKind.i64.wrap (IntKind.i64.wrap (a.fdiv (2 ^ min (Int.toNat 1) IntKind.i64.bits) + b.fdiv (2 ^ min (Int.toNat 1) IntKind.i64.bits)) + IntKind.i64.wrap ((IntKind.i64.wrap (bits BinOp.and IntKind.i64 a 1 + bits BinOp.and IntKind.i64 b 1)).tdiv 2)) = midI a b := by
  rw [half, half, and_one_i ha, and_one_i hb, mid_eq, w_i64 (a % 2 + b % 2)]
  have : (a % 2 + b % 2 + 9223372036854775808) % 18446744073709551616 - 9223372036854775808 = a % 2 + b % 2 := by omega
  rw [this, Int.tdiv_eq_ediv_of_nonneg (by omega), w_i64, w_i64, w_i64]
  omega
end Go.Tb.W

/- Claims: blocks of cells told as rows; the functions, and awake. -/
set_option linter.all false
set_option maxRecDepth 100000
set_option maxHeartbeats 1000000
namespace Go.Tb
open Go
namespace Tr
variable {α : Type}
theorem setF_same (f : Nat) : ∀ (t : Tr α) (i : Nat) (x y : Option α), setF f (setF f t i x) i y = setF f t i y := by
  induction f with
  | zero => intros; rfl
  | succ f ih =>
    intro t i x y
    cases i with
    | zero => rfl
    | succ k =>
      simp only [setF]
      cases Nat.beq (Nat.mod k 2) 0 <;> simp only [setF, left, right, val, ih]
theorem setF_comm (f : Nat) : ∀ (t : Tr α) (i j : Nat) (x y : Option α), i ≠ j → setF f (setF f t i x) j y = setF f (setF f t j y) i x := by
  induction f with
  | zero => intros; rfl
  | succ f ih =>
    intro t i j x y h
    cases i with
    | zero =>
      cases j with
      | zero => exact absurd rfl h
      | succ j => simp only [setF]; cases Nat.beq (Nat.mod j 2) 0 <;> simp only [setF, left, right, val]
    | succ i =>
      cases j with
      | zero => simp only [setF]; cases Nat.beq (Nat.mod i 2) 0 <;> simp only [setF, left, right, val]
      | succ j =>
        simp only [setF]
        cases hi : Nat.beq (Nat.mod i 2) 0 <;> cases hj : Nat.beq (Nat.mod j 2) 0 <;> simp only [setF, left, right, val, hi, hj]
        · rw [ih _ _ _ _ _ (half_ne h (by rw [hi, hj]))]
        · rw [ih _ _ _ _ _ (half_ne h (by rw [hi, hj]))]
theorem set_same (t : Tr α) (i : Nat) (x y : Option α) : (t.set i x).set i y = t.set i y := setF_same 24 t i x y
theorem set_comm (t : Tr α) {i j : Nat} (x y : Option α) (h : i ≠ j) : (t.set i x).set j y = (t.set j y).set i x := setF_comm 24 t i j x y h
end Tr
end Go.Tb
namespace Go.Tb.W
open Go Go.Proofs
variable {I : Interp O}
theorem chk_spec : ∀ {L : List AV} {xs : List Rw}, chk L = some xs → encL cS xs = L ∧ xs.length * 3 = L.length
  | [], xs, h => by simp [chk] at h; subst h; exact ⟨rfl, rfl⟩
  | .int .i64 a :: .int .i64 b :: .int .i64 c :: l, xs, h => by
    simp only [chk] at h
    cases hr : chk l with
    | none => rw [hr] at h; cases h
    | some r =>
      rw [hr] at h; cases h
      obtain ⟨h1, h2⟩ := chk_spec hr
      refine ⟨?_, by simp; omega⟩
      have : encL cS (rwA [.int .i64 a, .int .i64 b, .int .i64 c] :: r) = [.int .i64 a, .int .i64 b, .int .i64 c] ++ encL cS r := rfl
      rw [this, h1]; rfl
/-- Cells that are claims, told as rows. -/
theorem ACall.asRows {f : FuncId} {args : List AV} {hp : Tr (AO O)} {K : AV → Tr (AO O) → Prop} {n : Nat} {L : List AV} {room : Nat} {xs : List Rw} (hn : Nat.blt n 16777215 = true) (hg : hp.get n = some (.cells 31 L room)) (hc : chk L = some xs)
    (h : ACall I P f args (hp.set n (some (cO xs room))) K) : ACall I P f args hp K := by
  refine ⟨h.1, fun ρ fp w args' hs hd => h.2 ρ fp w args' ?_ hd⟩
  refine hs.update hn (by rw [hg]; simp) (fun _ _ => rfl) ?_
  obtain ⟨k1, k2⟩ := chk_spec hc
  obtain ⟨b, z, arr, g1, g2, g3, g4, g5, g6⟩ := hs.ok _ _ hg
  exact ⟨b, z, arr, g1, g2, g3, g4, by show xs.length * 3 ≤ room; omega, by rw [k1]; exact g6⟩
theorem slD_lift {f : FuncId} {hp : Tr (AO O)} {v : AV} {K : AV → Tr (AO O) → Prop} {Q : List Rw → (Tr (AO O) → Tr (AO O)) → Prop} (h : slD hp v Q)
    (h1 : ∀ n l c room (xs : List Rw), Nat.blt n 16777215 = true → hp.get n ≠ none → v = .sl n 0 l c → l ≤ xs.length → Q (xs.take l) (fun hp => hp.set n (some (cO xs room))) → (hp.set n (some (cO xs room))).get n = some (cO xs room) → ACall I P f [v] (hp.set n (some (cO xs room))) K)
    (h2 : slC hp v Q → ACall I P f [v] hp K) : ACall I P f [v] hp K := by
  unfold slD at h; split at h
  · rename_i n l c
    split at h
    · rename_i L room hb hg
      split at h
      · rename_i xs hc
        exact ACall.asRows hb hg hc (h1 n l c room xs hb (by rw [hg]; simp) rfl h.1 h.2 (Tr.get_set_eq hb))
      · exact h.elim
    · exact h2 h
  · exact h2 h
theorem k_agree : ∀ (args : List AV) (hp : Tr (AO O)) (nx : Nat) (K : AV → Tr (AO O) → Nat → Prop), c_agree args hp nx K → ACall I P 10 args hp (fun v hp' => ∃ nx', K v hp' nx') := by
  intro args hp nx K h
  unfold c_agree at h; split at h
  · rename_i v
    refine slD_lift h (fun n l c room xs hb h0 e hl hq hg => ?_) (fun hc => k_agreeC _ hp nx K hc)
    subst e
    refine k_agreeC _ _ nx K ?_
    unfold c_agreeC slC
    simp only [hb, hg]
    exact ⟨hl, hq.1, by rw [Tr.set_same]; exact hq.2⟩
  · exact h.elim
theorem k_true : ∀ (args : List AV) (hp : Tr (AO O)) (nx : Nat) (K : AV → Tr (AO O) → Nat → Prop), c_true args hp nx K → ACall I P 11 args hp (fun v hp' => ∃ nx', K v hp' nx') := by
  intro args hp nx K h
  unfold c_true at h; split at h
  · rename_i v
    refine slD_lift h (fun n l c room xs hb h0 e hl hq hg => ?_) (fun hc => k_trueC _ hp nx K hc)
    subst e
    refine k_trueC _ _ nx K ?_
    unfold c_trueC slC
    simp only [hb, hg]
    refine ⟨hl, ?_⟩
    split at hq
    · rename_i hnb hfr
      have hne : n ≠ nx := fun e => by subst e; exact h0 hfr
      have hfr' : (hp.set n (some (cO xs room))).get nx = none := by rw [Tr.get_set_ne hne]; exact hfr
      simp only [hnb, hfr']
      refine ⟨hq.1, fun e => by rw [Tr.set_same]; exact hq.2.1 e, fun e => ⟨fun e' => by rw [Tr.set_same]; exact (hq.2.2 e).1 e', fun e' c2 r2 => ?_⟩⟩
      have := (hq.2.2 e).2 e' c2 r2
      rw [Tr.set_comm _ _ _ hne, Tr.set_same]
      exact this
    · exact hq.elim
  · exact h.elim
theorem k_mid : ∀ (args : List AV) (K : AV → Prop), c_mid args K → ∀ hp, ACall I P 8 args hp (fun v hp' => K v ∧ hp' = hp) := by
  intro args K h hp
  unfold c_mid at h; split at h
  · rename_i a b
    refine pcall mix Gm.nil (fn := Try.f8) (by kernel_rfl) (by kernel_rfl) (by kernel_rfl) rfl rfl (fun hr => ?_) hp
    simp only [rgs, rg, Bool.and_eq_true] at hr
    refine (t_mid I (fun v => K v ∧ cl v = true) a b).mpr ⟨?_, rfl⟩
    rw [mid_own (r_i64 hr.1) (r_i64 hr.2.1)]; exact h
  · exact h.elim
theorem k_rmid : ∀ (args : List AV) (K : AV → Prop), c_mid args K → ∀ hp, ACall I P 9 args hp (fun v hp' => K v ∧ hp' = hp) := by
  intro args K h hp
  unfold c_mid at h; split at h
  · rename_i a b
    refine pcall mix Gm.nil (fn := Try.f9) (by kernel_rfl) (by kernel_rfl) (by kernel_rfl) rfl rfl (fun hr => ?_) hp
    simp only [rgs, rg, Bool.and_eq_true] at hr
    refine (t_rmid I (fun v => K v ∧ cl v = true) a b).mpr ⟨?_, rfl⟩
    rw [mid_ref (r_i64 hr.1) (r_i64 hr.2.1)]; exact h
  · exact h.elim
theorem gB1 : GOk I P (Gm B1) := Gm.consH (Gm.consH (Gm.consP (Gm.consP Gm.nil k_may) k_mid) k_true) k_agree
theorem k_awake : ∀ (args : List AV) (K : AV → Prop), c_awake args K → ∀ hp, ACall I P 7 args hp (fun v hp' => K v ∧ hp' = hp) := by
  intro args K h hp
  unfold c_awake at h; split at h
  · refine pcall mix gB1 (fn := Try.f7) (by kernel_rfl) (by kernel_rfl) (by kernel_rfl) rfl rfl (fun hr => ?_) hp
    refine (t_awake I (fun v => K v ∧ cl v = true)).mpr ⟨by decide, by decide, by decide, by decide, by decide, by decide, by decide, fun e => absurd (by kernel_rfl) e, fun _ => ⟨fun e => ?_, fun _ _ _ => ⟨h, rfl⟩⟩⟩
    have : (trueF (List.take 3 [rwA [AV.int IntKind.i64 1, AV.int IntKind.i64 0, AV.int IntKind.i64 10], rwA [AV.int IntKind.i64 2, AV.int IntKind.i64 5, AV.int IntKind.i64 15], rwA [AV.int IntKind.i64 3, AV.int IntKind.i64 8, AV.int IntKind.i64 20]])).length = 3 := by kernel_rfl
    rw [e] at this
    cases this
  · exact h.elim
theorem gB2 : GOk I P (Gm B2) := Gm.consP (Gm.consP gB1 k_rmid) k_awake
end Go.Tb.W

/- Claims: the law of middles. -/
set_option linter.all false
set_option maxRecDepth 100000
set_option maxHeartbeats 1000000
namespace Go.Tb.W
open Go Go.Proofs
variable {I : Interp O}
theorem l_mid (a b : Int) (hp : Tr (AO O)) : ACall I P 3 [.int .i64 a, .int .i64 b] hp (fun v hp' => v = .bool true ∧ hp' = hp) := by
  refine pcall mix gB2 (fn := Try.f3) (by kernel_rfl) (by kernel_rfl) (by kernel_rfl) (K := fun v => v = .bool true) rfl rfl (fun hr => ?_) hp
  simp only [rgs, rg, Bool.and_eq_true] at hr
  have ha := r_i64 hr.1
  have hb := r_i64 hr.2.1
  refine (t_lmid I (fun v => v = .bool true ∧ cl v = true) a b).mpr (bsplit_both (fun _ => bsplit_both (fun _ => bsplit_both (fun _ => ⟨?_, rfl⟩) (fun h => absurd h ?_)) (fun h => absurd h ?_)) (fun h => absurd h ?_))
  · rw [mid_eq, mid_eq, Int.add_comm b a, beq_self_eq_true]
  · rw [mid_eq]
    have : (a + b) / 2 ≤ if b > a then b else a := by split <;> omega
    simp only [decide_eq_true this]; decide
  · rw [mid_eq]
    have : (a + b) / 2 ≥ if b < a then b else a := by split <;> omega
    simp only [decide_eq_true this]; decide
  · rw [beq_self_eq_true]; decide
end Go.Tb.W

