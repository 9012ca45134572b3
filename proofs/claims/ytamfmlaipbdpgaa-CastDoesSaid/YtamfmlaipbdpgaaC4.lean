/- The keys of a map, told to the library's contracts; a search's servers, sorted. -/
import Derived.Test.YtamfmlaipbdpgaaC0
import Derived.Test.YtamfmlaipbdpgaaC3
set_option linter.all false
set_option maxRecDepth 100000
namespace Go.Tb
open Go Go.Maps
/-- A map with whole numbers as keys is one that the library's contracts know. -/
theorem keys_map {P : Program} {ms : MSh} {kt : TypeId} (hms : ms.kt = .i .i64) (hkt : P.underlying kt = some (.int .i64)) {w : World} {b clk : Nat} {es : List (Rw × Nat)} {es' : Array MapEntry} (hb : w.heap[b]? = some (.map es' clk)) (hr : MapRel ms es es'.toList)
    (hk : es.Pairwise (fun x y => x.1.i 0 ≠ y.1.i 0)) (hn : es.Pairwise (fun x y => x.2 ≠ y.2)) (ho : ∀ e ∈ es, e.2 < clk) (hl : es.length ≤ 9223372036854775807) :
    ∃ D0 : DataW Unit, w.ownsMap P kt (fun _ => some (.nil, [])) b es.length D0 ∧ Maps.size D0 = es.length ∧ (intKeys D0).Perm (es.map fun e => e.1.i 0) := by
  obtain ⟨he, hw⟩ := hr
  have hkey : ∀ x : Rw, vkey ms x = .int .i64 (x.i 0) := fun x => by unfold vkey; rw [hms]; rfl
  have hrd : ∀ e ∈ es, Go.WideElems.rd (H := Unit) P kt (fun _ => some (.nil, [])) (mkE ms e) = some (.int .i64 (e.1.i 0), .nil) := fun e h => by
    have h1 := hw e h
    simp only [okE, Bool.and_eq_true, hms] at h1
    have h2 : keyOf P kt (.int .i64 (e.1.i 0)) = some (.int .i64 (e.1.i 0)) := Go.Maps.keyOf_int_mk hkt (by
      have := h1.1
      simp only [okS] at this
      simp only [inK_iff, loK, hiK] at this
      simp only [Lit.wf, decide_eq_true_eq, Bool.and_eq_true]
      exact this)
    unfold mkE
    rw [hkey]
    exact Go.WideElems.rd_mk (val := vval ms e.1) (yv := (.nil, [])) h2 rfl
  have hsz : es'.size = es.length := by
    have := congrArg List.length he
    simpa using this
  refine ⟨.map ((es'.toList.map (Go.WideElems.rg P kt fun _ => some (.nil, []))).foldr DataW.insert []), ⟨es', clk, hb, ⟨by rw [hsz]; exact hl, ⟨?_, ?_, ?_⟩, ?_⟩, by rw [hsz]; exact Nat.le_refl _, rfl⟩, ?_, ?_⟩
  · intro x hx
    rw [he] at hx
    obtain ⟨e, h1, rfl⟩ := List.mem_map.1 hx
    exact ho e h1
  · rw [he, List.map_map]
    exact List.pairwise_map.2 hn
  · rw [he, List.map_map]
    refine List.pairwise_map.2 (hk.imp fun {a b} h => ?_)
    show vkey ms a.1 ≠ vkey ms b.1
    rw [hkey, hkey]
    intro e
    simp at e
    exact h e
  · intro x hx
    rw [he] at hx
    obtain ⟨e, h1, rfl⟩ := List.mem_map.1 hx
    exact ⟨_, hrd e h1⟩
  · show List.length _ = _
    rw [(Go.WideShapes.sorted_perm _).length_eq, List.length_map]; simp [hsz]
  · show (List.map _ _).Perm _
    refine ((Go.WideShapes.sorted_perm _).map _).trans ?_
    rw [he, List.map_map, List.map_map]
    refine List.Perm.of_eq (List.map_congr_left fun e h => ?_)
    show intOf (Go.WideElems.rg P kt (fun _ => some (.nil, [])) (mkE ms e)).1 = _
    rw [Go.WideElems.rg_of (hrd e h)]; rfl
end Go.Tb
namespace Go.Tb.W
open Go Go.Proofs
variable {I : Interp O}
def srt (l : List Int) : List Int := l.mergeSort (fun x y => decide (x ≤ y))
theorem a_ids {m w q rc wt fr : Int} {ak : Bool} {es : List (Rw × Nat)} {clk : Nat} (hk : es.Pairwise (fun x y => x.1.i 0 ≠ y.1.i 0)) (hn : es.Pairwise (fun x y => x.2 ≠ y.2)) (ho : ∀ e ∈ es, e.2 < clk) (hl : es.length ≤ 1000) :
    ACall I P 20 [.ptr 0 0] (Tr.ofList 0 [cO m w q 1 rc wt fr ak, mO es clk] .leaf) (fun v lh => (es = [] ∧ v = .nils ∧ lh = Tr.ofList 0 [cO m w q 1 rc wt fr ak, mO es clk] .leaf) ∨
      (es ≠ [] ∧ ∃ c room, v = .sl 2 0 es.length c ∧ lh = (Tr.ofList 0 [cO m w q 1 rc wt fr ak, mO es clk] .leaf).set 2 (some (nO ((srt (es.map fun e => e.1.i 0)).map iR) room)))) := by
  refine ⟨callable (fn := Try.f20) (by kernel_rfl) (by kernel_rfl) (by kernel_rfl), fun ρ fp W args' hs hd => ?_⟩
  cases hd with
  | cons h t =>
  cases t
  cases h with
  | ptr o hρ =>
  rename_i b0 z
  obtain ⟨b, z', arr, h1, h2, h3, h4, h5, h6⟩ := hs.ok 0 _ rfl
  rw [hρ] at h1
  cases h1
  obtain ⟨bm, es', m1, m2, m3, m4⟩ := hs.ok 1 _ rfl
  obtain ⟨x, hx, dx⟩ := h6 3 _ rfl
  cases dx with
  | map hρ1 =>
  rw [m1] at hρ1
  cases hρ1
  obtain ⟨D0, hown, hsz, hperm⟩ := keys_map (P := P) (kt := 3) rfl (by kernel_rfl) m3 m4 hk hn ho (by omega)
  have hc : W.cell? ⟨b0, z + 3, none⟩ = some (.map (some bm)) := by
    unfold World.cell?
    simp only [h3]
    exact hx
  have hcall := Go.Proofs.Try.ids b0 z bm es.length D0 _ W hc hown (by rw [hsz]; show _ ≤ 9223372036854775807; omega) (by rw [hsz]; omega)
  refine hcall.mono ?_
  rintro e W' ⟨v, ss, rfl, hp, hrow, hnil, hb⟩
  have hss := hp.trans hperm
  have hlen : ss.length = es.length := by have := hss.length_eq; simpa using this
  have hold : ∀ x, x < W.heap.size → W'.heap[x]? = W.heap[x]? := fun x hx => hb.block x hx
  have hrg : ∀ x ∈ ss, inK .i64 x = true := fun x hx => by
    obtain ⟨e, he, rfl⟩ := List.mem_map.1 (hss.mem_iff.1 hx)
    have := m4.2 e he
    simp only [okE, Bool.and_eq_true] at this
    exact this.1
  have hsrt : ss.mergeSort (fun x y => decide (x ≤ y)) = srt (es.map fun e => e.1.i 0) := mergeSort_of_perm_i hss
  rcases hrow.2 with ⟨rfl, hz⟩ | ⟨g, cap, cur, rfl, hg1, hg2, hg3, hg4, hg5, hg6⟩
  · have : es = [] := List.eq_nil_of_length_eq_zero (by omega)
    refine ⟨.nils, _, ρ, fp, _, .inl ⟨this, rfl, rfl⟩, rfl, .nils, ⟨fun n o hn => (hs.ok n o hn).mono (Ext.refl _) (fun b ob hob h => (hold b (Array.getElem?_eq_some_iff.1 h).1).trans h) (fun x hx => hold x (hs.lt hx)), hs.dom, hs.dis, fun b ob hob => ⟨(hold b (Array.getElem?_eq_some_iff.1 (hs.fz b ob hob).1).1).trans (hs.fz b ob hob).1, (hs.fz b ob hob).2⟩⟩, ⟨hb.os, hb.tape, hb.output, hb.size, fun x hx _ => hold x hx, fun n x hx => .inl ⟨n, hx⟩, Ext.refl _⟩⟩
  · have hne : es ≠ [] := fun e => by
      subst e
      have : ss = [] := List.eq_nil_of_length_eq_zero hlen
      have := hnil.2 this
      cases this
    obtain ⟨hsn, hext⟩ := hs.new (w' := W') (n := 2) (b := g) (z := 0) (bs := [g]) rfl (o := nO ((srt (es.map fun e => e.1.i 0)).map iR) cap) rfl hold (by simp; exact hg1) (by
      refine ⟨g, 0, cur, by simp, rfl, hg2, by rw [hg5]; omega, ?_, ?_⟩
      · rw [List.length_map, ← hsrt, List.length_mergeSort]; simp; omega
      · intro i v hv
        have hi : encL [.i .i64] ((srt (es.map fun e => e.1.i 0)).map iR) = (srt (es.map fun e => e.1.i 0)).map (AV.int .i64) := by
          unfold encL
          rw [List.flatMap_map]
          induction srt (es.map fun e => e.1.i 0) with
          | nil => rfl
          | cons a l ih => rw [List.flatMap_cons, ih]; rfl
        rw [hi, List.getElem?_map] at hv
        cases hj : (srt (es.map fun e => e.1.i 0))[i]? with
        | none => rw [hj] at hv; cases hv
        | some y =>
          rw [hj] at hv
          cases hv
          refine ⟨.int .i64 y, ?_, .int _ _ (hrg y ?_)⟩
          · have h7 : (cur.toList.take (ss.length * 1))[i]? = some (.int .i64 y) := by
              rw [hg6, hsrt, List.getElem?_map, hj]; rfl
            rw [List.getElem?_take] at h7
            split at h7
            · simpa using h7
            · cases h7
          · have := List.mem_of_getElem? hj
            rw [← hsrt] at this
            exact (List.mergeSort_perm ..).mem_iff.1 this)
    refine ⟨.sl 2 0 es.length cap, _, _, _, _, .inr ⟨hne, cap, cap, rfl, rfl⟩, rfl, ?_, hsn, ?_⟩
    · rw [hlen]
      have := Den.sl (ρ := fun m => if m = 2 then some (g, 0) else ρ m) (n := 2) (b := g) (z := 0) 0 es.length cap (by simp) (by omega) hg4
      exact this
    · refine ⟨hb.os, hb.tape, hb.output, hb.size, fun x hx _ => hold x hx, fun n x hx => ?_, hext⟩
      by_cases e : n = 2
      · simp [e] at hx; exact .inr (by omega)
      · simp [e] at hx; exact .inl ⟨n, hx⟩
end Go.Tb.W
