/- The intervals that have some, told by the library's sort of a map's keys. -/
import Derived.Test.YtojppaicjioohaaSP
import Derived.Test.YtojppaicjioohaaB4
import Derived.Shelf.SlIterI.Nil
import Derived.Shelf.SortM.Plain
import Derived.Shelf.SortM.SortNone
set_option linter.all false
namespace Go.Proofs
open Go.RowKit Go.Maps Go.Sort Go.Shelf
theorem Try.sortsA (m : Nat) : AnyZI.SortsIn Try.prog Try.sortedA_ren Fence.wide m :=
  ⟨fun blk off cap ss W hH hblk hsz => callsIn_wide.2 (AnyM.slices_Sort_int Try.sortA blk off cap ss W hH hblk hsz),
   fun p cap W => callsIn_wide.2 (AnyM.slices_Sort_int_none Try.sortA p cap W)⟩

set_option maxHeartbeats 1000000 in
/-- The keys of the map in a buffer, sorted. -/
theorem Try.ivs {H : Type} (blk z b nn : Nat) (D0 : DataW H) (R : Value → Option (DataW H × List MemPlace)) (w : World) (hc : w.cell? ⟨blk, z + 2, none⟩ = some (.map (some b))) (hown : w.ownsMap Try.prog 3 R b nn D0) (hmax : Maps.size D0 ≤ maxLen) (hbytes : Maps.size D0 * 8 ≤ 140737488355328) :
    Calls Try.prog 21 #[.pointer (some ⟨blk, z, none⟩)] w fun e w' => ∃ (v : Value) (ss : List Int), e = .returned v ∧ ss.Perm (intKeys D0) ∧
      w'.ownsRow w.heap.size 3 1 v ss.length ((ss.mergeSort (fun x y => decide (x ≤ y))).map encZ) ∧ (v = .slice none 0 0 ↔ ss = []) ∧ Below w.heap.size w w' := by
  refine (callsIn_wide (n := 6)).1 ?_
  have hbl := hown.lt
  have hseq : SeqGives Fence.wide 2 Try.prog 32 #[.pointer (some ⟨w.heap.size, 0, none⟩)] encZ (fun ss => ss.Perm (intKeys D0)) (Maps.size D0) (w.alloc (.cells #[.map (some b)] 58)) :=
    AnyZI.keys_gives (ρ := Try.keysA_ren) { Try.keysA with } Fence.wide _ trivial rfl (by omega) w.heap.size b nn D0 _ (by simp) (by simp) (by
      obtain ⟨es, clock, hb, Ft, hs, hD⟩ := hown
      exact ⟨es, clock, (Below.heap_alloc _ _ b hbl).trans hb, Ft, hs, hD⟩)
  have cK : ∀ mb W, CallsIn Fence.wide 5 Try.prog 29 #[.map mb] W fun e w' => e = .returned (.func (.func 32) #[] #[.pointer (some ⟨W.heap.size, 0, none⟩)]) ∧ w' = W.alloc (.cells #[.map mb] 58) := fun mb W => AnyZI.keys_in Try.keysA Fence.wide 5 trivial rfl mb W
  have cS := AnyZI.sorted_in Try.sortedA Fence.wide 5 trivial trivial trivial trivial rfl (by omega) (Try.sortsA _) (enters_of Try.func31 (by kernel_rfl) rfl) 32 #[.pointer (some ⟨w.heap.size, 0, none⟩)] trivial (enters_of Try.func32 (by kernel_rfl) rfl) _ _ hmax hbytes _ hseq
  change CallsIn _ _ Try.prog 28 _ _ _ at cS
  have hfK : Fence.wide.fn 29 := trivial
  have hfS : Fence.wide.fn 28 := trivial
  refine callsIn_of_wp Try.func21 rfl trivial ?_ rfl
  simp only [Try.ntmps21, List.size_toArray, List.length_cons, List.length_nil, Nat.reduceAdd, Nat.reduceSub, Array.replicate_succ, Array.replicate_zero, List.push_toArray, List.append_toArray, List.nil_append, List.cons_append]
  gi_wp2_with (first
    | (gi_at_call 29; refine (cK _ _).mono ?_; rintro e w' ⟨rfl, rfl⟩)
    | (gi_at_call 28; refine cS.mono ?_; rintro e w' ⟨v, ss, rfl, hS, hrow, hnil, hb⟩))
  go_ret
  exact ⟨v, ss, rfl, hS, ownsRow_base_a hrow (by simp), hnil, ((Below.refl _ w).alloc (Nat.le_refl _) _).trans (hb.mono (by simp))⟩
end Go.Proofs
namespace Go.Tb
open Go Go.Maps
/-- A map with whole numbers as keys is one that the library's contracts know. -/
theorem keys_pm {P : Program} {kt : TypeId} (hkt : P.underlying kt = some (.int .i64)) {w : World} {b clk : Nat} {es' : Array MapEntry} (hb : w.heap[b]? = some (.map es' clk)) (hr : intKeyed es'.toList) (hin : ∀ e ∈ es'.toList, inK .i64 (ekey e) = true)
    (hk : (es'.toList.map ekey).Nodup) (hn : es'.toList.Pairwise (fun x y => x.born ≠ y.born)) (ho : ∀ e ∈ es'.toList, e.born < clk) (hl : es'.size ≤ 9223372036854775807) :
    ∃ D0 : DataW Unit, w.ownsMap P kt (fun _ => some (.nil, [])) b es'.size D0 ∧ Maps.size D0 = es'.size ∧ (intKeys D0).Perm (es'.toList.map ekey) := by
  have hrd : ∀ e ∈ es'.toList, Go.WideElems.rd (H := Unit) P kt (fun _ => some (.nil, [])) e = some (.int .i64 (ekey e), .nil) := fun e h => by
    have h1 := hin e h
    have h2 : keyOf P kt (.int .i64 (ekey e)) = some (.int .i64 (ekey e)) := Go.Maps.keyOf_int_mk hkt (by
      simp only [inK_iff, loK, hiK] at h1
      simp only [Lit.wf, decide_eq_true_eq, Bool.and_eq_true]
      exact h1)
    have h3 : e = ⟨.int .i64 (ekey e), e.val, e.born⟩ := (show e = ⟨e.key, e.val, e.born⟩ from rfl).trans (by rw [hr e h])
    have h4 : Go.WideElems.rd (H := Unit) P kt (fun _ => some (.nil, [])) ⟨.int .i64 (ekey e), e.val, e.born⟩ = some (.int .i64 (ekey e), .nil) := Go.WideElems.rd_mk (val := e.val) (yv := (.nil, [])) h2 rfl
    exact (congrArg (Go.WideElems.rd (H := Unit) P kt (fun _ => some (.nil, []))) h3).trans h4
  refine ⟨.map ((es'.toList.map (Go.WideElems.rg P kt fun _ => some (.nil, []))).foldr DataW.insert []), ⟨es', clk, hb, ⟨hl, ⟨?_, ?_, ?_⟩, ?_⟩, Nat.le_refl _, rfl⟩, ?_, ?_⟩
  · exact ho
  · exact List.pairwise_map.2 hn
  · refine List.pairwise_map.2 ?_
    have hk' := List.pairwise_map.1 hk
    refine List.Pairwise.imp_of_mem (fun {x y} hx hy h e => ?_) hk'
    rw [hr x hx, hr y hy] at e
    simp at e
    exact h e
  · intro x hx
    exact ⟨_, hrd x hx⟩
  · show List.length _ = _
    rw [(Go.WideShapes.sorted_perm _).length_eq, List.length_map]; simp
  · show (List.map _ _).Perm _
    refine ((Go.WideShapes.sorted_perm _).map _).trans ?_
    rw [List.map_map]
    refine List.Perm.of_eq (List.map_congr_left fun e h => ?_)
    show intOf (Go.WideElems.rg P kt (fun _ => some (.nil, [])) e).1 = _
    rw [Go.WideElems.rg_of (hrd e h)]; rfl
end Go.Tb
namespace Go.Tb.W
open Go Go.Proofs
variable {I : Interp O}
theorem slots_in {w : World} : ∀ {es : List MapEntry} {ss : List Slot} {fp : List Nat}, SlotsAt w es ss fp → ∀ e ∈ es, inK .i64 (ekey e) = true
  | [], [], _, _, e, he => by cases he
  | e :: es, s :: ss, fp, h, x, hx => by
    obtain ⟨f, g, ⟨c, m, s', r, h1, h2, _⟩, h3, rfl⟩ := h
    rcases List.mem_cons.1 hx with rfl | hx
    · unfold ekey; rw [h1]; exact h2
    · exact slots_in h3 x hx
  | [], _ :: _, _, h, _, _ => h.elim
  | _ :: _, [], _, h, _, _ => h.elim
theorem a_ivs {s : Bf} {hid : List Slot} (hS : SOf s.th s.each hid) (hok : okB s) :
    ACall I P 21 [.ptr 0 0] (Tr.ofList 0 (unfL s hid) .leaf) (fun v lh => (keysOf s.th = [] ∧ v = .nils ∧ lh = Tr.ofList 0 (unfL s hid) .leaf) ∨
      (keysOf s.th ≠ [] ∧ ∃ c room, v = .sl 2 0 (keysOf s.th).length c ∧ lh = (Tr.ofList 0 (unfL s hid) .leaf).set 2 (some (nO ((srt (keysOf s.th)).map rowI) room)))) := by
  refine ⟨callable (fn := Try.f21) (by kernel_rfl) (by kernel_rfl) (by kernel_rfl), fun ρ fp W args' hs hd => ?_⟩
  cases hd with
  | cons h t =>
  cases t
  cases h with
  | ptr o hρ =>
  rename_i b0 z
  obtain ⟨b, z', arr, h1, h2, h3, h4, h5, h6⟩ := hs.ok 0 _ (ofList_mem l2 rfl)
  rw [hρ] at h1
  cases h1
  obtain ⟨bm, es', clk, esF, esH, fpH, A⟩ := pm_at hs (ofList_mem l2 rfl : (Tr.ofList 0 (unfL s hid) (.leaf : Tr (AO O))).get 1 = some (.pm hid none))
  have hF : esF = [] := A.foc
  subst hF
  have hpm := A.pm
  simp only [List.nil_append] at hpm
  obtain ⟨x, hx, dx⟩ := h6 2 _ rfl
  cases dx with
  | map hρ1 =>
  rw [A.ρn] at hρ1
  cases hρ1
  have hsize := A.len
  have hkl := hS.len
  have hks := hok.ks
  have hr2 := hok.r2
  simp only [List.length_nil, Nat.zero_add] at hsize
  have hkeys : (es'.toList.map ekey).Perm (keysOf s.th) := (hpm.map _).trans (by rw [A.hid.keyed.2]; exact hS.keys)
  obtain ⟨D0, hown, hsz, hperm⟩ := keys_pm (P := P) (kt := 3) (by kernel_rfl) A.hb A.keyed (fun e he => slots_in A.hid e (hpm.mem_iff.1 he)) A.kd A.bd A.old (by omega)
  have hc : W.cell? ⟨b0, z + 2, none⟩ = some (.map (some bm)) := by
    unfold World.cell?
    simp only [h3]
    exact hx
  have hcall := Go.Proofs.Try.ivs b0 z bm es'.size D0 _ W hc hown (by rw [hsz]; show _ ≤ 9223372036854775807; omega) (by rw [hsz]; omega)
  refine hcall.mono ?_
  rintro e W' ⟨v, ss, rfl, hp, hrow, hnil, hb⟩
  have hss := (hp.trans hperm).trans hkeys
  have hlen : ss.length = (keysOf s.th).length := hss.length_eq
  have hold : ∀ x, x < W.heap.size → W'.heap[x]? = W.heap[x]? := fun x hx => hb.block x hx
  have hrg : ∀ x ∈ ss, inK .i64 x = true := fun x hx => by
    obtain ⟨e, he, rfl⟩ := List.mem_map.1 (hkeys.mem_iff.2 (hss.mem_iff.1 hx))
    exact slots_in A.hid e (hpm.mem_iff.1 he)
  have hsrt : ss.mergeSort (fun x y => decide (x ≤ y)) = srt (keysOf s.th) := mergeSort_of_perm_i hss
  rcases hrow.2 with ⟨rfl, hz⟩ | ⟨g, cap, cur, rfl, hg1, hg2, hg3, hg4, hg5, hg6⟩
  · have : keysOf s.th = [] := List.eq_nil_of_length_eq_zero (by omega)
    refine ⟨.nils, _, ρ, fp, _, .inl ⟨this, rfl, rfl⟩, rfl, .nils, ⟨fun n o hn => (hs.ok n o hn).mono (Ext.refl _) (fun b ob hob h => (hold b (Array.getElem?_eq_some_iff.1 h).1).trans h) (fun x hx => hold x (hs.lt hx)), hs.dom, hs.dis, fun b ob hob => ⟨(hold b (Array.getElem?_eq_some_iff.1 (hs.fz b ob hob).1).1).trans (hs.fz b ob hob).1, (hs.fz b ob hob).2⟩⟩, ⟨hb.os, hb.tape, hb.output, hb.size, fun x hx _ => hold x hx, fun n x hx => .inl ⟨n, hx⟩, Ext.refl _⟩⟩
  · have hne : keysOf s.th ≠ [] := fun e => by
      have : ss = [] := List.eq_nil_of_length_eq_zero (by rw [hlen, e]; rfl)
      have := hnil.2 this
      cases this
    have hg0 : (Tr.ofList 0 (unfL s hid) (.leaf : Tr (AO O))).get 2 = none := rfl
    obtain ⟨hsn, hext⟩ := hs.new (w' := W') (n := 2) (b := g) (z := 0) (bs := [g]) rfl (o := nO ((srt (keysOf s.th)).map rowI) cap) hg0 hold (by simp; exact hg1) (by
      refine ⟨g, 0, cur, by simp, rfl, hg2, by rw [hg5]; omega, ?_, ?_⟩
      · rw [List.length_map, ← hsrt, List.length_mergeSort]; simp; omega
      · intro i v hv
        have hi : encL [.i .i64] ((srt (keysOf s.th)).map rowI) = (srt (keysOf s.th)).map (AV.int .i64) := by
          unfold encL
          rw [List.flatMap_map]
          induction srt (keysOf s.th) with
          | nil => rfl
          | cons a l ih => rw [List.flatMap_cons, ih]; rfl
        rw [hi, List.getElem?_map] at hv
        cases hj : (srt (keysOf s.th))[i]? with
        | none => rw [hj] at hv; cases hv
        | some y =>
          rw [hj] at hv
          cases hv
          refine ⟨.int .i64 y, ?_, .int _ _ (hrg y ?_)⟩
          · have h7 : (cur.toList.take (ss.length * 1))[i]? = some (.int .i64 y) := by
              rw [hg6, hsrt, List.getElem?_map, hj]; rfl
            rw [List.getElem?_take] at h7
            split at h7
            · simpa using h7
            · cases h7
          · have := List.mem_of_getElem? hj
            rw [← hsrt] at this
            exact (List.mergeSort_perm ..).mem_iff.1 this)
    refine ⟨.sl 2 0 (keysOf s.th).length cap, _, _, _, _, .inr ⟨hne, cap, cap, rfl, rfl⟩, rfl, ?_, hsn, ?_⟩
    · rw [hlen]
      have := Den.sl (ρ := fun m => if m = 2 then some (g, 0) else ρ m) (n := 2) (b := g) (z := 0) 0 (keysOf s.th).length cap (by simp) (by omega) hg4
      exact this
    · refine ⟨hb.os, hb.tape, hb.output, hb.size, fun x hx _ => hold x hx, fun n x hx => ?_, hext⟩
      by_cases e : n = 2
      · simp [e] at hx; exact .inr (by omega)
      · simp [e] at hx; exact .inl ⟨n, hx⟩
variable (hI : I.R = pk.R)
include hI
theorem k_ivs : ∀ (args : List AV) (hp : Tr (AO O)) (nx : Nat) (K : AV → Tr (AO O) → Nat → Prop), c_ivs args hp nx K → ACall I P 21 args hp (fun v hp' => ∃ nx', K v hp' nx') := by
  intro args hp nx K h
  unfold c_ivs at h; split at h
  · rename_i n
    obtain ⟨hb, s, hg, _, h⟩ := isB_spec h
    split at h
    · rename_i hnb hfr
      refine own_callF (p := pk) (p' := pkU) hI (fun _ _ _ h => R_unf h) hg hb [.ptr 0 0] rfl (callable (fn := Try.f21) (by kernel_rfl) (by kernel_rfl) (by kernel_rfl)) fun os hH hpl hlen => ?_
      obtain ⟨hok, hid, hS, rfl⟩ := hH
      obtain ⟨h1, h2⟩ := h hok
      refine (a_ivs hS hok).mono fun v lh hh => ?_
      rcases hh with ⟨he, rfl, rfl⟩ | ⟨he, c, room, rfl, rfl⟩
      · have ht : s.th = [] := by
          cases ht : s.th with
          | nil => rfl
          | cons p l =>
            have : p.1 ∈ keysOf s.th := mem_keys.2 ⟨p, by rw [ht]; exact List.mem_cons_self .., rfl⟩
            rw [he] at this; cases this
        exact ⟨s, _, [1], rfl, by decide, ⟨hok, .inl ⟨hid, hS, rfl⟩⟩, .inl ⟨rfl, nx, h1 ht⟩⟩
      · exact ⟨s, _, [1], rfl, by decide, ⟨hok, .inl ⟨hid, hS, rfl⟩⟩, .inr ⟨2, nx, _, rfl, rfl, rfl, rfl, hfr, hnb, nx + 1, h2 (List.length_pos_iff.2 he) c room⟩⟩
    · exact h.elim
  · exact h.elim
end Go.Tb.W
