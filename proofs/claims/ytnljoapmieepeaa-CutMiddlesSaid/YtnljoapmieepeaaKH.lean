/- Claims: a map's keys in order, told by the library's contracts; whose claims have what is agreed on. -/
import Derived.Test.YtnljoapmieepeaaSP
import Derived.Shelf.SlIterI.Nil
import Derived.Shelf.SortM.Plain
import Derived.Shelf.SortM.SortNone
import Derived.Test.YtnljoapmieepeaaKF
set_option linter.all false
set_option maxRecDepth 100000
set_option maxHeartbeats 1000000
namespace Go.Proofs
open Go.RowKit Go.Maps Go.Sort Go.Shelf
theorem Try.sortsA (m : Nat) : AnyZI.SortsIn Try.prog Try.sortedA_ren Fence.wide m :=
  ⟨fun blk off cap ss W hH hblk hsz => callsIn_wide.2 (AnyM.slices_Sort_int Try.sortA blk off cap ss W hH hblk hsz),
   fun p cap W => callsIn_wide.2 (AnyM.slices_Sort_int_none Try.sortA p cap W)⟩
theorem Try.keysIs (mb : Option Nat) (W : World) : Calls Try.prog 18 #[.map mb] W fun e w' => e = .returned (.func (.func 24) #[] #[.pointer (some ⟨W.heap.size, 0, none⟩)]) ∧ w' = W.alloc (.cells #[.map mb] 43) :=
  (callsIn_wide (n := 5)).1 (AnyZI.keys_in Try.keysA Fence.wide 5 trivial rfl mb W)
theorem Try.sortedIs {H : Type} (bx b nn : Nat) (D0 : DataW H) (R : Value → Option (DataW H × List MemPlace)) (w : World) (hc : w.cell? ⟨bx, 0, none⟩ = some (.map (some b))) (hbx : bx < w.heap.size) (hown : w.ownsMap Try.prog 3 R b nn D0) (hmax : Maps.size D0 ≤ maxLen) (hbytes : Maps.size D0 * 8 ≤ 140737488355328) :
    Calls Try.prog 17 #[.func (.func 24) #[] #[.pointer (some ⟨bx, 0, none⟩)]] w fun e w' => ∃ (v : Value) (ss : List Int), e = .returned v ∧ ss.Perm (intKeys D0) ∧
      w'.ownsRow w.heap.size 3 1 v ss.length ((ss.mergeSort (fun x y => decide (x ≤ y))).map encZ) ∧ (v = .slice none 0 0 ↔ ss = []) ∧ Below w.heap.size w w' := by
  refine (callsIn_wide (n := 6)).1 ?_
  have hseq : SeqGives Fence.wide 3 Try.prog 24 #[.pointer (some ⟨bx, 0, none⟩)] encZ (fun ss => ss.Perm (intKeys D0)) (Maps.size D0) w :=
    AnyZI.keys_gives (ρ := Try.keysA_ren) { Try.keysA with } Fence.wide _ trivial rfl (by omega) bx b nn D0 _ hbx hc hown
  exact AnyZI.sorted_in Try.sortedA Fence.wide 6 trivial trivial trivial trivial rfl (by omega) (Try.sortsA _) (enters_of Try.func23 (by kernel_rfl) rfl) 24 #[.pointer (some ⟨bx, 0, none⟩)] trivial (enters_of Try.func24 (by kernel_rfl) rfl) _ _ hmax hbytes _ hseq
end Go.Proofs
namespace Go.Tb
open Go Go.Maps
/-- A map with whole numbers as keys is one that the library's contracts know. -/
theorem keys_map {P : Program} {ms : MSh} {kt : TypeId} (hms : ms.kt = .i .i64) (hkt : P.underlying kt = some (.int .i64)) {w : World} {b clk : Nat} {es : List (Rw × Nat)} {es' : Array MapEntry} (hb : w.heap[b]? = some (.map es' clk)) (hr : MapRel ms es es'.toList)
    (hk : es.Pairwise (fun x y => x.1.i 0 ≠ y.1.i 0)) (hn : es.Pairwise (fun x y => x.2 ≠ y.2)) (ho : ∀ e ∈ es, e.2 < clk) (hl : es.length ≤ 9223372036854775807) :
    ∃ D0 : DataW Unit, w.ownsMap P kt (fun _ => some (.nil, [])) b es.length D0 ∧ Maps.size D0 = es.length ∧ (intKeys D0).Perm (es.map fun e => e.1.i 0) := by
  obtain ⟨he, hw⟩ := hr
  have hkey : ∀ x : Rw, vkey ms x = .int .i64 (x.i 0) := fun x => by unfold vkey; rw [hms]; rfl
  have hrd : ∀ e ∈ es, Go.WideElems.rd (H := Unit) P kt (fun _ => some (.nil, [])) (mkE ms e) = some (.int .i64 (e.1.i 0), .nil) := fun e h => by
    have h1 := hw e h
    simp only [okE, Bool.and_eq_true, hms] at h1
    have h2 : keyOf P kt (.int .i64 (e.1.i 0)) = some (.int .i64 (e.1.i 0)) := Go.Maps.keyOf_int_mk hkt (by
      have := h1.1
      simp only [okS] at this
      simp only [inK_iff, loK, hiK] at this
      simp only [Lit.wf, decide_eq_true_eq, Bool.and_eq_true]
      exact this)
    unfold mkE
    rw [hkey]
    exact Go.WideElems.rd_mk (val := vval ms e.1) (yv := (.nil, [])) h2 rfl
  have hsz : es'.size = es.length := by
    have := congrArg List.length he
    simpa using this
  refine ⟨.map ((es'.toList.map (Go.WideElems.rg P kt fun _ => some (.nil, []))).foldr DataW.insert []), ⟨es', clk, hb, ⟨by rw [hsz]; exact hl, ⟨?_, ?_, ?_⟩, ?_⟩, by rw [hsz]; exact Nat.le_refl _, rfl⟩, ?_, ?_⟩
  · intro x hx
    rw [he] at hx
    obtain ⟨e, h1, rfl⟩ := List.mem_map.1 hx
    exact ho e h1
  · rw [he, List.map_map]
    exact List.pairwise_map.2 hn
  · rw [he, List.map_map]
    refine List.pairwise_map.2 (hk.imp fun {a b} h => ?_)
    show vkey ms a.1 ≠ vkey ms b.1
    rw [hkey, hkey]
    intro e
    simp at e
    exact h e
  · intro x hx
    rw [he] at hx
    obtain ⟨e, h1, rfl⟩ := List.mem_map.1 hx
    exact ⟨_, hrd e h1⟩
  · show List.length _ = _
    rw [(Go.WideShapes.sorted_perm _).length_eq, List.length_map]; simp [hsz]
  · show (List.map _ _).Perm _
    refine ((Go.WideShapes.sorted_perm _).map _).trans ?_
    rw [he, List.map_map, List.map_map]
    refine List.Perm.of_eq (List.map_congr_left fun e h => ?_)
    show intOf (Go.WideElems.rg P kt (fun _ => some (.nil, [])) (mkE ms e)).1 = _
    rw [Go.WideElems.rg_of (hrd e h)]; rfl
end Go.Tb
namespace Go.Tb.W
open Go Go.Proofs Go.Maps
variable {I : Interp O}
theorem insJ_perm (x : Int) : ∀ l, (insJ x l).Perm (x :: l)
  | [] => List.Perm.refl _
  | y :: l => by
    unfold insJ; split
    · exact List.Perm.refl _
    · exact ((insJ_perm x l).cons y).trans (List.Perm.swap x y l)
theorem srtJ_perm : ∀ l, (srtJ l).Perm l
  | [] => List.Perm.refl _
  | x :: l => (insJ_perm x _).trans ((srtJ_perm l).cons x)
theorem insJ_so (x : Int) : ∀ {l : List Int}, l.Pairwise (· ≤ ·) → (insJ x l).Pairwise (· ≤ ·)
  | [], _ => by simp [insJ]
  | y :: l, h => by
    obtain ⟨h1, h2⟩ := List.pairwise_cons.1 h
    unfold insJ; split
    · rename_i hxy
      exact List.pairwise_cons.2 ⟨fun z hz => by
        rcases List.mem_cons.1 hz with rfl | hz
        · exact hxy
        · exact Int.le_trans hxy (h1 z hz), h⟩
    · rename_i hxy
      refine List.pairwise_cons.2 ⟨fun z hz => ?_, insJ_so x h2⟩
      rcases List.mem_cons.1 ((insJ_perm x l).mem_iff.1 hz) with rfl | hz
      · omega
      · exact h1 z hz
theorem srtJ_so : ∀ l, (srtJ l).Pairwise (· ≤ ·)
  | [] => .nil
  | x :: l => insJ_so x (srtJ_so l)
theorem so_uniq {a b : List Int} (ha : a.Pairwise (· ≤ ·)) (hb : b.Pairwise (· ≤ ·)) (h : a.Perm b) : a = b :=
  List.Perm.eq_of_pairwise (fun x y _ _ h1 h2 => Int.le_antisymm h1 h2) ha hb h
theorem merge_srtJ {ss l : List Int} (h : ss.Perm l) : ss.mergeSort (fun x y => decide (x ≤ y)) = srtJ l := by
  refine so_uniq ?_ (srtJ_so l) ((List.mergeSort_perm ..).trans (h.trans (srtJ_perm l).symm))
  exact (List.pairwise_mergeSort (le := fun x y : Int => decide (x ≤ y)) (fun a b c => by simp; omega) (fun a b => by simp; omega) ss).imp (fun h => by simpa using h)
def pK (es : List (Rw × Nat)) (lo hi k : Int) : Bool := decide ((mrow (.int .i64 k) es).i 2 ≤ lo) && decide ((mrow (.int .i64 k) es).i 3 ≥ hi)
theorem mrow_mem {es : List (Rw × Nat)} (hk : es.Pairwise (fun x y => x.1.i 0 ≠ y.1.i 0)) {e : Rw × Nat} (he : e ∈ es) : mrow (.int .i64 (e.1.i 0)) es = e.1 := by
  unfold mrow
  cases h : mfind (.int .i64 (e.1.i 0)) es with
  | none => exact absurd rfl (mfind_none h e he)
  | some a =>
    obtain ⟨h1, h2⟩ := mfind_some h
    have : a = e := by
      induction es with
      | nil => cases he
      | cons b l ih =>
        obtain ⟨p1, p2⟩ := List.pairwise_cons.1 hk
        rcases List.mem_cons.1 h1 with rfl | h1 <;> rcases List.mem_cons.1 he with rfl | he
        · rfl
        · exact absurd h2 (p1 e he)
        · exact absurd h2.symm (p1 a (by assumption))
        · refine ih p2 he ?_ h1
          simp only [mfind] at h
          split at h
          · rename_i hb
            have hb : b.1.i 0 = e.1.i 0 := by simpa [isK] using hb
            exact absurd hb (p1 e he)
          · exact h
    rw [this]
theorem true_filter {es : List (Rw × Nat)} (hk : es.Pairwise (fun x y => x.1.i 0 ≠ y.1.i 0)) (lo hi : Int) :
    (srtJ (keyL es)).filter (pK es lo hi) = srtJ ((es.filter (fun e => decide (e.1.i 2 ≤ lo) && decide (e.1.i 3 ≥ hi))).map (fun e => e.1.i 0)) := by
  refine so_uniq ((srtJ_so _).filter _) (srtJ_so _) ((((srtJ_perm _).filter _).trans ?_).trans (srtJ_perm _).symm)
  unfold keyL
  rw [List.filter_map]
  refine List.Perm.of_eq (congrArg _ (List.filter_congr fun e he => ?_))
  show pK es lo hi (e.1.i 0) = _
  unfold pK
  rw [mrow_mem hk he]
theorem k_keys : ∀ (args : List AV) (hp : Tr (AO O)) (nx : Nat) (K : AV → Tr (AO O) → Nat → Prop), c_keys args hp nx K → ACall I P 18 args hp (fun v hp' => ∃ nx', K v hp' nx') := by
  intro args hp nx K h
  unfold c_keys at h; split at h
  · rename_i n
    split at h
    · rename_i hnb hfr
      refine ⟨callable (fn := Try.f18) (by kernel_rfl) (by kernel_rfl) (by kernel_rfl), fun ρ fp W args' hs hd => ?_⟩
      cases hd with
      | cons hv ht =>
      cases ht
      cases hv with
      | map hρ =>
      rename_i bm z
      refine (Go.Proofs.Try.keysIs (some bm) W).mono ?_
      rintro e W' ⟨rfl, rfl⟩
      have hold : ∀ x, x < W.heap.size → (W.alloc (.cells #[.map (some bm)] 43)).heap[x]? = W.heap[x]? := fun x hx => Go.Tb.heap_alloc_old W _ hx
      have hnm : n ≠ nx := fun e => by subst e; rw [(hs.dom _ hfr).1] at hρ; cases hρ
      obtain ⟨hsn, hext⟩ := hs.new (w' := W.alloc (.cells #[.map (some bm)] 43)) (n := nx) (b := W.heap.size) (z := 0) (bs := [W.heap.size]) hnb (o := kO n) hfr hold (by simp) ⟨W.heap.size, .map (some bm), by simp, rfl, Go.Tb.heap_alloc_new W _, .map (z := z) (by simp [hnm]; exact hρ)⟩
      refine ⟨_, _, _, _, _, ⟨_, h⟩, rfl, ?_, hsn, ⟨rfl, rfl, rfl, by simp, fun x hx _ => hold x hx, fun m x hx => ?_, hext⟩⟩
      · have hpt : Den (fun m => if m = nx then some (W.heap.size, 0) else ρ m) (.ptr nx 0) (.pointer (some ⟨W.heap.size, 0 + 0, none⟩)) := .ptr (n := nx) (b := W.heap.size) (z := 0) 0 (by simp)
        have := Den.fn (.func 24) (a := []) (b := [.ptr nx 0]) .nil (.cons hpt .nil)
        simpa using this
      · by_cases e : m = nx
        · simp [e] at hx; exact .inr (by omega)
        · simp [e] at hx; exact .inl ⟨m, hx⟩
    · exact h.elim
  · exact h.elim
theorem k_sorted : ∀ (args : List AV) (hp : Tr (AO O)) (nx : Nat) (K : AV → Tr (AO O) → Nat → Prop), c_sorted args hp nx K → ACall I P 17 args hp (fun v hp' => ∃ nx', K v hp' nx') := by
  intro args hp nx K h
  unfold c_sorted at h; split at h
  · rename_i m
    split at h
    · rename_i n hgm
      split at h
      · rename_i es clk hgn hnb hfr
        obtain ⟨ok, hk1, hk2⟩ := h
        refine ⟨callable (fn := Try.f17) (by kernel_rfl) (by kernel_rfl) (by kernel_rfl), fun ρ fp W args' hs hd => ?_⟩
        cases hd with
        | cons hv ht =>
        cases ht
        cases hv with
        | fn _ ha hb =>
        cases ha
        cases hb with
        | cons hq ht =>
        cases ht
        cases hq with
        | ptr o hρ =>
        rename_i bx z
        obtain ⟨b1, x, k1, k2, k3, k4⟩ := hs.ok m _ hgm
        rw [k1] at hρ
        cases hρ
        cases k4 with
        | map hρm =>
        rename_i bq zq
        obtain ⟨bm, es', m1, m2, m3, m4⟩ := hs.ok n _ hgn
        rw [m1] at hρm
        cases hρm
        have hln := ok.ln
        obtain ⟨D0, hown, hsz, hperm⟩ := keys_map (P := P) (kt := 3) rfl (by kernel_rfl) m3 m4 ok.key ok.brn ok.old (by omega)
        have hc : W.cell? ⟨bx, 0, none⟩ = some (.map (some bq)) := by
          unfold World.cell?
          simp only [k3]
          rfl
        refine (Go.Proofs.Try.sortedIs bx bq es.length D0 _ W hc (Array.getElem?_eq_some_iff.1 k3).1 hown (by rw [hsz]; show _ ≤ 9223372036854775807; omega) (by rw [hsz]; omega)).mono ?_
        rintro e W' ⟨v, ss, rfl, hp', hrow, hnil, hb⟩
        have hss := hp'.trans hperm
        have hlen : ss.length = es.length := by have := hss.length_eq; simpa using this
        have hold : ∀ x, x < W.heap.size → W'.heap[x]? = W.heap[x]? := fun x hx => hb.block x hx
        have hrg : ∀ x ∈ ss, inK .i64 x = true := fun x hx => by
          obtain ⟨e, he, rfl⟩ := List.mem_map.1 (hss.mem_iff.1 hx)
          have := m4.2 e he
          simp only [okE, Bool.and_eq_true] at this
          exact this.1
        have hsrt : ss.mergeSort (fun x y => decide (x ≤ y)) = srtJ (keyL es) := merge_srtJ hss
        rcases hrow.2 with ⟨rfl, hz⟩ | ⟨g, cap, cur, rfl, hg1, hg2, hg3, hg4, hg5, hg6⟩
        · have : es = [] := List.eq_nil_of_length_eq_zero (by omega)
          refine ⟨.nils, hp, ρ, fp, _, ⟨nx, hk1 this⟩, rfl, .nils, ⟨fun n o hn => (hs.ok n o hn).mono (Ext.refl _) (fun b ob hob h => (hold b (Array.getElem?_eq_some_iff.1 h).1).trans h) (fun x hx => hold x (hs.lt hx)), hs.dom, hs.dis, fun b ob hob => ⟨(hold b (Array.getElem?_eq_some_iff.1 (hs.fz b ob hob).1).1).trans (hs.fz b ob hob).1, (hs.fz b ob hob).2⟩⟩, ⟨hb.os, hb.tape, hb.output, hb.size, fun x hx _ => hold x hx, fun n x hx => .inl ⟨n, hx⟩, Ext.refl _⟩⟩
        · have hne : es ≠ [] := fun e => by
            subst e
            have : ss = [] := List.eq_nil_of_length_eq_zero hlen
            have := hnil.2 this
            cases this
          obtain ⟨hsn, hext⟩ := hs.new (w' := W') (n := nx) (b := g) (z := 0) (bs := [g]) hnb (o := nO ((srtJ (keyL es)).map iR) cap) hfr hold (by simp; exact hg1) (by
            refine ⟨g, 0, cur, by simp, rfl, hg2, by rw [hg5]; omega, ?_, ?_⟩
            · rw [List.length_map, ← hsrt, List.length_mergeSort]; simp; omega
            · intro i v hv
              have hi : encL [.i .i64] ((srtJ (keyL es)).map iR) = (srtJ (keyL es)).map (AV.int .i64) := by
                unfold encL
                rw [List.flatMap_map]
                induction srtJ (keyL es) with
                | nil => rfl
                | cons a l ih => rw [List.flatMap_cons, ih]; rfl
              rw [hi, List.getElem?_map] at hv
              cases hj : (srtJ (keyL es))[i]? with
              | none => rw [hj] at hv; cases hv
              | some y =>
                rw [hj] at hv
                cases hv
                refine ⟨.int .i64 y, ?_, .int _ _ (hrg y ?_)⟩
                · have h7 : (cur.toList.take (ss.length * 1))[i]? = some (.int .i64 y) := by
                    rw [hg6, hsrt, List.getElem?_map, hj]; rfl
                  rw [List.getElem?_take] at h7
                  split at h7
                  · simpa using h7
                  · cases h7
                · have := List.mem_of_getElem? hj
                  rw [← hsrt] at this
                  exact (List.mergeSort_perm ..).mem_iff.1 this)
          refine ⟨.sl nx 0 es.length cap, _, _, _, _, ⟨_, hk2 hne cap cap⟩, rfl, ?_, hsn, ?_⟩
          · rw [hlen]
            have := Den.sl (ρ := fun m => if m = nx then some (g, 0) else ρ m) (n := nx) (b := g) (z := 0) 0 es.length cap (by simp) (by omega) hg4
            exact this
          · refine ⟨hb.os, hb.tape, hb.output, hb.size, fun x hx _ => hold x hx, fun n x hx => ?_, hext⟩
            by_cases e : n = nx
            · simp [e] at hx; exact .inr (by omega)
            · simp [e] at hx; exact .inl ⟨n, hx⟩
      · exact h.elim
    · exact h.elim
  · exact h.elim
theorem gA7 : GOk I P (Gm A7) := Gm.consH (Gm.consH (Gm.consH (Gm.consH Gm.nil k_sorted) k_keys) k_last) k_agreeC
end Go.Tb.W
