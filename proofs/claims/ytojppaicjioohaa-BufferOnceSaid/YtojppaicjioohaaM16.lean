/- Functions that are handed one block of plain values by its address, or that make one; arrays as arguments. -/
import Derived.Test.YtojppaicjioohaaM15
set_option linter.all false
set_option linter.constructorNameAsVariable false
namespace Go.Tb
open Go Go.RowKit
variable {O : Type} {P : Program} {I : Interp O}
mutual
theorem rn_cl (ι : Nat → Nat) : ∀ (v : AV), cl v = true → rn ι v = v
  | .bool _, _ => rfl
  | .int _ _, _ => rfl
  | .str _, _ => rfl
  | .ptr _ _, h => by simp [cl] at h
  | .ep _ _ _ _ _, h => by simp [cl] at h
  | .nilp, _ => rfl
  | .sl _ _ _ _, h => by simp [cl] at h
  | .nils, _ => rfl
  | .map _, h => by simp [cl] at h
  | .nilm, _ => rfl
  | .chan _, h => by simp [cl] at h
  | .pv _ _ _ _, _ => rfl
  | .nilc, _ => rfl
  | .fn f a b, h => by simp only [cl, Bool.and_eq_true] at h; simp only [rn]; rw [rns_cls ι a h.1, rns_cls ι b h.2]
  | .nilf, _ => rfl
  | .iface t v, h => by simp only [cl] at h; simp only [rn]; rw [rn_cl ι v h]
  | .nili, _ => rfl
  | .agg l, h => by simp only [cl] at h; simp only [rn]; rw [rns_cls ι l h]
  | .tup l, h => by simp only [cl] at h; simp only [rn]; rw [rns_cls ι l h]
theorem rns_cls (ι : Nat → Nat) : ∀ (l : List AV), cls l = true → rns ι l = l
  | [], _ => rfl
  | v :: l, h => by simp only [cls, Bool.and_eq_true] at h; simp only [rns]; rw [rn_cl ι v h.1, rns_cls ι l h.2]
end
mutual
theorem nm_cl (d : Nat → Bool) : ∀ (v : AV), cl v = true → nm d v = true
  | .bool _, _ => rfl
  | .int _ _, _ => rfl
  | .str _, _ => rfl
  | .ptr _ _, h => by simp [cl] at h
  | .ep _ _ _ _ _, h => by simp [cl] at h
  | .nilp, _ => rfl
  | .sl _ _ _ _, h => by simp [cl] at h
  | .nils, _ => rfl
  | .map _, h => by simp [cl] at h
  | .nilm, _ => rfl
  | .chan _, h => by simp [cl] at h
  | .pv _ _ _ _, _ => rfl
  | .nilc, _ => rfl
  | .fn f a b, h => by simp only [cl, Bool.and_eq_true] at h; simp only [nm]; rw [nms_cls d a h.1, nms_cls d b h.2]; rfl
  | .nilf, _ => rfl
  | .iface t v, h => by simp only [cl] at h; simp only [nm]; rw [nm_cl d v h]
  | .nili, _ => rfl
  | .agg l, h => by simp only [cl] at h; simp only [nm]; rw [nms_cls d l h]
  | .tup l, h => by simp only [cl] at h; simp only [nm]; rw [nms_cls d l h]
theorem nms_cls (d : Nat → Bool) : ∀ (l : List AV), cls l = true → nms d l = true
  | [], _ => rfl
  | v :: l, h => by simp only [cls, Bool.and_eq_true] at h; simp only [nms]; rw [nm_cl d v h.1, nms_cls d l h.2]; rfl
end
theorem uniq1 {n : Nat} (h : Nat.blt n 16777215 = true) : uniq (pairs 0 [n]) = true := by simp [pairs, uniq, h, lk, lkr]
theorem pι1 (n : Nat) : pι (pairs 0 [n]) 0 = n := rfl
/-- 'hcall' where what the body leaves is told first, and what the caller makes of it behind. -/
theorem hcallK (hmix : P.follows .mixedOrders = true) {Γ : Gam O} (hΓ : GOk I P Γ) {f : FuncId} {fn : Func} (hf : P.funcs[f]? = some fn) (hname : (fn.name == "runtime.NumGoroutine") = false) (hb : fn.body.isSome = true)
    (gs : List Nat) (os : List (AO O)) (largs : List AV) {hp : Tr (AO O)} {K : AV → Tr (AO O) → Prop} (Kb : AV → Tr (AO O) → Prop)
    (hn : Nat.blt largs.length 16777215 = true) (hu0 : uniq (pairs 0 gs) = true) (hlen : Nat.blt os.length 16777215 = true) (hheld : held hp (pι (pairs 0 gs)) gs os) (hno : nmOs (pd (pairs 0 gs)) os = true) (hna : nms (pd (pairs 0 gs)) largs = true)
    (h : rgs largs = true → RgOs os → abody I P Γ (adraw P Γ) os.length fn largs (Tr.ofList 0 os .leaf) os.length (fun v lh _ => Kb v lh))
    (hk : ∀ v lh, Kb v lh → ∃ news mods, Back hp gs lh v news mods K) : ACall I P f (rns (pι (pairs 0 gs)) largs) hp K := by
  refine lift_h gs os largs hu0 hlen hheld hno hna (ACall.of_rg (callable hf hname hb) fun hr => ⟨callable hf hname hb, fun ρ fp w args' hs hd => ?_⟩)
  have hro : RgOs os := RgOs_of fun i o ho => okO_rg (hs.ok i o (ofList_mem (blt_iff.1 hlen) ho))
  have hm : ∀ n, os.length ≤ n → (Tr.ofList 0 os .leaf).get n = none := fun n hn => by
    cases hg : (Tr.ofList 0 os .leaf).get n with
    | none => rfl
    | some o => have := ofList_get0 (blt_iff.1 hlen) hg; have := (List.getElem?_eq_some_iff.1 this).1; omega
  refine ((body_call hΓ (adraw_ok hmix hΓ) hf (callable hf hname hb) hm hn (h hr hro)).2 ρ fp w args' hs hd).mono fun e w' hh => ?_
  obtain ⟨v, hp', ρ', fp', x, ⟨nx', hk'⟩, r⟩ := hh
  exact ⟨v, hp', ρ', fp', x, hk _ _ hk', r⟩
/-- A function that is handed one block of plain values, by its address, and plain values. -/
theorem hcall1 (hmix : P.follows .mixedOrders = true) {Γ : Gam O} (hΓ : GOk I P Γ) {f : FuncId} {fn : Func} (hf : P.funcs[f]? = some fn) (hname : (fn.name == "runtime.NumGoroutine") = false) (hb : fn.body.isSome = true)
    {n : Nat} {t : TypeId} {l : List AV} {room : Nat} {as : List AV} {hp : Tr (AO O)} {nx : Nat} {K : AV → Tr (AO O) → Nat → Prop} (hn : Nat.blt (as.length + 1) 16777215 = true) (hnb : Nat.blt n 16777215 = true) (hg : hp.get n = some (.cells t l room)) (hl : cls l = true) (ha : cls as = true)
    (h : rgs as = true → rgs l = true → abody I P Γ (adraw P Γ) 1 fn (.ptr 0 0 :: as) (Tr.ofList 0 [.cells t l room] .leaf) 1 (fun v lh _ => cl v = true ∧ ((lh.get 0 = some (.cells t l room) ∧ K v hp nx) ∨ ∃ l', lh.get 0 = some (.cells t l' room) ∧ cls l' = true ∧ K v (hp.set n (some (.cells t l' room))) nx))) :
    ACall I P f (.ptr n 0 :: as) hp (fun v hp' => ∃ nx', K v hp' nx') := by
  have e : (AV.ptr n 0 :: as) = rns (pι (pairs 0 [n])) (.ptr 0 0 :: as) := by simp only [rns, rn, pι1]; rw [rns_cls _ _ ha]
  rw [e]
  refine hcallK hmix hΓ hf hname hb [n] [.cells t l room] (.ptr 0 0 :: as) _ hn (uniq1 hnb) rfl ⟨by simp only [rnO]; rw [rns_cls _ _ hl]; exact hg, trivial⟩ ?_ ?_ (fun hr ho => h ?_ ho.1.1) ?_
  · simp only [nmOs, nmO]; rw [nms_cls _ _ hl]; rfl
  · simp only [nms, nm]; rw [nms_cls _ _ ha]; rfl
  · simp only [rgs, rg, Bool.and_eq_true] at hr; exact hr.2
  · rintro v lh ⟨hc, hk⟩
    rcases hk with ⟨h0, hk⟩ | ⟨l', h0, hl', hk⟩
    · refine ⟨[], [], uniq1 hnb, trivial, rfl, fun j g hj => (by cases hj), ⟨?_, trivial⟩, ?_, nm_cl _ _ hc, ⟨nx, ?_⟩⟩
      · simp only [sets]; rw [hg, h0]; simp only [Option.map_some, rnO]; rw [rns_cls _ _ hl]
      · simp only [List.append_nil, pairs, nmAll, h0, nmO]; rw [nms_cls _ _ hl]; rfl
      · rw [rn_cl _ _ hc]; exact hk
    · have e1 : (lh.get 0).map (rnO (pι (pairs 0 [n] ++ []))) = some (.cells t l' room) := by rw [h0]; simp only [Option.map_some, rnO]; rw [rns_cls _ _ hl']
      refine ⟨[], [(0, n)], uniq1 hnb, trivial, uniq1 hnb, fun j g hj => hj, ⟨?_, trivial⟩, ?_, nm_cl _ _ hc, ⟨nx, ?_⟩⟩
      · simp only [sets]; rw [e1, Tr.get_set_eq hnb]
      · simp only [List.append_nil, pairs, nmAll, h0, nmO]; rw [nms_cls _ _ hl']; rfl
      · rw [rn_cl _ _ hc]; simp only [sets]; rw [e1]; exact hk
/-- A function that is handed one block of plain values, in whatever way, and plain values. -/
theorem hcall1g (hmix : P.follows .mixedOrders = true) {Γ : Gam O} (hΓ : GOk I P Γ) {f : FuncId} {fn : Func} (hf : P.funcs[f]? = some fn) (hname : (fn.name == "runtime.NumGoroutine") = false) (hb : fn.body.isSome = true)
    (mk : Nat → AV) (hmk : ∀ ι : Nat → Nat, rn ι (mk 0) = mk (ι 0)) (hnm : ∀ d : Nat → Bool, d 0 = true → nm d (mk 0) = true) {n : Nat} {t : TypeId} {l : List AV} {room : Nat} {as : List AV} {hp : Tr (AO O)} {nx : Nat} {K : AV → Tr (AO O) → Nat → Prop} (hn : Nat.blt (as.length + 1) 16777215 = true) (hnb : Nat.blt n 16777215 = true) (hg : hp.get n = some (.cells t l room)) (hl : cls l = true) (ha : cls as = true)
    (h : rgs as = true → rgs l = true → abody I P Γ (adraw P Γ) 1 fn (mk 0 :: as) (Tr.ofList 0 [.cells t l room] .leaf) 1 (fun v lh _ => cl v = true ∧ ((lh.get 0 = some (.cells t l room) ∧ K v hp nx) ∨ ∃ l', lh.get 0 = some (.cells t l' room) ∧ cls l' = true ∧ K v (hp.set n (some (.cells t l' room))) nx))) :
    ACall I P f (mk n :: as) hp (fun v hp' => ∃ nx', K v hp' nx') := by
  have e : (mk n :: as) = rns (pι (pairs 0 [n])) (mk 0 :: as) := by simp only [rns]; rw [hmk, pι1, rns_cls _ _ ha]
  rw [e]
  refine hcallK hmix hΓ hf hname hb [n] [.cells t l room] (mk 0 :: as) _ hn (uniq1 hnb) rfl ⟨by simp only [rnO]; rw [rns_cls _ _ hl]; exact hg, trivial⟩ ?_ ?_ (fun hr ho => h ?_ ho.1.1) ?_
  · simp only [nmOs, nmO]; rw [nms_cls _ _ hl]; rfl
  · simp only [nms]; rw [nms_cls _ _ ha, hnm _ rfl]; rfl
  · simp only [rgs, rg, Bool.and_eq_true] at hr; exact hr.2
  · rintro v lh ⟨hc, hk⟩
    rcases hk with ⟨h0, hk⟩ | ⟨l', h0, hl', hk⟩
    · refine ⟨[], [], uniq1 hnb, trivial, rfl, fun j g hj => (by cases hj), ⟨?_, trivial⟩, ?_, nm_cl _ _ hc, ⟨nx, ?_⟩⟩
      · simp only [sets]; rw [hg, h0]; simp only [Option.map_some, rnO]; rw [rns_cls _ _ hl]
      · simp only [List.append_nil, pairs, nmAll, h0, nmO]; rw [nms_cls _ _ hl]; rfl
      · rw [rn_cl _ _ hc]; exact hk
    · have e1 : (lh.get 0).map (rnO (pι (pairs 0 [n] ++ []))) = some (.cells t l' room) := by rw [h0]; simp only [Option.map_some, rnO]; rw [rns_cls _ _ hl']
      refine ⟨[], [(0, n)], uniq1 hnb, trivial, uniq1 hnb, fun j g hj => hj, ⟨?_, trivial⟩, ?_, nm_cl _ _ hc, ⟨nx, ?_⟩⟩
      · simp only [sets]; rw [e1, Tr.get_set_eq hnb]
      · simp only [List.append_nil, pairs, nmAll, h0, nmO]; rw [nms_cls _ _ hl']; rfl
      · rw [rn_cl _ _ hc]; simp only [sets]; rw [e1]; exact hk
/-- A function that is handed plain values, and makes one block of plain values. -/
theorem hcallN (hmix : P.follows .mixedOrders = true) {Γ : Gam O} (hΓ : GOk I P Γ) {f : FuncId} {fn : Func} (hf : P.funcs[f]? = some fn) (hname : (fn.name == "runtime.NumGoroutine") = false) (hb : fn.body.isSome = true)
    {as : List AV} {hp : Tr (AO O)} {nx : Nat} {K : AV → Tr (AO O) → Nat → Prop} (hn : Nat.blt as.length 16777215 = true) (hnb : Nat.blt nx 16777215 = true) (hg : hp.get nx = none) (ha : cls as = true) (mk : AV → AV)
    (h : rgs as = true → abody I P Γ (adraw P Γ) 0 fn as .leaf 0 (fun v lh _ => (cl v = true ∧ K v hp nx) ∨ ∃ j t l' room, v = mk (.ptr j 0) ∧ lh.get j = some (.cells t l' room) ∧ cls l' = true ∧ K (mk (.ptr nx 0)) (hp.set nx (some (.cells t l' room))) (nx + 1)))
    (hmk : ∀ (ι : Nat → Nat) j, rn ι (mk (.ptr j 0)) = mk (.ptr (ι j) 0)) (hmk' : ∀ (d : Nat → Bool) j, d j = true → nm d (mk (.ptr j 0)) = true) :
    ACall I P f as hp (fun v hp' => ∃ nx', K v hp' nx') := by
  have e : as = rns (pι (pairs 0 [])) as := (rns_cls _ _ ha).symm
  rw [e]
  refine hcallK hmix hΓ hf hname hb [] [] as _ hn rfl rfl trivial rfl (nms_cls _ _ ha) (fun hr ho => h hr) ?_
  intro v lh hk
  rcases hk with ⟨hc, hk⟩ | ⟨j, t, l', room, rfl, h0, hl', hk⟩
  · exact ⟨[], [], rfl, trivial, rfl, fun j g hj => (by cases hj), trivial, rfl, nm_cl _ _ hc, ⟨nx, by rw [rn_cl _ _ hc]; exact hk⟩⟩
  · have hι : pι (pairs 0 [] ++ [(j, nx)]) j = nx := by simp [pι, pairs, lk]
    have hd : pd (pairs 0 [] ++ [(j, nx)]) j = true := by simp [pd, pairs, lk]
    have e1 : (lh.get j).map (rnO (pι (pairs 0 [] ++ [(j, nx)]))) = some (.cells t l' room) := by rw [h0]; simp only [Option.map_some, rnO]; rw [rns_cls _ _ hl']
    refine ⟨[(j, nx)], [(j, nx)], ?_, ⟨hg, trivial⟩, ?_, fun i g hj => hj, ⟨?_, trivial⟩, ?_, hmk' _ _ hd, ⟨nx + 1, ?_⟩⟩
    · simp [pairs, uniq, hnb, lk, lkr]
    · simp [uniq, hnb, lk, lkr]
    · simp only [sets]; rw [e1, Tr.get_set_eq hnb]
    · simp only [pairs, List.nil_append, nmAll, h0, nmO]; rw [nms_cls _ _ hl']; rfl
    · rw [hmk, hι]; simp only [sets]; rw [e1]; exact hk

/-! ### Arrays as arguments -/
def cyc (l : List Sh) (n : Nat) : List (Option Sh) := (List.range n).map fun i => l[i % l.length]?
theorem open_arr {W : World} {r : Reach} {base : Nat} {t : TypeId} {v : Value} {n : Nat} {u : TypeId} {ts : List TypeId} {shs L : List Sh} (ht : P.underlying t = some (.array n u)) (hts : P.cellTypes P.depth t = some ts)
    (hsh : shTs P ts = some shs) (hL : cyc shs (P.cellsOf t) = L.map some) (h : Value.okWide P W r base t v) : ∃ x : Rw, ∀ ρ : Rho, Den ρ (.agg (encR x 0 L)) v := by
  unfold Value.okWide at h
  rw [ht] at h
  obtain ⟨cs, rfl, hsz, ts', hts', _, hall⟩ := h
  rw [hts] at hts'; cases hts'
  obtain ⟨hl, hg⟩ := shTs_get hsh
  have hLl : L.length = P.cellsOf t := by have := congrArg List.length hL; simpa [cyc] using this.symm
  refine ⟨rwOf cs.toList, fun ρ => ?_⟩
  have key : Dens ρ (encR (rwOf cs.toList) 0 L) cs.toList := by
    refine Dens.of (by rw [encR_length, hLl, ← hsz]; simp) fun i u hu => ?_
    rw [encR_get] at hu
    have hi : i < cs.size := by
      cases hs : L[i]? with
      | none => rw [hs] at hu; simp at hu
      | some s => have := (List.getElem?_eq_some_iff.1 hs).1; omega
    have hv : cs.toList[i]? = some cs[i] := by simp [hi]
    obtain ⟨t', ht', hc⟩ := hall i cs[i] (by simp [hi])
    obtain ⟨s, hs, hst⟩ := hg _ t' ht'
    have hLi : L[i]? = some s := by
      have h1 : (cyc shs (P.cellsOf t))[i]? = some (some s) := by
        rw [hl] at hs
        simp [cyc, show i < P.cellsOf t by omega, hs]
      rw [hL] at h1
      simp at h1
      exact h1
    rw [hLi] at hu; simp at hu
    refine ⟨cs[i], hv, ?_⟩
    rw [← hu]
    simpa using cell_den hst hc hv ρ
  simpa using Den.agg key
end Go.Tb
