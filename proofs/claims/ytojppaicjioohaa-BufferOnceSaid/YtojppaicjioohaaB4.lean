/- Buffers: the methods, proved of the package. -/
import Derived.Test.YtojppaicjioohaaB3
set_option linter.all false
set_option maxRecDepth 100000
namespace Go.Tb
open Go
theorem own_bodyF {O : Type} {P : Program} {I : Interp O} {p p' : Pk O} (hI : I.R = p.R) (hmix : P.follows .mixedOrders = true) {Γ : Gam O} (hΓ : GOk I P Γ) {f : FuncId} {fn : Func} (hf : P.funcs[f]? = some fn) (hname : (fn.name == "runtime.NumGoroutine") = false) (hbd : fn.body.isSome = true)
    {hp : Tr (AO O)} {g : Nat} {s : O} (hF : ∀ pb fp w, p.R s pb fp w → p'.R s pb fp w) (hg : asO p (hp.get g) = some s) (hb : Nat.blt g 16777215 = true) (largs : List AV) (hn : nms (fun n => Nat.beq n 0) largs = true) (hla : Nat.blt largs.length 16777215 = true) {K : AV → Tr (AO O) → Nat → Prop}
    (h : ∀ os, p'.H s os → rgs largs = true → RgOs os → abody I P Γ (adraw P Γ) os.length fn largs (Tr.ofList 0 os .leaf) os.length (fun v lh _ => OwnPost p hp g (fun v hp' => ∃ nx', K v hp' nx') v lh)) :
    ACall I P f (rns (fun _ => g) largs) hp (fun v hp' => ∃ nx', K v hp' nx') := by
  refine own_callF hI hF hg hb largs hn (callable hf hname hbd) fun os hH hpl hlen => ?_
  refine ACall.of_rg (callable hf hname hbd) fun hr => ⟨callable hf hname hbd, fun ρ fp w args' hs hd => ?_⟩
  have hro : RgOs os := RgOs_of fun i o ho => okO_rg (hs.ok i o (ofList_mem hlen ho))
  have hm : ∀ n, os.length ≤ n → (Tr.ofList 0 os .leaf).get n = none := fun n hn => by
    cases hg : (Tr.ofList 0 os .leaf).get n with
    | none => rfl
    | some o => have := ofList_get0 hlen hg; have := (List.getElem?_eq_some_iff.1 this).1; omega
  refine ((body_call hΓ (adraw_ok hmix hΓ) hf (callable hf hname hbd) hm hla (h os hH hr hro)).2 ρ fp w args' hs hd).mono fun e w' hh => ?_
  obtain ⟨v, hp', ρ', fp', x, ⟨nx', hk'⟩, r⟩ := hh
  exact ⟨v, hp', ρ', fp', x, hk', r⟩
theorem own_newb {O : Type} {P : Program} {I : Interp O} {p : Pk O} (hI : I.R = p.R) (hmix : P.follows .mixedOrders = true) {Γ : Gam O} (hΓ : GOk I P Γ) {f : FuncId} {fn : Func} (hf : P.funcs[f]? = some fn) (hname : (fn.name == "runtime.NumGoroutine") = false) (hbd : fn.body.isSome = true)
    {hp : Tr (AO O)} {args : List AV} (hn : Nat.blt args.length 16777215 = true) (ha : cls args = true) {K : AV → Tr (AO O) → Nat → Prop}
    (h : rgs args = true → abody I P Γ (adraw P Γ) 0 fn args .leaf 0 (fun v lh _ => (cl v = true ∧ ∃ nx', K v hp nx') ∨ ∃ j js s' os' nx t l r, lh.get j = some (.cells t l r) ∧ clos (j :: js) lh = some os' ∧ js.length < 16777214 ∧ p.H s' os' ∧ nm (fun n => Nat.beq n j) v = true ∧ hp.get nx = none ∧ Nat.blt nx 16777215 = true ∧ ∃ nx', K (rn (fun _ => nx) v) (hp.set nx (some (.own s'))) nx')) :
    ACall I P f args hp (fun v hp' => ∃ nx', K v hp' nx') := by
  refine own_new hI ha (ACall.of_rg (callable hf hname hbd) fun hr => ⟨callable hf hname hbd, fun ρ fp w args' hs hd => ?_⟩)
  refine ((body_call hΓ (adraw_ok hmix hΓ) hf (callable hf hname hbd) (fun n _ => rfl) hn (h hr)).2 ρ fp w args' hs hd).mono fun e w' hh => ?_
  obtain ⟨v, hp', ρ', fp', x, ⟨nx', hk'⟩, r⟩ := hh
  exact ⟨v, hp', ρ', fp', x, hk', r⟩
end Go.Tb
namespace Go.Tb.W
open Go Go.Proofs
variable {I : Interp O}
theorem mix : P.follows .mixedOrders = true := by kernel_rfl
theorem bs_t {b : Bool} {K : Bool → Prop} (hb : b = true) (h : K true) : bsplit b K := bsplit_both (fun _ => h) (fun hx => by rw [hb] at hx; cases hx)
theorem bs_f {b : Bool} {K : Bool → Prop} (hb : b = false) (h : K false) : bsplit b K := bsplit_both (fun hx => by rw [hb] at hx; cases hx) (fun _ => h)
theorem w_id {n : Int} (h : -9223372036854775808 ≤ n) (k : n ≤ 9223372036854775807) : IntKind.i64.wrap n = n := by rw [w_i64]; omega
theorem tri {X : Prop} (x : X) : (X ∧ X) ∧ X := ⟨⟨x, x⟩, x⟩
theorem kt3 : ktOk P 3 (Sh.i IntKind.i64) = true := by kernel_rfl
theorem isB_spec {hp : Tr (AO O)} {n : Nat} {K : Bf → Prop} (h : isB hp n K) : Nat.blt n 16777215 = true ∧ ∃ s, asO pk (hp.get n) = some s ∧ hp.get n = some (.own s) ∧ K s := by
  unfold isB at h
  split at h
  · rename_i s hb hg; exact ⟨hb, s, by rw [hg]; rfl, hg, h⟩
  · exact h.elim
theorem isK_row (x t : ByteArray) : isK (rowE x) (.str t) = decide (x = t) := by
  show (x == t) = _
  by_cases h : x = t
  · rw [decide_eq_true h]; exact (ba_beq x t).2 h
  · rw [decide_eq_false h]
    cases e : (x == t) with
    | false => rfl
    | true => exact absurd ((ba_beq x t).1 e) h
theorem ent_find (t : ByteArray) : ∀ (line : List ByteArray) (k : Nat), (hasT line t = true → ∃ j, mfind (.str t) ((line.zipIdx k).map fun p : ByteArray × Nat => (rowE p.1, p.2)) = some (rowE t, j)) ∧ (hasT line t = false → mfind (.str t) ((line.zipIdx k).map fun p : ByteArray × Nat => (rowE p.1, p.2)) = none ∧ ∀ c, mput (rowE t) (.str t) c ((line.zipIdx k).map fun p : ByteArray × Nat => (rowE p.1, p.2)) = ((line.zipIdx k).map fun p : ByteArray × Nat => (rowE p.1, p.2)) ++ [(rowE t, c)])
  | [], k => ⟨fun h => (by cases h), fun _ => ⟨rfl, fun _ => rfl⟩⟩
  | x :: line, k => by
    obtain ⟨h1, h2⟩ := ent_find t line (k + 1)
    have hk := isK_row x t
    refine ⟨fun h => ?_, fun h => ?_⟩
    · show ∃ j, (match isK (rowE x) (.str t) with | true => some (rowE x, k) | false => mfind (.str t) ((line.zipIdx (k + 1)).map fun p : ByteArray × Nat => (rowE p.1, p.2))) = some (rowE t, j)
      rw [hk]
      by_cases e : x = t
      · subst e; rw [decide_eq_true rfl]; exact ⟨k, rfl⟩
      · rw [decide_eq_false e]
        refine h1 ?_
        simpa [hasT, e] using h
    · have e : x ≠ t := fun e => by subst e; simp [hasT] at h
      obtain ⟨h3, h4⟩ := h2 (by simpa [hasT, e] using h)
      rw [decide_eq_false e] at hk
      refine ⟨?_, fun c => ?_⟩
      · show (match isK (rowE x) (.str t) with | true => some (rowE x, k) | false => mfind (.str t) ((line.zipIdx (k + 1)).map fun p : ByteArray × Nat => (rowE p.1, p.2))) = none
        rw [hk]; exact h3
      · show (match isK (rowE x) (.str t) with | true => (rowE t, k) :: ((line.zipIdx (k + 1)).map fun p : ByteArray × Nat => (rowE p.1, p.2)) | false => (rowE x, k) :: mput (rowE t) (.str t) c ((line.zipIdx (k + 1)).map fun p : ByteArray × Nat => (rowE p.1, p.2))) = _
        rw [hk, h4]; rfl
theorem ent_row (t : ByteArray) (line : List ByteArray) : (mrow (.str t) (entT line)).b 1 = hasT line t := by
  obtain ⟨h1, h2⟩ := ent_find t line 0
  unfold mrow entT
  cases e : hasT line t with
  | true =>
    obtain ⟨j, hj⟩ := h1 e
    rw [hj]; rfl
  | false =>
    rw [(h2 e).1]; rfl
theorem ent_put {t : ByteArray} {line : List ByteArray} (h : hasT line t = false) : mput (rowE t) (.str t) line.length (entT line) = entT (line ++ [t]) ∧ mclk (.str t) (entT line) line.length = (line ++ [t]).length := by
  obtain ⟨h1, h2⟩ := (ent_find t line 0).2 h
  refine ⟨?_, ?_⟩
  · show mput (rowE t) (.str t) line.length ((line.zipIdx 0).map fun p => (rowE p.1, p.2)) = _
    rw [h2]
    unfold entT
    rw [List.zipIdx_append, List.map_append]
    simp
  · unfold mclk
    show (match mfind (.str t) ((line.zipIdx 0).map fun p => (rowE p.1, p.2)) with | some _ => line.length | none => line.length + 1) = _
    rw [h1]; simp
theorem newH {e r : Int} (h : okB (newB e r)) : pk.H (newB e r) (unfL (newB e r) []) := ⟨h, .inl ⟨[], SOf.nil _, rfl⟩⟩
variable (hI : I.R = pk.R)
include hI
theorem k_new : ∀ (args : List AV) (hp : Tr (AO O)) (nx : Nat) (K : AV → Tr (AO O) → Nat → Prop), c_new args hp nx K → ACall I P 11 args hp (fun v hp' => ∃ nx', K v hp' nx') := by
  intro args hp nx K h
  unfold c_new at h; split at h
  · rename_i e r
    split at h
    · rename_i hnb hfr
      obtain ⟨h1, h2⟩ := h
      refine own_newb hI mix Gm.nil (fn := Try.f11) (by kernel_rfl) (by kernel_rfl) (by kernel_rfl) rfl rfl fun hr => (t_new I _ e r).mpr ?_
      have bad : (e < 1 ∨ 64 < e ∨ r < 1 ∨ 64 < r) → K (.tup [.nilp, .int .i64 1]) hp nx := fun hx => h1 (decide_eq_true hx)
      refine bsplit_both (fun a1 => .inl ⟨rfl, nx, bad ?_⟩) (fun a1 => bsplit_both (fun a2 => .inl ⟨rfl, nx, bad ?_⟩) (fun a2 => ?_))
      · have := of_decide_eq_true a1; split at this <;> omega
      · have := of_decide_eq_true a2; split at this <;> omega
      · have a1 := of_decide_eq_false a1; have a2 := of_decide_eq_false a2
        have hb : badB e r = false := decide_eq_false (by split at a1 <;> split at a2 <;> omega)
        have ho := okB_new hb
        exact .inr ⟨1, [0], newB e r, _, nx, _, _, _, rfl, rfl, by decide, newH ho, rfl, hfr, hnb, nx + 1, h2 hb ho⟩
    · exact h.elim
  · exact h.elim
theorem k_size : ∀ (args : List AV) (hp : Tr (AO O)) (nx : Nat) (K : AV → Tr (AO O) → Nat → Prop), c_size args hp nx K → ACall I P 23 args hp (fun v hp' => ∃ nx', K v hp' nx') := by
  intro args hp nx K h
  unfold c_size at h; split at h
  · rename_i n
    obtain ⟨hb, s, hg, _, h⟩ := isB_spec h
    refine own_bodyF hI mix Gm.nil (fn := Try.f23) (by kernel_rfl) (by kernel_rfl) (by kernel_rfl) (fun _ _ _ h => R_unf h) hg hb [.ptr 0 0] rfl rfl fun os hH hr ho => ?_
    obtain ⟨hok, hid, hS, rfl⟩ := hH
    exact (t_size I _ s.each s.room s.th.length s.dropped hid).mpr ⟨s, _, [1], rfl, by decide, ⟨hok, .inl ⟨hid, hS, rfl⟩⟩, .inl ⟨rfl, nx, h⟩⟩
  · exact h.elim
theorem k_dropped : ∀ (args : List AV) (hp : Tr (AO O)) (nx : Nat) (K : AV → Tr (AO O) → Nat → Prop), c_dropped args hp nx K → ACall I P 24 args hp (fun v hp' => ∃ nx', K v hp' nx') := by
  intro args hp nx K h
  unfold c_dropped at h; split at h
  · rename_i n
    obtain ⟨hb, s, hg, _, h⟩ := isB_spec h
    refine own_bodyF hI mix Gm.nil (fn := Try.f24) (by kernel_rfl) (by kernel_rfl) (by kernel_rfl) (fun _ _ _ h => R_unf h) hg hb [.ptr 0 0] rfl rfl fun os hH hr ho => ?_
    obtain ⟨hok, hid, hS, rfl⟩ := hH
    exact (t_dropped I _ s.each s.room s.th.length s.dropped hid).mpr ⟨s, _, [1], rfl, by decide, ⟨hok, .inl ⟨hid, hS, rfl⟩⟩, .inl ⟨rfl, nx, h⟩⟩
  · exact h.elim
theorem k_has : ∀ (args : List AV) (hp : Tr (AO O)) (nx : Nat) (K : AV → Tr (AO O) → Nat → Prop), c_has args hp nx K → ACall I P 25 args hp (fun v hp' => ∃ nx', K v hp' nx') := by
  intro args hp nx K h
  unfold c_has at h; split at h
  · rename_i n i t
    obtain ⟨hb, s, hg, _, h⟩ := isB_spec h
    refine own_bodyF hI mix Gm.nil (fn := Try.f25) (by kernel_rfl) (by kernel_rfl) (by kernel_rfl) (fun _ _ _ h => R_foc i h) hg hb [.ptr 0 0, .int .i64 i, .str t] rfl rfl fun os hH hr ho => ?_
    obtain ⟨hok, ⟨hi, hid, hS, rfl⟩ | ⟨hi, hid, hS, rfl⟩⟩ := hH
    · rw [hi] at h
      exact (t_hasA I _ s.each s.room s.th.length s.dropped i t hid).mpr (must_mk (by rw [kt3, hS.no hi]; rfl) ⟨s, _, [1], rfl, by decide, ⟨hok, .inl ⟨hid, hS, rfl⟩⟩, .inl ⟨rfl, nx, h⟩⟩)
    · refine (t_hasP I _ s.each s.room s.th.length s.dropped i t hid _ _ _ _).mpr (must_mk (by rw [kt3, decide_eq_true rfl]; rfl) ⟨s, _, [1, 2, 3], rfl, by decide, ⟨hok, .inr ⟨hid, i, hS, rfl⟩⟩, .inl ⟨rfl, nx, ?_⟩⟩)
      rw [ent_row]; exact h
  · exact h.elim
theorem k_put : ∀ (args : List AV) (hp : Tr (AO O)) (nx : Nat) (K : AV → Tr (AO O) → Nat → Prop), c_put args hp nx K → ACall I P 14 args hp (fun v hp' => ∃ nx', K v hp' nx') := by
  intro args hp nx K h
  unfold c_put at h; split at h
  · rename_i n i t
    obtain ⟨hb, s, hg, _, ⟨d0, d1⟩, h⟩ := isB_spec h
    have hw : IntKind.i64.wrap (s.dropped + 1) = s.dropped + 1 := w_id (by omega) (by omega)
    refine own_bodyF hI mix Gm.nil (fn := Try.f14) (by kernel_rfl) (by kernel_rfl) (by kernel_rfl) (fun _ _ _ h => R_foc i h) hg hb [.ptr 0 0, .int .i64 i, .str t] rfl rfl fun os hH hr ho => ?_
    have many : putC s i t = 4 → K (.int .i64 4) (nB hp n { s with dropped := s.dropped + 1 }) nx := fun e => by
      have : putS s i t = { s with dropped := s.dropped + 1 } := by unfold putS; rw [e]; rfl
      rw [e, this] at h; exact h
    have good : putC s i t = 0 → K (.int .i64 0) (nB hp n { s with th := s.th ++ [(i, t)] }) nx := fun e => by
      have : putS s i t = { s with th := s.th ++ [(i, t)] } := by unfold putS; rw [e]; rfl
      rw [e, this] at h; exact h
    have same : ∀ c, putC s i t = c → c ≠ 0 → c ≠ 4 → K (.int .i64 c) (nB hp n s) nx := fun c e h0 h4 => by
      have : putS s i t = s := by unfold putS; rw [e, if_neg h0, if_neg h4]
      rw [e, this] at h; exact h
    obtain ⟨hok, hH⟩ := hH
    have hsz : IntKind.i64.wrap ((s.th.length : Int) + 1) = ((s.th ++ [(i, t)]).length : Nat) := by
      have := hok.cnt2
      rw [w_id (by omega) (by omega)]; simp
    have he1 := hok.e1
    have he2 := hok.e2
    have okD : okB { s with dropped := s.dropped + 1 } := ⟨hok.e1, hok.e2, hok.r1, hok.r2, hok.nd, hok.ps, hok.ln, hok.ks⟩
    have okP : putC s i t = 0 → okB { s with th := s.th ++ [(i, t)] } := fun e => by
      have := hok.put i t
      have e2 : putS s i t = { s with th := s.th ++ [(i, t)] } := by unfold putS; rw [e]; rfl
      rw [e2] at this; exact this
    obtain ⟨hi, hid, hS, rfl⟩ | ⟨hi, hid, hS, rfl⟩ := hH
    · have hlen := hS.len
      have hks := hok.ks
      have hr2 := hok.r2
      refine (t_putA I _ s.each s.room s.th.length s.dropped i t hid).mpr (must_mk (by rw [kt3, hS.no hi]; rfl) (bsplit_both (fun a => ?_) (fun a => tri ⟨by omega, bsplit_both (fun c => ?_) (fun c => ⟨⟨by omega, by omega, ?_⟩, must_mk (by rw [kt3, hS.no hi]; rfl) (bsplit_both (fun e => ?_) (fun e => ?_))⟩)⟩)))
      · have a := of_decide_eq_true a
        have hc : putC s i t = 1 := by unfold putC; rw [if_pos a]
        exact ⟨s, _, [1], rfl, by decide, ⟨hok, .inl ⟨hid, hS, rfl⟩⟩, .inl ⟨rfl, nx, same 1 hc (by decide) (by decide)⟩⟩
      · have a := of_decide_eq_false a
        have c := eq_of_beq c
        have hc : putC s i t = 4 := by
          unfold putC
          rw [if_neg a, hi, if_neg (by simp [hasT]), if_pos (.inl ⟨rfl, by rw [← c, hlen]⟩)]
        rw [hw]
        exact ⟨{ s with dropped := s.dropped + 1 }, _, [1], rfl, by decide, ⟨okD, .inl ⟨hid, hS, rfl⟩⟩, .inl ⟨rfl, nx, many hc⟩⟩
      · have : (P.types[(9 : Nat)]).bytes = 16 := by kernel_rfl
        rw [this]; omega
      · have a := of_decide_eq_false a
        have c := ne_of_beq_false c
        have hc : putC s i t = 0 := by
          unfold putC
          rw [if_neg a, hi, if_neg (by simp [hasT]), if_neg (by simp; exact ⟨fun e => c (by rw [hlen]; exact e), by omega⟩)]
        rw [hsz]
        have hl : lineOf (s.th ++ [(i, t)]) i = [t] := by rw [line_snoc, if_pos rfl, hi]; rfl
        refine ⟨{ s with th := s.th ++ [(i, t)] }, _, [1, 3, 4], rfl, by decide, ⟨okP hc, .inr ⟨hid, i, hS.fresh hi, ?_⟩⟩, .inl ⟨rfl, nx, good hc⟩⟩
        show _ = [_, _, lineO s.each.toNat (lineOf (s.th ++ [(i, t)]) i), setT (lineOf (s.th ++ [(i, t)]) i)]
        rw [hl]; rfl
      · have : s.each.toNat = 0 := by
          cases hx : s.each.toNat with
          | zero => rfl
          | succ k => rw [hx] at e; cases e
        omega
    · refine (t_putP I _ s.each s.room s.th.length s.dropped i t hid _ _ _ _).mpr (must_mk (by rw [kt3, decide_eq_true rfl]; rfl) (bsplit_both (fun a => ?_) (fun a => bsplit_both (fun b => ?_) (fun b => tri (bsplit_both (fun c => ?_) (fun c => ?_))))))
      · have a := of_decide_eq_true a
        have hc : putC s i t = 1 := by unfold putC; rw [if_pos a]
        exact ⟨s, _, [1, 2, 3], rfl, by decide, ⟨hok, .inr ⟨hid, i, hS, rfl⟩⟩, .inl ⟨rfl, nx, same 1 hc (by decide) (by decide)⟩⟩
      · have a := of_decide_eq_false a
        rw [ent_row] at b
        have hc : putC s i t = 11 := by unfold putC; rw [if_neg a, if_pos b]
        exact ⟨s, _, [1, 2, 3], rfl, by decide, ⟨hok, .inr ⟨hid, i, hS, rfl⟩⟩, .inl ⟨rfl, nx, same 11 hc (by decide) (by decide)⟩⟩
      · have a := of_decide_eq_false a
        rw [ent_row] at b
        have c := blt_iff.1 c
        rw [List.length_map] at c
        have hc : putC s i t = 0 := by
          unfold putC
          rw [if_neg a, b, if_neg (by simp), if_neg (by simp [hi]; omega)]
        rw [hsz]
        have hl : lineOf (s.th ++ [(i, t)]) i = lineOf s.th i ++ [t] := by rw [line_snoc, if_pos rfl]
        obtain ⟨p1, p2⟩ := ent_put b
        have p1 : mput (rwA [(.str (t)), (.bool true)]) (.str t) (lineOf s.th i).length (entT (lineOf s.th i)) = _ := p1
        rw [p1, p2]
        refine ⟨{ s with th := s.th ++ [(i, t)] }, _, [1, 2, 3], rfl, by decide, ⟨okP hc, .inr ⟨hid, i, hS.grow, ?_⟩⟩, .inl ⟨rfl, nx, good hc⟩⟩
        show _ = [_, _, lineO s.each.toNat (lineOf (s.th ++ [(i, t)]) i), setT (lineOf (s.th ++ [(i, t)]) i)]
        rw [hl]
        show _ = [_, _, chO s.each.toNat ((lineOf s.th i ++ [t]).map rowT), _]
        rw [List.map_append]; rfl
      · have a := of_decide_eq_false a
        rw [ent_row] at b
        have c : ¬ ((lineOf s.th i).map rowT).length < s.each.toNat := fun h => by rw [blt_iff.2 h] at c; cases c
        rw [List.length_map] at c
        have hc : putC s i t = 4 := by
          unfold putC
          rw [if_neg a, b, if_neg (by simp), if_pos (.inr (by omega))]
        rw [hw]
        exact ⟨{ s with dropped := s.dropped + 1 }, _, [1, 2, 3], rfl, by decide, ⟨okD, .inr ⟨hid, i, hS, rfl⟩⟩, .inl ⟨rfl, nx, many hc⟩⟩
  · exact h.elim
end Go.Tb.W
