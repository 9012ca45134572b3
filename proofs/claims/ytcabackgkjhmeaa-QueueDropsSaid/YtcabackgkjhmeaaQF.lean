/- Queues: methods, proved of the package. -/
import Derived.Test.YtcabackgkjhmeaaQE
set_option linter.all false
set_option maxRecDepth 100000
namespace Go.Tb
open Go
theorem own_body {O : Type} {P : Program} {I : Interp O} {p : Pk O} (hI : I.R = p.R) (hmix : P.follows .mixedOrders = true) {Γ : Gam O} (hΓ : GOk I P Γ) {f : FuncId} {fn : Func} (hf : P.funcs[f]? = some fn) (hname : (fn.name == "runtime.NumGoroutine") = false) (hbd : fn.body.isSome = true)
    {hp : Tr (AO O)} {g : Nat} {s : O} (hg : asO p (hp.get g) = some s) (hb : Nat.blt g 16777215 = true) (largs : List AV) (hn : nms (fun n => Nat.beq n 0) largs = true) (hla : Nat.blt largs.length 16777215 = true) {K : AV → Tr (AO O) → Nat → Prop}
    (h : ∀ os, p.H s os → rgs largs = true → RgOs os → abody I P Γ (adraw P Γ) os.length fn largs (Tr.ofList 0 os .leaf) os.length (fun v lh _ => OwnPost p hp g (fun v hp' => ∃ nx', K v hp' nx') v lh)) :
    ACall I P f (rns (fun _ => g) largs) hp (fun v hp' => ∃ nx', K v hp' nx') := by
  refine own_call hI hg hb largs hn (callable hf hname hbd) fun os hH hpl hlen => ?_
  refine ACall.of_rg (callable hf hname hbd) fun hr => ⟨callable hf hname hbd, fun ρ fp w args' hs hd => ?_⟩
  have hro : RgOs os := RgOs_of fun i o ho => okO_rg (hs.ok i o (ofList_mem hlen ho))
  have hm : ∀ n, os.length ≤ n → (Tr.ofList 0 os .leaf).get n = none := fun n hn => by
    cases hg : (Tr.ofList 0 os .leaf).get n with
    | none => rfl
    | some o => have := ofList_get0 hlen hg; have := (List.getElem?_eq_some_iff.1 this).1; omega
  refine ((body_call hΓ (adraw_ok hmix hΓ) hf (callable hf hname hbd) hm hla (h os hH hr hro)).2 ρ fp w args' hs hd).mono fun e w' hh => ?_
  obtain ⟨v, hp', ρ', fp', x, ⟨nx', hk'⟩, r⟩ := hh
  exact ⟨v, hp', ρ', fp', x, hk', r⟩
end Go.Tb
namespace Go.Tb.W
open Go Go.Proofs
abbrev IQ : Interp O := pkI pk
variable {I : Interp O} (hI : I.R = pk.R)
theorem s2_inv {l : List Rw} {sq : Int} {n c : Nat} {xs : List Rw} {room : Nat} (h : QInv l sq n c xs room) : so l := ⟨h.so, by rw [h.ln]; exact h.mx⟩
theorem asQ_spec {o : Option (AO O)} {l : List Rw} {sq : Int} (h : asQ o = some (l, sq)) : asO pk o = some (.q l sq) := by
  unfold asQ at h
  split at h
  · cases h; rfl
  · cases h; rfl
  · cases h
theorem isQ_spec {hp : Tr (AO O)} {n : Nat} {K : List Rw → Int → Prop} (h : isQ hp n K) : Nat.blt n 16777215 = true ∧ ∃ l sq, asO pk (hp.get n) = some (.q l sq) ∧ K l sq := by
  unfold isQ at h
  split at h
  · rename_i l sq hb hg; exact ⟨hb, l, sq, asQ_spec hg, h⟩
  · exact h.elim
theorem kl_len1 : ∀ (args : List AV) (hp : Tr (AO O)) (nx : Nat) (K : AV → Tr (AO O) → Nat → Prop), c_len1 args hp nx K → ACall I P 20 args hp (fun v hp' => ∃ nx', K v hp' nx') := by
  intro args hp nx K h
  unfold c_len1 at h; split at h
  · rename_i n
    split at h
    · rename_i m l c sq hg
      split at h
      · rename_i xs room hb hg2
        obtain ⟨hu, _⟩ := both_iff hb
        refine hcallK mix Gm.nil (fn := Try.f20) (by kernel_rfl) (by kernel_rfl) (by kernel_rfl) [n, m] [qO (.sl 1 0 l c) sq, eO xs room] [.ptr 0 0] (fun v lh => v = .int .i64 l ∧ lh.get 0 = some (qO (.sl 1 0 l c) sq) ∧ lh.get 1 = some (eO xs room)) rfl hu rfl ⟨hg, hg2, trivial⟩ rfl rfl (fun hr ho => (t_len1 I _ l c room xs sq).mpr ⟨rfl, rfl, rfl⟩) ?_
        rintro v lh ⟨rfl, h0, h1⟩
        refine ⟨[], [], hu, trivial, rfl, fun j g hj => (by cases hj), ⟨?_, ?_, trivial⟩, ?_, rfl, ⟨nx, h⟩⟩
        · show hp.get n = (lh.get 0).map _; rw [hg, h0]; rfl
        · show hp.get m = (lh.get 1).map _; rw [hg2, h1]; rfl
        · simp [pairs, nmAll, h0, h1, nmO]; rfl
      · exact h.elim
    · rename_i sq hg
      split at h
      · rename_i hb
        refine hcallK mix Gm.nil (fn := Try.f20) (by kernel_rfl) (by kernel_rfl) (by kernel_rfl) [n] [qO .nils sq] [.ptr 0 0] (fun v lh => v = .int .i64 0 ∧ lh.get 0 = some (qO .nils sq)) rfl (uniq1 hb) rfl ⟨hg, trivial⟩ rfl rfl (fun hr ho => (t_len10 I _ sq).mpr ⟨rfl, rfl⟩) ?_
        rintro v lh ⟨rfl, h0⟩
        refine ⟨[], [], uniq1 hb, trivial, rfl, fun j g hj => (by cases hj), ⟨?_, trivial⟩, ?_, rfl, ⟨nx, h⟩⟩
        · show hp.get n = (lh.get 0).map _; rw [hg, h0]; rfl
        · simp [pairs, nmAll, h0, nmO]; rfl
      · exact h.elim
    · exact h.elim
  · exact h.elim
theorem gA7 : GOk I P (Gm A7) := Gm.consH gA4 kl_len1
include hI
theorem k_qlen : ∀ (args : List AV) (hp : Tr (AO O)) (nx : Nat) (K : AV → Tr (AO O) → Nat → Prop), c_qlen args hp nx K → ACall I P 20 args hp (fun v hp' => ∃ nx', K v hp' nx') := by
  intro args hp nx K h
  unfold c_qlen at h; split at h
  · rename_i n
    obtain ⟨hb, l, sq, hg, h⟩ := isQ_spec h
    refine own_body hI mix Gm.nil (fn := Try.f20) (by kernel_rfl) (by kernel_rfl) (by kernel_rfl) hg hb [.ptr 0 0] rfl rfl fun os hH hr ho => ?_
    rcases hH with ⟨rfl, rfl⟩ | ⟨k, c, xs, room, rfl, inv⟩
    · exact (t_len10 I _ sq).mpr ⟨.q [] sq, _, [], rfl, by decide, .inl ⟨rfl, rfl⟩, .inl ⟨rfl, nx, h ⟨.nil, by decide⟩⟩⟩
    · rw [inv.ln] at h
      exact (t_len1 I _ k c room xs sq).mpr ⟨.q l sq, _, [1], rfl, by decide, .inr ⟨k, c, xs, room, rfl, inv⟩, .inl ⟨rfl, nx, h (s2_inv inv)⟩⟩
  · exact h.elim
theorem k_qput : ∀ (args : List AV) (hp : Tr (AO O)) (nx : Nat) (K : AV → Tr (AO O) → Nat → Prop), c_qput args hp nx K → ACall I P 10 args hp (fun v hp' => ∃ nx', K v hp' nx') := by
  intro args hp nx K h
  unfold c_qput at h; split at h
  · rename_i n a b s
    obtain ⟨hb, l, sq, hg, ⟨hsq, h1, h2⟩⟩ := isQ_spec h
    have e : IntKind.i64.wrap (sq + 1) = sq + 1 := by rw [w_i64]; omega
    refine own_body hI mix gA7 (fn := Try.f10) (by kernel_rfl) (by kernel_rfl) (by kernel_rfl) hg hb [.ptr 0 0, .agg [.int .i64 a, .int .i64 b, .str s]] rfl rfl fun os hH hr ho => ?_
    rcases hH with ⟨rfl, rfl⟩ | ⟨k, c, xs, room, rfl, inv⟩
    · refine (t_put0 I _ sq a b s).mpr fun c' q1 q2 => ⟨rfl, ?_⟩
      rw [e]
      exact ⟨.q (insQ [] (mkE a b s sq)) (sq + 1), _, [2], rfl, by decide, .inr ⟨1, c', _, c' * 4, rfl, QInv.first c'⟩, .inl ⟨rfl, nx, h2 (by decide)⟩⟩
    · refine (t_put I _ k c room xs sq a b s).mpr (bsplit_both (fun hx => ?_) (fun hx => ⟨⟨inv.len, inv.cap, by have := inv.mx; omega⟩, fun c' q1 q2 => ⟨rfl, ?_⟩⟩))
      · have hx := of_decide_eq_true hx
        exact ⟨.q l sq, _, [1], rfl, by decide, .inr ⟨k, c, xs, room, rfl, inv⟩, .inl ⟨rfl, nx, h1 (by rw [inv.ln]; omega)⟩⟩
      · have hx := of_decide_eq_false hx
        rw [e]
        exact ⟨.q (insQ l (mkE a b s sq)) (sq + 1), _, [3], rfl, by decide, .inr ⟨k + 1, c', _, c' * 4, rfl, inv.push (by omega) a b s c'⟩, .inl ⟨rfl, nx, h2 (by rw [inv.ln]; omega)⟩⟩
  · exact h.elim
theorem k_qnext : ∀ (args : List AV) (hp : Tr (AO O)) (nx : Nat) (K : AV → Tr (AO O) → Nat → Prop), c_qnext args hp nx K → ACall I P 12 args hp (fun v hp' => ∃ nx', K v hp' nx') := by
  intro args hp nx K h
  unfold c_qnext at h; split at h
  · rename_i n
    obtain ⟨hb, l, sq, hg, ⟨h1, h2⟩⟩ := isQ_spec h
    refine own_body hI mix gA7 (fn := Try.f12) (by kernel_rfl) (by kernel_rfl) (by kernel_rfl) hg hb [.ptr 0 0] rfl rfl fun os hH hr ho => ?_
    rcases hH with ⟨rfl, rfl⟩ | ⟨k, c, xs, room, rfl, inv⟩
    · exact (t_next0 I _ sq).mpr ⟨.q [] sq, _, [], rfl, by decide, .inl ⟨rfl, rfl⟩, .inl ⟨rfl, nx, h1 rfl⟩⟩
    · refine (t_next I _ k c room xs sq).mpr (bsplit_both (fun hx => ?_) (fun hx => ?_))
      · have hk : k = 0 := by have := eq_of_beq hx; omega
        have hl : l = [] := List.length_eq_zero_iff.1 (by rw [inv.ln]; exact hk)
        subst hl
        exact ⟨.q [] sq, _, [1], rfl, by decide, .inr ⟨k, c, xs, room, rfl, inv⟩, .inl ⟨rfl, nx, h1 rfl⟩⟩
      · have hk : k ≠ 0 := by have := ne_of_beq_false hx; omega
        cases l with
        | nil => have := inv.ln; simp at this; omega
        | cons x t =>
          obtain ⟨hk0, hx0⟩ := inv.root
          have hl := inv.len
          have hm := inv.mx
          refine must_mk (decide_eq_true ⟨by omega, by omega⟩) (xget_mk (gE_get (by omega)) ⟨⟨by omega, hl, by omega⟩, fun a b s d => ?_⟩)
          rw [← hx0]
          exact ⟨.q t sq, _, [1], rfl, by decide, .inr ⟨k - 1, c, _, room, rfl, inv.pop⟩, .inl ⟨rfl, nx, h2 x t rfl (s2_inv inv)⟩⟩
  · exact h.elim
theorem k_qpeek : ∀ (args : List AV) (hp : Tr (AO O)) (nx : Nat) (K : AV → Tr (AO O) → Nat → Prop), c_qpeek args hp nx K → ACall I P 19 args hp (fun v hp' => ∃ nx', K v hp' nx') := by
  intro args hp nx K h
  unfold c_qpeek at h; split at h
  · rename_i n
    obtain ⟨hb, l, sq, hg, ⟨h1, h2⟩⟩ := isQ_spec h
    refine own_body hI mix gA7 (fn := Try.f19) (by kernel_rfl) (by kernel_rfl) (by kernel_rfl) hg hb [.ptr 0 0] rfl rfl fun os hH hr ho => ?_
    rcases hH with ⟨rfl, rfl⟩ | ⟨k, c, xs, room, rfl, inv⟩
    · exact (t_peek0 I _ sq).mpr ⟨.q [] sq, _, [], rfl, by decide, .inl ⟨rfl, rfl⟩, .inl ⟨rfl, nx, h1 rfl⟩⟩
    · refine (t_peek I _ k c room xs sq).mpr (bsplit_both (fun hx => ?_) (fun hx => ?_))
      · have hk : k = 0 := by have := eq_of_beq hx; omega
        have hl : l = [] := List.length_eq_zero_iff.1 (by rw [inv.ln]; exact hk)
        subst hl
        exact ⟨.q [] sq, _, [1], rfl, by decide, .inr ⟨k, c, xs, room, rfl, inv⟩, .inl ⟨rfl, nx, h1 rfl⟩⟩
      · have hk : k ≠ 0 := by have := ne_of_beq_false hx; omega
        cases l with
        | nil => have := inv.ln; simp at this; omega
        | cons x t =>
          obtain ⟨hk0, hx0⟩ := inv.root
          have hl := inv.len
          refine must_mk (decide_eq_true ⟨by omega, by omega⟩) (xget_mk (gE_get (by omega)) ?_)
          rw [← hx0]
          exact ⟨.q (x :: t) sq, _, [1], rfl, by decide, .inr ⟨k, c, xs, room, rfl, inv⟩, .inl ⟨rfl, nx, h2 x t rfl (s2_inv inv)⟩⟩
  · exact h.elim
theorem k_qdrop : ∀ (args : List AV) (hp : Tr (AO O)) (nx : Nat) (K : AV → Tr (AO O) → Nat → Prop), c_qdrop args hp nx K → ACall I P 17 args hp (fun v hp' => ∃ nx', K v hp' nx') := by
  intro args hp nx K h
  unfold c_qdrop at h; split at h
  · rename_i n kd
    obtain ⟨hb, l, sq, hg, h⟩ := isQ_spec h
    refine own_body hI mix gA7 (fn := Try.f17) (by kernel_rfl) (by kernel_rfl) (by kernel_rfl) hg hb [.ptr 0 0, .int .i64 kd] rfl rfl fun os hH hr ho => ?_
    rcases hH with ⟨rfl, rfl⟩ | ⟨k, c, xs, room, rfl, inv⟩
    · exact (t_drop0 I _ sq kd).mpr ⟨.q [] sq, _, [], rfl, by decide, .inl ⟨rfl, rfl⟩, .inl ⟨rfl, nx, h⟩⟩
    · have hm := inv.mx
      refine (t_drop I _ k c room xs sq kd).mpr ⟨⟨inv.len, inv.nr⟩, fun ys i hi => ⟨⟨by have := inv.len; omega, by omega⟩, ?_⟩⟩
      obtain ⟨q1, q2, q3⟩ := hi
      have hi2 := inv.drop (fun x => !(x.i 1 == kd)) q1 q2 q3
      have e : IntKind.i64.wrap ((k : Int) - (i : Int)) = (l.length : Int) - ((rest kd l).length : Int) := by
        rw [inv.ln, show (rest kd l).length = i from hi2.ln, w_i64]; omega
      rw [e]
      exact ⟨.q (rest kd l) sq, _, [1], rfl, by decide, .inr ⟨i, c, _, room, rfl, hi2⟩, .inl ⟨rfl, nx, h⟩⟩
  · exact h.elim
theorem gB0 : GOk I P (Gm B0) := Gm.consH (Gm.consH (Gm.consH (Gm.consH (Gm.consH Gm.nil (k_qdrop hI)) (k_qpeek hI)) (k_qnext hI)) (k_qput hI)) (k_qlen hI)
end Go.Tb.W
