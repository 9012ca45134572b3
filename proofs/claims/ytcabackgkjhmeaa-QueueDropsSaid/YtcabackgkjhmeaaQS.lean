/- Queues: what is dropped is just what has that kind. -/
import Derived.Test.YtcabackgkjhmeaaQN
set_option linter.all false
set_option maxRecDepth 100000
namespace Go.Tb.W
open Go Go.Proofs
variable {I : Interp O} (hI : I.R = pk.R)
theorem rest_comm (k t : Int) (q : List Rw) : rest k (lo t q) = lo t (rest k q) ∧ rest k (hi t q) = hi t (rest k q) := by
  unfold rest lo hi
  constructor <;> rw [List.filter_filter, List.filter_filter] <;> exact List.filter_congr fun x _ => Bool.and_comm _ _
theorem rest_ins_ne {k : Int} {q : List Rw} {e : Rw} (h : e.i 1 ≠ k) : rest k (insQ q e) = insQ (rest k q) e := by
  unfold insQ
  rw [← (rest_comm k _ q).1, ← (rest_comm k _ q).2]
  unfold rest
  rw [List.filter_append, List.filter_cons_of_pos (by simpa using h)]
theorem lohi_id {q : List Rw} (h : q.Pairwise (fun x y => lessE x y = true)) (t : Int) : lo t q ++ hi t q = q := by
  induction q with
  | nil => rfl
  | cons x l ih =>
    obtain ⟨h1, h2⟩ := List.pairwise_cons.1 h
    by_cases hx : x.i 0 ≤ t
    · have := ih h2
      unfold lo hi at *
      rw [List.filter_cons_of_pos (by simpa using hx), List.filter_cons_of_neg (by simpa using hx), List.cons_append, this]
    · have hl : ∀ y ∈ l, ¬ y.i 0 ≤ t := fun y hy => by
        have := less_iff.1 (h1 y hy); omega
      obtain ⟨a, b⟩ := lohi_app (t := t) (a := []) (b := x :: l) (fun _ h => by simp at h) (fun y hy => by
        rcases List.mem_cons.1 hy with rfl | hy
        · omega
        · have := hl y hy; omega)
      simp only [List.nil_append] at a b
      rw [a, b]; rfl
theorem rest_ins_eq {k : Int} {q : List Rw} {e : Rw} (hs : q.Pairwise (fun x y => lessE x y = true)) (h : e.i 1 = k) : rest k (insQ q e) = rest k q := by
  have h1 : rest k (insQ q e) = lo (e.i 0) (rest k q) ++ hi (e.i 0) (rest k q) := by
    unfold insQ
    rw [← (rest_comm k _ q).1, ← (rest_comm k _ q).2]
    unfold rest
    rw [List.filter_append, List.filter_cons_of_neg (by simpa using h)]
  rw [h1]
  exact lohi_id (q := rest k q) (hs.sublist (List.filter_sublist ..)) _
theorem map_lohi (t : Int) : ∀ (q : List Rw), (lo t q).map it = lo t (q.map it) ∧ (hi t q).map it = hi t (q.map it)
  | [] => ⟨rfl, rfl⟩
  | x :: l => by
    obtain ⟨h1, h2⟩ := map_lohi t l
    have e : (it x).i 0 = x.i 0 := rfl
    unfold lo hi at *
    by_cases hx : x.i 0 ≤ t
    · rw [List.filter_cons_of_pos (by simpa using hx), List.filter_cons_of_neg (by simpa using hx), List.map_cons, List.map_cons, List.filter_cons_of_pos (by rw [e]; simpa using hx), List.filter_cons_of_neg (by rw [e]; simpa using hx), h1, h2]
      exact ⟨rfl, rfl⟩
    · rw [List.filter_cons_of_neg (by simpa using hx), List.filter_cons_of_pos (by simpa using hx), List.map_cons, List.map_cons, List.filter_cons_of_neg (by rw [e]; simpa using hx), List.filter_cons_of_pos (by rw [e]; simpa using hx), h1, h2]
      exact ⟨rfl, rfl⟩
theorem map_ins {q r : List Rw} {e f : Rw} (h : q.map it = r.map it) (he : it e = it f) : (insQ q e).map it = (insQ r f).map it := by
  have h0 : e.i 0 = f.i 0 := (show (it e).i 0 = (it f).i 0 by rw [he])
  unfold insQ
  rw [List.map_append, List.map_append, List.map_cons, List.map_cons, (map_lohi _ q).1, (map_lohi _ q).2, (map_lohi _ r).1, (map_lohi _ r).2, h, h0, he]
include hI
theorem l_drops (k : Int) (l c : Nat) (p : Bool) (ob : Obj) (xs : List Rw) (hxs : xs.length = l) :
    ACall I P 7 [.slq 0 l c p, .int .u8 k] (Tr.ofList 0 [.out ob [.i .i8] xs] .leaf) (fun v _ => v = .bool true) := by
  refine ocall mix (gB2 hI) (fn := Try.f7) (by kernel_rfl) (by kernel_rfl) (by kernel_rfl) [.out ob [.i .i8] xs] _ rfl rfl (fun hr ho => ?_)
  simp only [rgs, rg, Bool.and_eq_true, Nat.ble_eq] at hr
  obtain ⟨⟨hlc, hc⟩, _⟩ := hr
  refine (t_ldrops I (fun v _ _ => v = .bool true) l c p ob xs k).mpr ?_
  refine ALoop.weak (Weak.asOwn (p := pk) hI (n := 1) (s := .q [] 0) rfl rfl rfl) ?_
  refine ALoop.weak (Weak.asOwn (p := pk) hI (n := 2) (s := .q [] 0) rfl rfl rfl) ?_
  generalize hN : (if 200 < (l : Int) then (200 : Int) else (l : Int)) = N
  have hN1 : N ≤ l ∧ N ≤ 200 ∧ 0 ≤ N := by rw [← hN]; split <;> omega
  generalize IntKind.i64.wrap (k.tmod 4) = kk
  refine ALoop.invg (ps := [(1, 1), (2, 2)]) (ts := [0, 5, 6, 7, 8, 9, 10]) (nx := 3) (fun x : List Rw × List Rw × Nat => j_dropA l c p ob xs N kk x.1 (x.2.2 : Nat) x.2.1 (x.2.1.length : Nat) ((x.1.length : Int) - ((rest kk x.1).length : Int)) (x.2.2 : Nat))
    (fun x => ((x.1.length = x.2.2 ∧ (x.2.2 : Int) ≤ N) ∧ (rest kk x.1).map it = x.2.1.map it) ∧ x.1.Pairwise (fun x y => lessE x y = true) ∧ ∀ y ∈ x.1, y.i 3 < (x.2.2 : Int)) (fun x => (N - x.2.2).toNat) ?_ (by kernel_rfl) ([], [], 0) (by kernel_rfl) ⟨⟨⟨rfl, hN1.2.2⟩, rfl⟩, .nil, fun y hy => by simp at hy⟩
  rintro ⟨q, r, i⟩ ⟨⟨⟨g1, g2⟩, g3⟩, g4, g5⟩
  simp only at g1 g2 g3 g4 g5 ⊢
  have hrl : r.length = (rest kk q).length := by have := congrArg List.length g3; simpa using this.symm
  have hrq : (rest kk q).length ≤ q.length := List.length_filter_le _ _
  refine (t_dropA I _ _ l c p ob xs N kk q (i : Nat) r (r.length : Nat) ((q.length : Int) - ((rest kk q).length : Int)) (i : Nat)).mpr (bsplit_both (fun hx => ?_) (fun hx => ?_))
  · have hx := of_decide_eq_true hx
    have hi : i < xs.length := by omega
    have hxi : xs[(i : Int).toNat]? = some (gE xs i) := by rw [Int.toNat_natCast]; exact gE_get hi
    have hb : decide ((0 : Int) ≤ (i : Int) ∧ (i : Int) < (l : Int)) = true := decide_eq_true ⟨by omega, by omega⟩
    have e3 : IntKind.i64.wrap ((i : Int) + 1) = ((i + 1 : Nat) : Int) := by rw [w_id (by omega) (by omega)]; omega
    have e4 : ((i : Nat) : Int) + 1 = ((i + 1 : Nat) : Int) := by omega
    have e5 : ((r.length : Nat) : Int) + 1 = ((r.length + 1 : Nat) : Int) := by omega
    generalize gE xs i = x at hxi
    have stepT : ∀ (a kd : Int) (s : ByteArray), (kd == kk) = true → ∀ S : St O, S = j_dropA l c p ob xs N kk (insQ q (mkE a kd s (i : Nat))) ((i : Nat) + 1 : Int) r (r.length : Nat) (IntKind.i64.wrap ((q.length : Int) - ((rest kk q).length : Int) + 1)) (IntKind.i64.wrap ((i : Int) + 1)) →
        ∃ y : List Rw × List Rw × Nat, (((y.1.length = y.2.2 ∧ (y.2.2 : Int) ≤ N) ∧ (rest kk y.1).map it = y.2.1.map it) ∧ y.1.Pairwise (fun x y => lessE x y = true) ∧ ∀ z ∈ y.1, z.i 3 < (y.2.2 : Int)) ∧ (N - y.2.2).toNat < (N - i).toNat ∧ S = j_dropA l c p ob xs N kk y.1 (y.2.2 : Nat) y.2.1 (y.2.1.length : Nat) ((y.1.length : Int) - ((rest kk y.1).length : Int)) (y.2.2 : Nat) := fun a kd s hk S hS => by
      have hk := eq_of_beq hk
      have hre : rest kk (insQ q (mkE a kd s (i : Nat))) = rest kk q := rest_ins_eq g4 hk
      refine ⟨(insQ q (mkE a kd s (i : Nat)), r, i + 1), ⟨⟨⟨by show (insQ _ _).length = i + 1; rw [ins_len, g1], by show ((i + 1 : Nat) : Int) ≤ N; omega⟩, by show (rest kk (insQ q _)).map it = _; rw [hre]; exact g3⟩, insQ_so g4 g5, fun z hz => ?_⟩, by show (N - ((i + 1 : Nat) : Int)).toNat < (N - (i : Int)).toNat; omega, ?_⟩
      · rcases ins_mem.1 hz with hz | rfl
        · have := g5 z hz; show z.i 3 < ((i + 1 : Nat) : Int); omega
        · show ((i : Nat) : Int) < ((i + 1 : Nat) : Int); omega
      · rw [hS, e3, e4, w_id (n := (q.length : Int) - ((rest kk q).length : Int) + 1) (by omega) (by omega)]
        show _ = j_dropA l c p ob xs N kk (insQ q (mkE a kd s (i : Nat))) ((i + 1 : Nat) : Int) r (r.length : Nat) (((insQ q (mkE a kd s (i : Nat))).length : Int) - ((rest kk (insQ q (mkE a kd s (i : Nat)))).length : Int)) ((i + 1 : Nat) : Int)
        rw [hre, ins_len, show (((q.length + 1 : Nat) : Int) - ((rest kk q).length : Int)) = (q.length : Int) - ((rest kk q).length : Int) + 1 by omega]
    have stepF : ∀ (a kd : Int) (s : ByteArray), (kd == kk) = false → ∀ S : St O, S = j_dropA l c p ob xs N kk (insQ q (mkE a kd s (i : Nat))) ((i : Nat) + 1 : Int) (insQ r (mkE a kd s (r.length : Nat))) ((r.length : Nat) + 1 : Int) ((q.length : Int) - ((rest kk q).length : Int)) (IntKind.i64.wrap ((i : Int) + 1)) →
        ∃ y : List Rw × List Rw × Nat, (((y.1.length = y.2.2 ∧ (y.2.2 : Int) ≤ N) ∧ (rest kk y.1).map it = y.2.1.map it) ∧ y.1.Pairwise (fun x y => lessE x y = true) ∧ ∀ z ∈ y.1, z.i 3 < (y.2.2 : Int)) ∧ (N - y.2.2).toNat < (N - i).toNat ∧ S = j_dropA l c p ob xs N kk y.1 (y.2.2 : Nat) y.2.1 (y.2.1.length : Nat) ((y.1.length : Int) - ((rest kk y.1).length : Int)) (y.2.2 : Nat) := fun a kd s hk S hS => by
      have hk := ne_of_beq_false hk
      have hre : rest kk (insQ q (mkE a kd s (i : Nat))) = insQ (rest kk q) (mkE a kd s (i : Nat)) := rest_ins_ne hk
      refine ⟨(insQ q (mkE a kd s (i : Nat)), insQ r (mkE a kd s (r.length : Nat)), i + 1), ⟨⟨⟨by show (insQ _ _).length = i + 1; rw [ins_len, g1], by show ((i + 1 : Nat) : Int) ≤ N; omega⟩, by show (rest kk (insQ q _)).map it = (insQ r _).map it; rw [hre]; exact map_ins g3 rfl⟩, insQ_so g4 g5, fun z hz => ?_⟩, by show (N - ((i + 1 : Nat) : Int)).toNat < (N - (i : Int)).toNat; omega, ?_⟩
      · rcases ins_mem.1 hz with hz | rfl
        · have := g5 z hz; show z.i 3 < ((i + 1 : Nat) : Int); omega
        · show ((i : Nat) : Int) < ((i + 1 : Nat) : Int); omega
      · rw [hS, e3, e4, e5]
        show _ = j_dropA l c p ob xs N kk (insQ q (mkE a kd s (i : Nat))) ((i + 1 : Nat) : Int) (insQ r (mkE a kd s (r.length : Nat))) (((insQ r (mkE a kd s (r.length : Nat))).length : Nat) : Int) (((insQ q (mkE a kd s (i : Nat))).length : Int) - ((rest kk (insQ q (mkE a kd s (i : Nat)))).length : Int)) ((i + 1 : Nat) : Int)
        rw [hre, ins_len, ins_len, ins_len, show (((q.length + 1 : Nat) : Int) - (((rest kk q).length + 1 : Nat) : Int)) = (q.length : Int) - ((rest kk q).length : Int) by omega]
    refine must_mk hb (must_mk hb ?_)
    repeat' (first | refine xget_mk hxi ?_ | apply And.intro)
    all_goals first
      | omega
      | (intro h; omega)
      | exact fun _ => bsplit_both (fun hk => stepT _ _ _ hk _ rfl) (fun hk => ⟨by omega, fun h => by omega, fun _ => stepF _ _ _ hk _ rfl⟩)
  · have hx := of_decide_eq_false hx
    refine bs_f (by simp) (fun hs1 hs2 => bs_f (by rw [hrl]; simp) ?_)
    refine ALoop.invg (ps := [(1, 1), (2, 2)]) (ts := [5, 6, 8]) (nx := 3) (fun x : List Rw × List Rw => j_dropB ob xs kk x.1 (i : Nat) x.2 (r.length : Nat)) (fun x => x.1.map it = x.2.map it ∧ ∀ y ∈ x.1, y.i 1 ≠ kk) (fun x => x.1.length) ?_ (by kernel_rfl) (rest kk q, r) (by kernel_rfl) ⟨g3, fun y hy => by
      have := (List.mem_filter.1 hy).2
      simpa using this⟩
    rintro ⟨a, b⟩ ⟨h1, h2⟩
    simp only at h1 h2 ⊢
    have hab : a.length = b.length := by have := congrArg List.length h1; simpa using this
    refine (t_dropB I _ (fun _ => True) _ ob xs kk a (i : Nat) b (r.length : Nat)).mpr (fun _ => bsplit_both (fun hp => ?_) (fun hp => ?_))
    · have hp := of_decide_eq_true hp
      refine ⟨fun e => by rw [e] at hp; simp at hp, fun x t e hs => ⟨fun e2 => by rw [e2] at hab; have hab : a.length = 0 := hab; omega, fun y u e2 hs' => ?_⟩⟩
      subst e; subst e2
      have he := (List.cons.inj h1).1
      have k0 : x.i 0 = y.i 0 := (show (it x).i 0 = (it y).i 0 by rw [he])
      have k1 : x.i 1 = y.i 1 := (show (it x).i 1 = (it y).i 1 by rw [he])
      have k2 : x.s 2 = y.s 2 := (show (it x).s 2 = (it y).s 2 by rw [he])
      refine bs_f (by rw [k0, k1, k2, (ba_beq _ _).2 rfl]; simp) (bs_f (by have := h2 x (List.mem_cons_self ..); simpa using this) ⟨(t, u), ⟨(List.cons.inj h1).2, fun z hz => h2 z (List.mem_cons_of_mem _ hz)⟩, by show t.length < (x :: t).length; simp, rfl⟩)
    · have hp := of_decide_eq_false hp
      have : b.length = 0 := by omega
      intro _
      show AV.bool (((b.length : Nat) : Int) == 0) = .bool true
      rw [this]; rfl
end Go.Tb.W
