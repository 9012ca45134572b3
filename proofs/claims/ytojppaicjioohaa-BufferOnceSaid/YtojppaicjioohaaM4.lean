/- The abstract machine's pure operations, all of them, and that they are the machine's own. -/
import Derived.Test.YtojppaicjioohaaM3
set_option linter.all false
namespace Go.Tb
open Go
variable {O : Type} {P : Program}

theorem addr_add (b z k : Nat) : (⟨b, z, none⟩ : Addr).add k = ⟨b, z + k, none⟩ := by unfold Addr.add; split <;> simp_all

def aun (op : UnOp) (x : AV) (K : AV → Prop) : Prop := match op, x with
  | .neg, .int k n => K (.int k (k.wrap (0 - n)))
  | .xor, .int k n => K (.int k (bits .xor k (if k.signed then -1 else k.max) n))
  | .not, .bool b => K (.bool (!b))
  | _, _ => False
def aconv (P : Program) (src dst : TypeId) (x : AV) (K : AV → Prop) : Prop := match mkTU P dst, x with
  | some (.int k), .int _ n => must (P.underlying src).isSome (K (.int k (k.wrap n)))
  | some .str, .str s => must (P.underlying src).isSome (K (.str s))
  | _, _ => False
def partT (P : Program) (e : TypeId) (l : List AV) (off : Nat) (K : AV → Prop) : Prop := match aggT P e, szT P e with
  | some true, some n => lgrab l off n fun r => K (.agg r)
  | some false, some _ => lget l off K
  | _, _ => False
def afield (P : Program) (t : TypeId) (x : AV) (i : Nat) (K : AV → Prop) : Prop := match mkTU P t, x with
  | some (.struct fs), .agg l => match fs[i]? with
    | some f => match partA f l with | some v => K v | none => False
    | none => False
  | _, _ => False
def sget (s : ByteArray) (i : Int) (K : Nat → Prop) : Prop := match (if 0 ≤ i then s[i.toNat]? else none) with
  | some b => K b.toNat
  | none => False
def aindex (P : Program) (t : TypeId) (x i : AV) (K : AV → Prop) : Prop := match mkTU P t, x, i with
  | some (.arr n e), .agg l, .int _ i => must (decide (0 ≤ i ∧ i < (n : Int))) (match szT P e with | some z => partT P e l (i.toNat * z) K | none => False)
  | some .str, .str s, .int _ i => sget s i fun b => K (.int .u8 b)
  | _, _, _ => False
def aindexAddr (P : Program) (t : TypeId) (x i : AV) (K : AV → Prop) : Prop := match mkTU P t, x, i with
  | some (.slice e), .sl n o l c, .int _ i => must (decide (0 ≤ i ∧ i < (l : Int))) (match szT P e with | some z => K (.ep n o z i.toNat 0) | none => False)
  | some (.arr m e), .ptr n o, .int _ i => must (decide (0 ≤ i ∧ i < (m : Int))) (match szT P e with | some z => K (.ptr n (o + i.toNat * z)) | none => False)
  | some (.slice e), .sd n z' lo l c k, .int _ i => must (decide (0 ≤ i ∧ i < (l : Int))) (match szT P e with | some z => must (Nat.beq z' z) (K (.ep n 0 z (lo + i.toNat) 0)) | none => False)
  | some (.slice e), .slq n l c _, .int _ i => must (decide (0 ≤ i ∧ i < (l : Int))) (match szT P e with | some z => K (.ep n 0 z i.toNat 0) | none => False)
  | some (.arr m e), .ep n o zz j k, .int _ i => must (decide (0 ≤ i ∧ i < (m : Int))) (match szT P e with | some z => K (.ep n o zz j (k + i.toNat * z)) | none => False)
  | _, _, _ => False
def afieldAddr (P : Program) (t : TypeId) (x : AV) (i : Nat) (K : AV → Prop) : Prop := match mkTU P t, x with
  | some (.struct fs), .ptr n o => match fs[i]? with
    | some f => K (.ptr n (o + f.off))
    | none => False
  | some (.struct fs), .ep n o z j k => match fs[i]? with
    | some f => K (.ep n o z j (k + f.off))
    | none => False
  | _, _ => False
def abound (v : Option AV) (dflt hi : Nat) (K : Nat → Prop) : Prop := match v with
  | none => K dflt
  | some (.int _ i) => must (decide (0 ≤ i ∧ i ≤ (hi : Int))) (K i.toNat)
  | some _ => False
/-- Where a slice begins that is cut at lo: of no room, where it was cut out of. -/
def sdk (c lo k z : Nat) : Nat := if c = lo then k else k + lo * z
def aslice (P : Program) (t : TypeId) (x : AV) (lo hi : Option AV) (K : AV → Prop) : Prop := match mkTU P t, x with
  | some (.slice e), .sl n o l c => match szT P e with
    | some z => abound hi l c fun h => match lo with
      | none => K (.sl n o h c)
      | some _ => abound lo 0 h fun lo => match o with
        | 0 => K (.sd n z lo (h - lo) (c - lo) (sdk c lo 0 z))
        | o + 1 => bsplit (decide (c = lo)) fun
          | true => K (.sl n (o + 1) (h - lo) (c - lo))
          | false => K (.sl n (o + 1 + lo * z) (h - lo) (c - lo))
    | none => False
  | some (.slice e), .sd n z' lo0 l c k => match szT P e with
    | some z => must (Nat.beq z' z) (abound hi l c fun h => match lo with
      | none => K (.sd n z lo0 h c k)
      | some _ => abound lo 0 h fun lo => K (.sd n z (lo0 + lo) (h - lo) (c - lo) (sdk c lo k z)))
    | none => False
  | some (.slice e), .nils => match szT P e with
    | some z => abound hi 0 0 fun h => abound lo 0 h fun lo => K .nils
    | none => False
  | some .str, .str s => abound hi s.size s.size fun h => abound lo 0 h fun lo => K (.str (s.extract lo h))
  | some (.arr m e), .ptr n o => match szT P e with
    | some z => must (Nat.ble m 9223372036854775807) <| abound hi m m fun h => abound lo 0 h fun lo => bsplit (decide (m = lo)) fun
        | true => K (.sl n o (h - lo) (m - lo))
        | false => K (.sl n (o + lo * z) (h - lo) (m - lo))
    | none => False
  | _, _ => False
def aminF (k : IntKind) : Int → List AV → Option Int
  | a, [] => some a
  | a, .int k' b :: r => match decide (k = k') with | true => aminF k (if b < a then b else a) r | false => none
  | _, _ => none
def amaxF (k : IntKind) : Int → List AV → Option Int
  | a, [] => some a
  | a, .int k' b :: r => match decide (k = k') with | true => amaxF k (if b > a then b else a) r | false => none
  | _, _ => none
def abuiltin (P : Program) (b : Builtin) (ts : List TypeId) (vs : List AV) (K : AV → Prop) : Prop := match b, ts, vs with
  | .len, [t], [x] => match mkTU P t, x with
    | some (.slice _), .sl _ _ l _ => K (.int .i64 l)
    | some (.slice _), .nils => K (.int .i64 0)
    | some (.slice _), .sd _ _ _ l _ _ => K (.int .i64 l)
    | some (.slice _), .slq _ l _ _ => K (.int .i64 l)
    | some (.slice _), .pv _ _ l _ => K (.int .i64 l)
    | some .str, .str s => K (.int .i64 s.size)
    | some (.arr n _), _ => must (Nat.ble n 9223372036854775807) (K (.int .i64 n))
    | _, _ => False
  | .cap, [t], [x] => match mkTU P t, x with
    | some (.slice _), .sl _ _ _ c => K (.int .i64 c)
    | some (.slice _), .sd _ _ _ _ c _ => K (.int .i64 c)
    | some (.slice _), .slq _ _ c _ => K (.int .i64 c)
    | some (.slice _), .nils => K (.int .i64 0)
    | _, _ => False
  | .min, _, .int k a :: r => match aminF k a r with | some m => K (.int k m) | none => False
  | .max, _, .int k a :: r => match amaxF k a r with | some m => K (.int k m) | none => False
  | _, _, _ => False
def setAt (z : List AV) (off : Nat) : List AV → List AV
  | [] => z
  | x :: r => setAt (z.set off x) (off + 1) r
def acells : AV → List AV
  | .agg l => l
  | v => [v]
def afill (pl : Nat → Option (Nat × Nat)) (z : List AV) : List (Nat × AV) → Option (List AV)
  | [] => some z
  | (i, v) :: r => match pl i with
    | some (off, size) => match Nat.beq (acells v).length size && Nat.ble (off + size) z.length with
      | true => afill pl (setAt z off (acells v)) r
      | false => none
    | none => none
def evps (tm : Tr AV) : List (Nat × Operand) → Option (List (Nat × AV))
  | [] => some []
  | (i, x) :: l => match ev tm x, evps tm l with
    | some v, some r => some ((i, v) :: r)
    | _, _ => none
def placeOf (fs : List FI) (i : Nat) : Option (Nat × Nat) := match fs[i]? with | some f => some (f.off, f.size) | none => none
def abuild (P : Program) (t : TypeId) (ps : List (Nat × AV)) (K : AV → Prop) : Prop := match mkTU P t, zeroT P t with
  | some (.struct fs), some z => match afill (placeOf fs) (acells z) ps with
    | some l => K (.agg l)
    | none => False
  | some (.arr _ e), some z => match szT P e with
    | some s => match afill (fun i => some (i * s, s)) (acells z) ps with
      | some l => K (.agg l)
      | none => False
    | none => False
  | _, _ => False
def evO (tm : Tr AV) (x : Option Operand) : Option (Option AV) := match x with
  | none => some none
  | some x => match ev tm x with | some v => some (some v) | none => none

/-- The pure operations. -/
def apure (P : Program) (op : Op) (tm : Tr AV) (K : AV → Prop) : Prop := match op with
  | .move x | .assign x => withV (ev tm x) K
  | .pick c x y => withV (ev tm c) fun
    | .bool b => bsplit b fun | true => withV (ev tm x) K | false => withV (ev tm y) K
    | _ => False
  | .binOp op t x y _ => withV (ev tm x) fun a => withV (ev tm y) fun b => abin P op t a b K
  | .unOp op _ x => withV (ev tm x) fun a => aun op a K
  | .convert s d x => withV (ev tm x) fun a => aconv P s d a K
  | .makeInterface t x => withV (ev tm x) fun a => match mkTU P t with
    | some .iface => False
    | some _ => K (.iface t a)
    | none => False
  | .makeFunc f a b => match evs tm a.toList, evs tm b.toList with
    | some a, some b => K (.fn f a b)
    | _, _ => False
  | .extract x i => withV (ev tm x) fun | .tup l => lget l i K | _ => False
  | .field t x i => withV (ev tm x) fun a => afield P t a i K
  | .index t x i => withV (ev tm x) fun a => withV (ev tm i) fun b => aindex P t a b K
  | .fieldAddr t x i => withV (ev tm x) fun a => afieldAddr P t a i K
  | .indexAddr t x i => withV (ev tm x) fun a => withV (ev tm i) fun b => aindexAddr P t a b K
  | .slice t x lo hi none => withV (ev tm x) fun a => match evO tm lo, evO tm hi with
    | some lo, some hi => aslice P t a lo hi K
    | _, _ => False
  | .nilCheck x => withV (ev tm x) fun | .ptr n o => K (.ptr n o) | .ep n o z i j => K (.ep n o z i j) | _ => False
  | .build t ps => match evps tm ps.toList with | some l => abuild P t l K | none => False
  | .call c => match c.callee with
    | .builtin b => match evs tm c.args.toList with | some l => abuiltin P b c.argTypes.toList l K | none => False
    | _ => False
  | _ => False

/-! ### Each is the machine's -/
theorem aun_ok {op : UnOp} {x : AV} {K : AV → Prop} (h : aun op x K) : ∃ v, K v ∧ ∀ ρ x', Den ρ x x' → ∃ z, Den ρ v z ∧ ∀ w, (Op.unary op x').run P w = .ok z w := by
  unfold aun at h
  split at h
  · exact ⟨_, h, fun ρ x' hx => by cases hx; exact ⟨_, .int _ _ (inK_wrap _ _), fun w => by simp [Op.unary, Op.intArith]⟩⟩
  · exact ⟨_, h, fun ρ x' hx => by cases hx; exact ⟨_, .int _ _ (inK_wrap _ _), fun w => by simp [Op.unary, intBits_xor]⟩⟩
  · exact ⟨_, h, fun ρ x' hx => by cases hx; exact ⟨_, .bool _, fun w => by simp [Op.unary]⟩⟩
  · exact h.elim
theorem aconv_ok {s d : TypeId} {x : AV} {K : AV → Prop} (h : aconv P s d x K) : ∃ v, K v ∧ ∀ ρ x', Den ρ x x' → ∃ z, Den ρ v z ∧ ∀ w, (convert s d x').run P w = .ok z w := by
  unfold aconv at h
  split at h
  · rename_i ht
    obtain ⟨hs, h⟩ := must_spec h
    obtain ⟨d', hd'⟩ := Option.isSome_iff_exists.1 hs
    exact ⟨_, h, fun ρ x' hx => by cases hx; exact ⟨_, .int _ _ (inK_wrap _ _), fun w => by simp [convert, run_underlying hd', run_underlying (mkTU_int ht), Conv.intToInt]⟩⟩
  · rename_i ht
    obtain ⟨hs, h⟩ := must_spec h
    obtain ⟨d', hd'⟩ := Option.isSome_iff_exists.1 hs
    exact ⟨_, h, fun ρ x' hx => by cases hx with | str _ hx => exact ⟨_, .str _ hx, fun w => by simp [convert, run_underlying hd', run_underlying (mkTU_str ht)]⟩⟩
  · exact h.elim
theorem partT_ok {e : TypeId} {l : List AV} {off : Nat} {K : AV → Prop} (h : partT P e l off K) : ∃ v, K v ∧ ∀ ρ l', Dens ρ l l' → ∃ z, Den ρ v z ∧ ∀ w, (part e l'.toArray off).run P w = .ok z w := by
  unfold partT at h
  split at h
  · rename_i n ha hz
    obtain ⟨r, hr, hk⟩ := lgrab_spec h
    refine ⟨_, hk, fun ρ l' hl => ?_⟩
    obtain ⟨e1, e2⟩ := grab_eq _ _ _ _ hr
    have hd' : Dens ρ r ((l'.drop off).take n) := by rw [e1]; exact (hl.drop _).take _
    refine ⟨_, .agg hd', fun w => ?_⟩
    simp only [part, Sem.run_bind, run_isAgg ha, Result.andThen_ok, if_true, run_sizeOf hz, Sem.run_pure]
    congr 2
    simp [List.extract_eq_take_drop, Nat.add_sub_cancel_left]
  · rename_i n ha hz
    obtain ⟨v, hv, hk⟩ := lget_spec h
    refine ⟨_, hk, fun ρ l' hl => ?_⟩
    obtain ⟨x, hx, hd⟩ := hl.get hv
    refine ⟨x, hd, fun w => ?_⟩
    simp only [part, Sem.run_bind, run_isAgg ha, Result.andThen_ok, Bool.false_eq_true, if_false]
    simp [hx]
  · exact h.elim
theorem afield_ok {t : TypeId} {x : AV} {i : Nat} {K : AV → Prop} (h : afield P t x i K) : ∃ v, K v ∧ ∀ ρ x', Den ρ x x' → ∃ z, Den ρ v z ∧ ∀ w, (Instr.field t x' i).run P w = .ok z w := by
  unfold afield at h
  split at h
  · rename_i fs l ht
    split at h
    · rename_i f hf
      split at h
      · rename_i v hv
        refine ⟨v, h, fun ρ x' hx => ?_⟩
        cases hx with | agg hx =>
        obtain ⟨gs, hgs, hl⟩ := mkTU_struct ht
        obtain ⟨g, hg, hfi⟩ := mkFIs_get hl hf
        obtain ⟨z, dz, rz⟩ := run_part hfi hx hv
        refine ⟨z, dz, fun w => ?_⟩
        have hg' : gs[i]? = some g := by simpa using hg
        simp [Instr.field, run_underlying hgs, hg', asAgg, rz]
      · exact h.elim
    · exact h.elim
  · exact h.elim
theorem sget_spec {s : ByteArray} {i : Int} {K : Nat → Prop} (h : sget s i K) : ∃ b : UInt8, (if 0 ≤ i then s[i.toNat]? else none) = some b ∧ K b.toNat := by
  unfold sget at h
  split at h
  · exact ⟨_, by assumption, h⟩
  · exact h.elim
theorem aindex_ok {t : TypeId} {x i : AV} {K : AV → Prop} (h : aindex P t x i K) : ∃ v, K v ∧ ∀ ρ x' i', Den ρ x x' → Den ρ i i' → ∃ z, Den ρ v z ∧ ∀ w, (Instr.index t x' i').run P w = .ok z w := by
  unfold aindex at h
  split at h
  · rename_i n e l k i ht
    obtain ⟨hb, h⟩ := must_spec h
    have hb := of_decide_eq_true hb
    split at h
    · rename_i z hz
      obtain ⟨v, hv, hp⟩ := partT_ok h
      refine ⟨v, hv, fun ρ x' i' hx hi => ?_⟩
      cases hi
      cases hx with | agg hx =>
      obtain ⟨y, dy, ry⟩ := hp ρ _ hx
      refine ⟨y, dy, fun w => ?_⟩
      simp only [Instr.index, asIntOf, Sem.run_bind, Sem.run_pure, Result.andThen_ok, run_underlying (mkTU_arr ht)]
      rw [if_pos hb]
      simp only [Sem.run_bind, run_sizeOf hz, Result.andThen_ok, ry]
    · exact h.elim
  · rename_i s k i ht
    obtain ⟨b, hb, hk⟩ := sget_spec h
    refine ⟨_, hk, fun ρ x' i' hx hi => ?_⟩
    cases hi; cases hx
    refine ⟨_, .int _ _ (by rw [inK_iff]; have := b.toNat_lt; simp only [loK, hiK]; omega), fun w => ?_⟩
    simp only [Instr.index, asIntOf, Sem.run_bind, Sem.run_pure, Result.andThen_ok, run_underlying (mkTU_str ht)]
    rw [hb]
    rfl
  · exact h.elim
theorem aindexAddr_ok {t : TypeId} {x i : AV} {K : AV → Prop} (h : aindexAddr P t x i K) : ∃ v, K v ∧ ∀ ρ x' i', Den ρ x x' → Den ρ i i' → ∃ z, Den ρ v z ∧ ∀ w, (Instr.indexAt t x' i').run P w = .ok z w := by
  unfold aindexAddr at h
  split at h
  · rename_i e n o l c k i ht
    obtain ⟨hb, h⟩ := must_spec h
    have hb := of_decide_eq_true hb
    split at h
    · rename_i z hz
      refine ⟨_, h, fun ρ x' i' hx hi => ?_⟩
      cases hi
      cases hx with | sl _ _ _ hx _ _ =>
      rename_i b zz
      have := Den.ep (ρ := ρ) o z i.toNat 0 hx
      refine ⟨_, this, fun w => ?_⟩
      have hu := mkTU_slice ht
      have he : P.elem t = e := by simp [Program.elem, hu]
      rw [run_indexAt_slice w t _ l c k i (by rw [he]; exact hu), if_pos hb, he, run_sizeOf hz]
      simp [addr_add, Nat.add_assoc]
    · exact h.elim
  · rename_i m e n o k i ht
    obtain ⟨hb, h⟩ := must_spec h
    have hb := of_decide_eq_true hb
    split at h
    · rename_i z hz
      refine ⟨_, h, fun ρ x' i' hx hi => ?_⟩
      cases hi
      cases hx with | ptr _ hx =>
      rename_i b zz
      have := Den.ptr (ρ := ρ) (o + i.toNat * z) hx
      refine ⟨_, this, fun w => ?_⟩
      have hu := mkTU_arr ht
      have he : P.elem t = e := by simp [Program.elem, hu]
      have hl : P.arrayLen t = m := by simp [Program.arrayLen, hu]
      rw [run_indexAt_array w t _ k i (by rw [he, hl]; exact hu), hl, if_pos hb, he, run_sizeOf hz]
      simp [addr_add, Nat.add_assoc]
    · exact h.elim
  · rename_i e n z' lo l c k q i ht
    obtain ⟨hb, h⟩ := must_spec h
    have hb := of_decide_eq_true hb
    split at h
    · rename_i z hz
      obtain ⟨hzz, h⟩ := must_spec h
      have hzz := Nat.eq_of_beq_eq_true hzz
      subst hzz
      refine ⟨_, h, fun ρ x' i' hx hi => ?_⟩
      cases hi
      cases hx with | sd _ _ _ _ _ hx hlc _ hk =>
      rename_i b zz
      have := Den.ep (ρ := ρ) 0 z' (lo + i.toNat) 0 hx
      refine ⟨_, this, fun w => ?_⟩
      have hu := mkTU_slice ht
      have he : P.elem t = e := by simp [Program.elem, hu]
      have hk : k = lo * z' := by rcases hk with hk | hk <;> omega
      rw [run_indexAt_slice w t _ l c q i (by rw [he]; exact hu), if_pos hb, he, run_sizeOf hz]
      simp [addr_add, Nat.add_assoc, hk, Nat.add_mul]
    · exact h.elim
  · rename_i e n l c q k i ht
    obtain ⟨hb, h⟩ := must_spec h
    have hb := of_decide_eq_true hb
    split at h
    · rename_i z hz
      refine ⟨_, h, fun ρ x' i' hx hi => ?_⟩
      cases hi
      cases hx with
      | slq0 => exfalso; omega
      | slq1 _ _ hx _ _ =>
      rename_i b zz
      have := Den.ep (ρ := ρ) 0 z i.toNat 0 hx
      refine ⟨_, this, fun w => ?_⟩
      have hu := mkTU_slice ht
      have he : P.elem t = e := by simp [Program.elem, hu]
      rw [run_indexAt_slice w t _ l c k i (by rw [he]; exact hu), if_pos hb, he, run_sizeOf hz]
      simp [addr_add, Nat.add_assoc]
    · exact h.elim
  · rename_i m e n o zz j k kk i ht
    obtain ⟨hb, h⟩ := must_spec h
    have hb := of_decide_eq_true hb
    split at h
    · rename_i z hz
      refine ⟨_, h, fun ρ x' i' hx hi => ?_⟩
      cases hi
      cases hx with | ep _ _ _ _ hx =>
      rename_i b z0
      have := Den.ep (ρ := ρ) o zz j (k + i.toNat * z) hx
      refine ⟨_, this, fun w => ?_⟩
      have hu := mkTU_arr ht
      have he : P.elem t = e := by simp [Program.elem, hu]
      have hl : P.arrayLen t = m := by simp [Program.arrayLen, hu]
      rw [run_indexAt_array w t _ kk i (by rw [he, hl]; exact hu), hl, if_pos hb, he, run_sizeOf hz]
      simp [addr_add, Nat.add_assoc]
    · exact h.elim
  · exact h.elim
theorem afieldAddr_ok {t : TypeId} {x : AV} {i : Nat} {K : AV → Prop} (h : afieldAddr P t x i K) : ∃ v, K v ∧ ∀ ρ x', Den ρ x x' → ∃ z, Den ρ v z ∧ ∀ w, (Instr.fieldAt t x' i).run P w = .ok z w := by
  unfold afieldAddr at h
  split at h
  · rename_i fs n o ht
    split at h
    · rename_i f hf
      refine ⟨_, h, fun ρ x' hx => ?_⟩
      cases hx with | ptr _ hx =>
      obtain ⟨gs, hgs, hl⟩ := mkTU_struct ht
      obtain ⟨g, hg, hfi⟩ := mkFIs_get hl hf
      obtain ⟨i', d, hi, hd, hs, hn, h1, h2, h3, h4⟩ := mkFI_spec hfi
      have := Den.ptr (ρ := ρ) (o + f.off) hx
      refine ⟨_, this, fun w => ?_⟩
      have hg' : gs[i]? = some g := by simpa using hg
      have hz : szT P g.type = some i'.size := by simp [szT, hi]
      simp only [Instr.fieldAt, Sem.run_bind, run_underlying hgs, Result.andThen_ok, hg', Instr.sureAddr, Sem.run_pure, fieldPlace, run_sizeOf hz]
      rw [if_neg hs]
      simp [addr_add, h1, Nat.add_assoc]
    · exact h.elim
  · rename_i fs n o z j k ht
    split at h
    · rename_i f hf
      refine ⟨_, h, fun ρ x' hx => ?_⟩
      cases hx with | ep _ _ _ _ hx =>
      obtain ⟨gs, hgs, hl⟩ := mkTU_struct ht
      obtain ⟨g, hg, hfi⟩ := mkFIs_get hl hf
      obtain ⟨i', d, hi, hd, hs, hn, h1, h2, h3, h4⟩ := mkFI_spec hfi
      have := Den.ep (ρ := ρ) o z j (k + f.off) hx
      refine ⟨_, this, fun w => ?_⟩
      have hg' : gs[i]? = some g := by simpa using hg
      have hz : szT P g.type = some i'.size := by simp [szT, hi]
      simp only [Instr.fieldAt, Sem.run_bind, run_underlying hgs, Result.andThen_ok, hg', Instr.sureAddr, Sem.run_pure, fieldPlace, run_sizeOf hz]
      rw [if_neg hs]
      simp [addr_add, h1, Nat.add_assoc]
    · exact h.elim
  · exact h.elim
theorem abound_ok {v : Option AV} {dflt hi : Nat} {K : Nat → Prop} (h : abound v dflt hi K) : ∃ n, K n ∧ (v = none → n = dflt) ∧ (v ≠ none → n ≤ hi) ∧
    ∀ ρ x, (∀ a, v = some a → Den ρ a x) → v ≠ none → ∀ code w, (Instr.sliceBound x hi code).run P w = .ok n w := by
  unfold abound at h
  split at h
  · exact ⟨dflt, h, fun _ => rfl, fun h => absurd rfl h, fun _ _ _ h => absurd rfl h⟩
  · rename_i k i
    obtain ⟨hb, h⟩ := must_spec h
    have hb := of_decide_eq_true hb
    refine ⟨_, h, (fun h => by cases h), (fun _ => by omega), fun ρ x hx _ code w => ?_⟩
    have := hx _ rfl
    cases this
    simp only [Instr.sliceBound, asIntOf, Sem.run_bind, Sem.run_pure, Result.andThen_ok]
    rw [if_pos hb]
    rfl
  · exact h.elim
def BoundRun (P : Program) (x : Option Value) (hi dflt n : Nat) : Prop := match x with
  | some x => ∀ code w, (Instr.sliceBound x hi code).run P w = .ok n w
  | none => n = dflt
theorem bounds_ok {isS : Bool} {len cap h l : Nat} {lo hi : Option Value} {w : World}
    (hh : BoundRun P hi cap len h) (hl : BoundRun P lo h 0 l) :
    (Instr.sliceBounds isS len cap lo hi none).run P w = .ok (l, h, cap) w := by
  unfold Instr.sliceBounds
  cases hi <;> cases lo <;> simp_all [BoundRun]
theorem evO_spec {ρ : Rho} {tm : Tr AV} {a : Act} (h : TmOk ρ tm a.tmps) {x : Option Operand} {v : Option AV} (hv : evO tm x = some v) :
    (x = none ∧ v = none) ∨ ∃ y u, x = some y ∧ v = some u ∧ Den ρ u (a.eval y) := by
  unfold evO at hv
  split at hv
  · cases hv; exact .inl ⟨rfl, rfl⟩
  · split at hv
    · cases hv; exact .inr ⟨_, _, rfl, rfl, ev_spec h (by assumption)⟩
    · cases hv
def OptDen (ρ : Rho) (v : Option AV) (x : Option Value) : Prop := match v, x with
  | none, none => True
  | some v, some x => Den ρ v x
  | _, _ => False
theorem evO_den {ρ : Rho} {tm : Tr AV} {a : Act} (h : TmOk ρ tm a.tmps) {x : Option Operand} {v : Option AV} (hv : evO tm x = some v) : OptDen ρ v (x.map a.eval) := by
  rcases evO_spec h hv with ⟨rfl, rfl⟩ | ⟨y, u, rfl, rfl, hd⟩
  · trivial
  · exact hd
theorem abound_run {v : Option AV} {dflt hi n : Nat} (h : ∀ ρ x, (∀ a, v = some a → Den ρ a x) → v ≠ none → ∀ code w, (Instr.sliceBound x hi code).run P w = .ok n w) (hn : v = none → n = dflt)
    {ρ : Rho} {x : Option Value} (hx : OptDen ρ v x) : BoundRun P x hi dflt n := by
  cases v with
  | none => cases x with
    | none => exact hn rfl
    | some x => exact hx.elim
  | some v => cases x with
    | none => exact hx.elim
    | some x => exact h ρ x (fun a ha => by cases ha; exact hx) (by simp)

theorem hi_le {hi : Option AV} {hh l c : Nat} (h1 : hi = none → hh = l) (h2 : hi ≠ none → hh ≤ c) (hlc : l ≤ c) : hh ≤ c := by
  cases hi with
  | none => rw [h1 rfl]; exact hlc
  | some _ => exact h2 (by simp)
theorem aslice_ok {t : TypeId} {x : AV} {lo hi : Option AV} {K : AV → Prop} (h : aslice P t x lo hi K) : ∃ v, K v ∧ ∀ ρ x' lo' hi', Den ρ x x' → OptDen ρ lo lo' → OptDen ρ hi hi' → ∃ z, Den ρ v z ∧ ∀ w, (Instr.sliceAt t x' lo' hi' none).run P w = .ok z w := by
  unfold aslice at h
  split at h
  · rename_i e n o l c ht
    have hu := mkTU_slice ht
    split at h
    · rename_i z hz
      obtain ⟨hh, h, h1, h2, h3⟩ := abound_ok (P := P) h
      split at h
      · refine ⟨_, h, fun ρ x' lo' hi' hx hlo hhi => ?_⟩
        cases hx with | sl _ _ _ hx hlc hcm =>
        cases lo' with
        | some _ => exact hlo.elim
        | none =>
        refine ⟨_, .sl o hh c hx (hi_le h1 h2 hlc) hcm, fun w => ?_⟩
        simp only [Instr.sliceAt, Sem.run_bind, run_underlying hu, Result.andThen_ok, Instr.slice, bounds_ok (lo := none) (abound_run h3 h1 hhi) rfl, run_sizeOf hz, Sem.run_pure]
        by_cases hc : c = 0
        · simp [hc]
        · simp [hc, addr_add]
      · obtain ⟨ll, h, h4, h5, h6⟩ := abound_ok (P := P) h
        split at h
        · refine ⟨_, h, fun ρ x' lo' hi' hx hlo hhi => ?_⟩
          cases hx with | sl _ _ _ hx hlc hcm =>
          refine ⟨_, .sd z ll _ _ _ hx (Nat.sub_le_sub_right (hi_le h1 h2 hlc) _) (by omega) (by unfold sdk; by_cases hc : c = ll <;> simp [hc]), fun w => ?_⟩
          simp only [Instr.sliceAt, Sem.run_bind, run_underlying hu, Result.andThen_ok, Instr.slice, bounds_ok (abound_run h3 h1 hhi) (abound_run h6 h4 hlo), run_sizeOf hz, Sem.run_pure]
          unfold sdk
          by_cases hc : c = ll
          · simp [hc]
          · simp [hc, addr_add]
        rename_i o
        have hb := bsplit_spec h
        by_cases hc : c = ll
        · rw [decide_eq_true hc] at hb
          refine ⟨_, hb, fun ρ x' lo' hi' hx hlo hhi => ?_⟩
          cases hx with | sl _ _ _ hx hlc hcm =>
          refine ⟨_, .sl _ _ _ hx (Nat.sub_le_sub_right (hi_le h1 h2 hlc) _) (by omega), fun w => ?_⟩
          simp only [Instr.sliceAt, Sem.run_bind, run_underlying hu, Result.andThen_ok, Instr.slice, bounds_ok (abound_run h3 h1 hhi) (abound_run h6 h4 hlo), run_sizeOf hz, Sem.run_pure]
          simp [hc]
        · rw [decide_eq_false hc] at hb
          refine ⟨_, hb, fun ρ x' lo' hi' hx hlo hhi => ?_⟩
          cases hx with | sl _ _ _ hx hlc hcm =>
          refine ⟨_, .sl _ _ _ hx (Nat.sub_le_sub_right (hi_le h1 h2 hlc) _) (by omega), fun w => ?_⟩
          simp only [Instr.sliceAt, Sem.run_bind, run_underlying hu, Result.andThen_ok, Instr.slice, bounds_ok (abound_run h3 h1 hhi) (abound_run h6 h4 hlo), run_sizeOf hz, Sem.run_pure]
          simp [hc, addr_add, Nat.add_assoc]
    · exact h.elim
  · rename_i e n z' lo0 l c k ht
    have hu := mkTU_slice ht
    split at h
    · rename_i z hz
      obtain ⟨hzz, h⟩ := must_spec h
      have hzz := Nat.eq_of_beq_eq_true hzz
      subst hzz
      obtain ⟨hh, h, h1, h2, h3⟩ := abound_ok (P := P) h
      split at h
      · refine ⟨_, h, fun ρ x' lo' hi' hx hlo hhi => ?_⟩
        cases hx with | sd _ _ _ _ _ hx hlc hcm hk =>
        cases lo' with
        | some _ => exact hlo.elim
        | none =>
        refine ⟨_, .sd z' lo0 hh c k hx (hi_le h1 h2 hlc) hcm hk, fun w => ?_⟩
        simp only [Instr.sliceAt, Sem.run_bind, run_underlying hu, Result.andThen_ok, Instr.slice, bounds_ok (lo := none) (abound_run h3 h1 hhi) rfl, run_sizeOf hz, Sem.run_pure]
        by_cases hc : c = 0
        · simp [hc]
        · simp [hc, addr_add]
      · obtain ⟨ll, h, h4, h5, h6⟩ := abound_ok (P := P) h
        refine ⟨_, h, fun ρ x' lo' hi' hx hlo hhi => ?_⟩
        cases hx with | sd _ _ _ _ _ hx hlc hcm hk =>
        refine ⟨_, .sd z' (lo0 + ll) _ _ _ hx (Nat.sub_le_sub_right (hi_le h1 h2 hlc) _) (by omega) ?_, fun w => ?_⟩
        · unfold sdk
          by_cases hc : c = ll
          · left; omega
          · right
            rw [if_neg hc, Nat.add_mul]
            rcases hk with hk | hk
            · have := hi_le h1 h2 hlc; have := h5 (by simp); omega
            · rw [hk]
        · simp only [Instr.sliceAt, Sem.run_bind, run_underlying hu, Result.andThen_ok, Instr.slice, bounds_ok (abound_run h3 h1 hhi) (abound_run h6 h4 hlo), run_sizeOf hz, Sem.run_pure]
          unfold sdk
          by_cases hc : c = ll
          · simp [hc]
          · simp [hc, addr_add, Nat.add_assoc]
    · exact h.elim
  · rename_i e ht
    have hu := mkTU_slice ht
    split at h
    · rename_i z hz
      obtain ⟨hh, h, h1, h2, h3⟩ := abound_ok (P := P) h
      obtain ⟨ll, h, h4, h5, h6⟩ := abound_ok (P := P) h
      refine ⟨_, h, fun ρ x' lo' hi' hx hlo hhi => ?_⟩
      cases hx
      refine ⟨_, .nils, fun w => ?_⟩
      have e1 : hh = 0 := by cases hi with | none => exact h1 rfl | some _ => have := h2 (by simp); omega
      subst e1
      have e2 : ll = 0 := by cases lo with | none => exact h4 rfl | some _ => have := h5 (by simp); omega
      subst e2
      simp only [Instr.sliceAt, Sem.run_bind, run_underlying hu, Result.andThen_ok, Instr.slice, bounds_ok (abound_run h3 h1 hhi) (abound_run h6 h4 hlo), run_sizeOf hz, Sem.run_pure]
      simp
    · exact h.elim
  · rename_i s ht
    have hu := mkTU_str ht
    obtain ⟨hh, h, h1, h2, h3⟩ := abound_ok (P := P) h
    obtain ⟨ll, h, h4, h5, h6⟩ := abound_ok (P := P) h
    refine ⟨_, h, fun ρ x' lo' hi' hx hlo hhi => ?_⟩
    cases hx with | str _ hx =>
    refine ⟨_, .str _ (by rw [ByteArray.size_extract]; omega), fun w => ?_⟩
    simp only [Instr.sliceAt, Sem.run_bind, run_underlying hu, Result.andThen_ok, Instr.slice, bounds_ok (abound_run h3 h1 hhi) (abound_run h6 h4 hlo), Sem.run_pure]
    simp [bounds_ok (P := P) (abound_run h3 h1 hhi) (abound_run h6 h4 hlo)]
  · rename_i m e n o ht
    have hu := mkTU_arr ht
    split at h
    · rename_i z hz
      obtain ⟨hmx, h⟩ := must_spec h
      have hmx := Nat.le_of_ble_eq_true hmx
      obtain ⟨hh, h, h1, h2, h3⟩ := abound_ok (P := P) h
      obtain ⟨ll, h, h4, h5, h6⟩ := abound_ok (P := P) h
      have hb := bsplit_spec h
      by_cases hc : m = ll
      · rw [decide_eq_true hc] at hb
        refine ⟨_, hb, fun ρ x' lo' hi' hx hlo hhi => ?_⟩
        cases hx with | ptr _ hx =>
        refine ⟨_, .sl o _ _ hx (Nat.sub_le_sub_right (hi_le h1 h2 (Nat.le_refl _)) _) (by omega), fun w => ?_⟩
        simp only [Instr.sliceAt, Sem.run_bind, run_underlying hu, Result.andThen_ok, Instr.sureAddr, Sem.run_pure, bounds_ok (abound_run h3 h1 hhi) (abound_run h6 h4 hlo), run_sizeOf hz]
        simp [hc]
      · rw [decide_eq_false hc] at hb
        refine ⟨_, hb, fun ρ x' lo' hi' hx hlo hhi => ?_⟩
        cases hx with | ptr _ hx =>
        refine ⟨_, .sl (o + ll * z) _ _ hx (Nat.sub_le_sub_right (hi_le h1 h2 (Nat.le_refl _)) _) (by omega), fun w => ?_⟩
        simp only [Instr.sliceAt, Sem.run_bind, run_underlying hu, Result.andThen_ok, Instr.sureAddr, Sem.run_pure, bounds_ok (abound_run h3 h1 hhi) (abound_run h6 h4 hlo), run_sizeOf hz]
        simp [hc, addr_add, Nat.add_assoc]
    · exact h.elim
  · exact h.elim
end Go.Tb
