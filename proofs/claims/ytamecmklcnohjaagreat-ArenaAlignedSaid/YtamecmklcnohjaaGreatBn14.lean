import Derived.Test.YtamecmklcnohjaaGreatBn13
import Derived.Test.YtamecmklcnohjaaGreatBn12
import Derived.Test.YtamecmklcnohjaaGreatBn6
/- What the laws share: a separation logic over the model, and what the program's functions do, by it. Part 14 of 15: TabM ArDef TabL LdSt ArA. -/
namespace Go.Proofs.YtamecmklcnohjaaGreat.Sep
open Go.RowKit
set_option linter.unusedSimpArgs false
set_option linter.unusedVariables false
/-! tables of arena.mark: contracts (printed by gentb.py) -/
structure MkT where
  mc : Int
  ml : Int
  at_ : Int
  ob : Int
  pd : Int
  of_ : Int
  tr : Int
abbrev mkRow (v : MkT) : List Value := [.int .i64 v.mc, .int .i64 v.ml, .int .u64 v.at_, .int .u64 v.ob, .int .u64 v.pd, .int .u64 v.of_, .int .i64 v.tr]
def eTM : E MkT := ⟨7, true, fun v => mkRow v, fun _ => rfl, fun _ _ h => by simp at h; rcases h with rfl | rfl | rfl | rfl | rfl | rfl | rfl <;> rfl, by decide, fun h => by cases h⟩
abbrev tvalM (v : MkT) : Value := (.agg (mkRow v).toArray)
abbrev TblM (b : Nat) (t : Tb (MkT)) : HP := Tbl eTM 230 b t
set_option maxHeartbeats 8000000
attribute [local irreducible] X XE XO XD XDi XDa PV RV DV pt base Spec Sl Mp Keeps
attribute [local irreducible] Tbl
instance teq_tmM : TEq Tryz.prog 282 [.i64, .i64] := ⟨_, Tryz.underlying282, by kernel_rfl, by kernel_rfl, ⟨by decide, rfl, Tryz.underlying3, by decide, rfl, Tryz.underlying3, trivial⟩⟩
theorem tnewM (k : Int) : Spec Tryz.prog 87 [.int .i64 k] [] (fun v L => ∃ b, v = .pointer (some ⟨b, 0, none⟩) ∧ L = [TblM b ⟨k, [], []⟩]) := by
  refine Spec.intro (IsEnt.out) Tryz.func87 rfl Tryz.ntmps87 (by simp) (fun w0 F => ?_)
  simp only [envOf, List.zipIdx, List.map, List.cons_append, List.nil_append, Nat.zero_add, Nat.reduceAdd]
  repeat (first | refine Zq ?_ | refine Zs ?_ | refine ZT ?_ | refine ZF ?_ | refine Zc ?_ | refine XO_gU (hk := ?_))
  refine XO_pv (pv_buildG [.int .i64 k, .slice none 0 0, .slice none 0 0]) (hk := ?_)
  repeat (first | refine Zq ?_ | refine Zs ?_ | refine ZT ?_ | refine ZF ?_ | refine Zc ?_ | refine XO_gU (hk := ?_))
  refine XO_dv dv_box (hk := ?_)
  rintro _ _ ⟨b, rfl, rfl⟩
  repeat (first | refine Zq ?_ | refine Zs ?_ | refine ZT ?_ | refine ZF ?_ | refine Zc ?_ | refine XO_gU (hk := ?_))
  refine XE_conv (fun _ h => SL_nilSl (eSlt eTM) h) ?_
  refine XE_conv (fun _ h => SL_nilSl (eI .i64) h) ?_
  refine XE_ret (.inl rfl) (tells_tmps rfl rfl) ⟨_, ⟨b, rfl, rfl⟩, ?_⟩
  simp only [List.cons_append, List.nil_append]
  refine ent_fold (by repeat (first | exact FindAll.nil | exact Find.here | apply Find.there | apply FindAll.cons)) (Tbl.fold (eV := eTM) (t := ⟨k, [], []⟩) (a1 := none) (n1 := 0) (c1 := 0) (a2 := none) (n2 := 0) (c2 := 0) rfl rfl) ?_
  ((try simp only [List.cons_append, List.nil_append]); repeat (first | exact ent_refl | refine ent_take (by repeat (first | exact Find.here | apply Find.there)) ?_ | refine ent_drop ?_))
/-- A slot's handle. -/
theorem thandleM (b : Nat) (t : Tb (MkT)) {N : Nat} (hT : TbOk N t) (i : Nat) (hi : i < t.slots.length) (a1 : Option Addr) (c1 : Nat) (a2 : Option Addr) (n2 c2 : Nat) : Spec Tryz.prog 152 [.pointer (some ⟨b, 0, none⟩), .int .i64 i] [pt b (.cells (tbRow t.kind a1 t.slots.length c1 a2 n2 c2).toArray 230 (0, 0)), Sl (eSlt eTM) a1 c1 t.slots]
    (fun v L => v = .int .u64 (t.hAt i) ∧ L = [pt b (.cells (tbRow t.kind a1 t.slots.length c1 a2 n2 c2).toArray 230 (0, 0)), Sl (eSlt eTM) a1 c1 t.slots]) := by
  have hlen := hT.len
  have hN := hT.hN
  have hgn := hT.gen i
  have hkd := hT.kd
  refine Spec.intro (IsEnt.out) Tryz.func152 rfl Tryz.ntmps152 (by simp) (fun w0 F => ?_)
  simp only [envOf, List.zipIdx, List.map, List.cons_append, List.nil_append, Nat.zero_add, Nat.reduceAdd]
  have hget : t.slots[i]? = some t.slots[i] := List.getElem?_eq_getElem hi
  have hgg : t.genAt i = t.slots[i].2.2 := by unfold Tb.genAt; rw [hget]
  unfold Tb.hAt
  rw [hgg] at hgn ⊢
  generalize t.slots[i] = q at hget hgg hgn ⊢
  refine X_slopen (E' := eSlt eTM) (a := a1) (c := c1) (xs := t.slots) (by (repeat (first | exact Find.here | apply Find.there))) (by omega) ?_
  rintro qb o rfl
  repeat (first | refine Zq ?_ | refine Zs ?_ | refine ZT ?_ | refine ZF ?_ | refine Zc ?_ | refine XO_gU (hk := ?_))
  repeat (first | refine XD_pick (h := ?_) | refine Dq ?_ | refine Ds ?_ | refine XDi_gF (h := ?_) | refine XDi_gU (h := ?_) | refine X_draws (h := ?_))
  refine XD_one (h := ?_)
  refine XDa_dvA (dv_call (pack_spec t.kind i q.2.2 ⟨by omega, by omega⟩ ⟨by omega, by omega⟩ ⟨by omega, by omega⟩)) (hk := ?_)
  (rintro _ _ ⟨_, ⟨rfl, rfl⟩, rfl⟩; refine ⟨by (repeat (first | exact keeps_nil | exact keeps_fnil | refine keeps_skip (h := ?_) | refine keeps_takeQ (h := ?_))), ?_⟩)
  repeat (first | refine XD_pick (h := ?_) | refine Dq ?_ | refine Ds ?_ | refine XDi_gF (h := ?_) | refine XDi_gU (h := ?_) | refine X_draws (h := ?_))
  (refine XD_one (h := ?_); refine XDa_dvA (dv_of_rv (rv_of_pv pv_assign)) (hk := ?_); rintro _ _ ⟨rfl, rfl⟩; refine ⟨by (repeat (first | exact keeps_nil | exact keeps_fnil | refine keeps_skip (h := ?_) | refine keeps_takeQ (h := ?_))), ?_⟩)
  (refine XD_end (h := ?_); repeat (first | refine Zq ?_ | refine Zs ?_ | refine ZT ?_ | refine ZF ?_ | refine Zc ?_ | refine XO_gU (hk := ?_)))
  refine XE_ret (.inl rfl) (tells_tmps rfl rfl) ⟨_, ⟨rfl, rfl⟩, by ((try simp only [List.cons_append, List.nil_append]); repeat (first | exact ent_refl | refine ent_take (by repeat (first | exact Find.here | apply Find.there)) ?_ | refine ent_drop ?_))⟩
/-- Where a live handle's slot lies. -/
theorem tliveM (b : Nat) (t : Tb (MkT)) {N : Nat} (hT : TbOk N t) (h : Int) (h0 : 0 ≤ h) (h1 : h ≤ 18446744073709551615) (a1 : Option Addr) (c1 : Nat) (a2 : Option Addr) (n2 c2 : Nat) : Spec Tryz.prog 153 [.pointer (some ⟨b, 0, none⟩), .int .u64 h] [pt b (.cells (tbRow t.kind a1 t.slots.length c1 a2 n2 c2).toArray 230 (0, 0)), Sl (eSlt eTM) a1 c1 t.slots]
    (fun v L => v = .pointer (slotA a1 (eSlt eTM).sz (t.spot h)) ∧ L = [pt b (.cells (tbRow t.kind a1 t.slots.length c1 a2 n2 c2).toArray 230 (0, 0)), Sl (eSlt eTM) a1 c1 t.slots]) := by
  have hlen := hT.len
  have hN := hT.hN
  have hs0 : 0 ≤ hSlot h := Int.emod_nonneg _ (by decide)
  have hs1 : hSlot h < 4294967296 := Int.emod_lt_of_pos _ (by decide)
  refine Spec.intro (IsEnt.out) Tryz.func153 rfl Tryz.ntmps153 (by simp) (fun w0 F => ?_)
  simp only [envOf, List.zipIdx, List.map, List.cons_append, List.nil_append, Nat.zero_add, Nat.reduceAdd]
  repeat (first | refine Zq ?_ | refine Zs ?_ | refine ZT ?_ | refine ZF ?_ | refine Zc ?_ | refine XO_gU (hk := ?_))
  refine XO_call (unpack_spec h h0 h1) (hk := ?_)
  rintro _ _ ⟨rfl, rfl⟩
  unfold unpV
  by_cases hk : hKind h = 0
  · rw [if_pos hk, show t.spot h = none from if_neg (fun hh => hh.1 hk), show slotA a1 (eSlt eTM).sz none = none from by cases a1 <;> rfl]
    repeat (first | refine Zq ?_ | refine Zs ?_ | refine ZT ?_ | refine ZF ?_ | refine Zc ?_ | refine XO_gU (hk := ?_))
    repeat (first | refine XD_pick (h := ?_) | refine Dq ?_ | refine Ds ?_ | refine XDi_gF (h := ?_) | refine XDi_gU (h := ?_) | refine X_draws (h := ?_))
    (refine XD_end (h := ?_); repeat (first | refine Zq ?_ | refine Zs ?_ | refine ZT ?_ | refine ZF ?_ | refine Zc ?_ | refine XO_gU (hk := ?_)))
    (refine X_cond rfl (fun _ => ?_) (fun h => by cases h))
    repeat (first | refine Zq ?_ | refine Zs ?_ | refine ZT ?_ | refine ZF ?_ | refine Zc ?_ | refine XO_gU (hk := ?_))
    refine XE_ret (.inl rfl) (tells_tmps rfl rfl) ⟨_, ⟨rfl, rfl⟩, by ((try simp only [List.cons_append, List.nil_append]); repeat (first | exact ent_refl | refine ent_take (by repeat (first | exact Find.here | apply Find.there)) ?_ | refine ent_drop ?_))⟩
  rw [if_neg hk]
  repeat (first | refine Zq ?_ | refine Zs ?_ | refine ZT ?_ | refine ZF ?_ | refine Zc ?_ | refine XO_gU (hk := ?_))
  repeat (first | refine XD_pick (h := ?_) | refine Dq ?_ | refine Ds ?_ | refine XDi_gF (h := ?_) | refine XDi_gU (h := ?_) | refine X_draws (h := ?_))
  by_cases hi : (hSlot h).toNat < t.slots.length
  case neg =>
    rw [show decide ((t.slots.length : Int) ≤ hSlot h) = true from decide_eq_true (by omega), show t.spot h = none from if_neg (fun hh => hi (Tb.usedAt_lt hh.2.1)), show slotA a1 (eSlt eTM).sz none = none from by cases a1 <;> rfl]
    repeat (first | refine XD_pick (h := ?_) | refine Dq ?_ | refine Ds ?_ | refine XDi_gF (h := ?_) | refine XDi_gU (h := ?_) | refine X_draws (h := ?_))
    (refine XD_end (h := ?_); repeat (first | refine Zq ?_ | refine Zs ?_ | refine ZT ?_ | refine ZF ?_ | refine Zc ?_ | refine XO_gU (hk := ?_)))
    (refine X_cond rfl (fun _ => ?_) (fun h => by cases h))
    repeat (first | refine Zq ?_ | refine Zs ?_ | refine ZT ?_ | refine ZF ?_ | refine Zc ?_ | refine XO_gU (hk := ?_))
    refine XE_ret (.inl rfl) (tells_tmps rfl rfl) ⟨_, ⟨rfl, rfl⟩, by ((try simp only [List.cons_append, List.nil_append]); repeat (first | exact ent_refl | refine ent_take (by repeat (first | exact Find.here | apply Find.there)) ?_ | refine ent_drop ?_))⟩
  rw [show decide ((t.slots.length : Int) ≤ hSlot h) = false from decide_eq_false (by omega)]
  have hget : t.slots[(hSlot h).toNat]? = some t.slots[(hSlot h).toNat] := List.getElem?_eq_getElem hi
  have hsp : t.spot h = if t.slots[(hSlot h).toNat].2.1 = true ∧ hKind h = t.kind ∧ hGen h = t.slots[(hSlot h).toNat].2.2 then some (hSlot h).toNat else none := by
    unfold Tb.spot Tb.usedAt Tb.genAt
    rw [hget]
    simp only [ne_eq, hk, not_false_eq_true, true_and]
  rw [hsp]
  generalize t.slots[(hSlot h).toNat] = q at hget ⊢
  refine XDi_view (E' := eSlt eTM) (a := a1) (xs := t.slots) (hV := Sl.view) (hp := by omega) (h := ?_)
  rintro qb o rfl
  repeat (first | refine XD_pick (h := ?_) | refine Dq ?_ | refine Ds ?_ | refine XDi_gF (h := ?_) | refine XDi_gU (h := ?_) | refine X_draws (h := ?_))
  obtain ⟨v, u, g⟩ := q
  dsimp only at hget ⊢
  cases u with
  | false =>
    rw [if_neg (fun hh => by cases hh.1), show slotA (some ⟨qb, o, none⟩) (eSlt eTM).sz none = none from rfl]
    repeat (first | refine XD_pick (h := ?_) | refine Dq ?_ | refine Ds ?_ | refine XDi_gF (h := ?_) | refine XDi_gU (h := ?_) | refine X_draws (h := ?_))
    (refine XD_end (h := ?_); repeat (first | refine Zq ?_ | refine Zs ?_ | refine ZT ?_ | refine ZF ?_ | refine Zc ?_ | refine XO_gU (hk := ?_)))
    (refine X_cond rfl (fun _ => ?_) (fun h => by cases h))
    repeat (first | refine Zq ?_ | refine Zs ?_ | refine ZT ?_ | refine ZF ?_ | refine Zc ?_ | refine XO_gU (hk := ?_))
    refine XE_ret (.inl rfl) (tells_tmps rfl rfl) ⟨_, ⟨rfl, rfl⟩, by ((try simp only [List.cons_append, List.nil_append]); repeat (first | exact ent_refl | refine ent_take (by repeat (first | exact Find.here | apply Find.there)) ?_ | refine ent_drop ?_))⟩
  | true =>
    repeat (first | refine XD_pick (h := ?_) | refine Dq ?_ | refine Ds ?_ | refine XDi_gF (h := ?_) | refine XDi_gU (h := ?_) | refine X_draws (h := ?_))
    refine Dp (pv_neRec [hKind h, hGen h] [t.kind, g]) ?_
    repeat (first | refine XD_pick (h := ?_) | refine Dq ?_ | refine Ds ?_ | refine XDi_gF (h := ?_) | refine XDi_gU (h := ?_) | refine X_draws (h := ?_))
    (refine XD_end (h := ?_); repeat (first | refine Zq ?_ | refine Zs ?_ | refine ZT ?_ | refine ZF ?_ | refine Zc ?_ | refine XO_gU (hk := ?_)))
    by_cases he : hKind h = t.kind ∧ hGen h = g
    · rw [if_pos ⟨rfl, he⟩]
      refine X_cond rfl (fun hh => by simp [he.1, he.2] at hh) (fun _ => ?_)
      repeat (first | refine Zq ?_ | refine Zs ?_ | refine ZT ?_ | refine ZF ?_ | refine Zc ?_ | refine XO_gU (hk := ?_))
      refine XE_ret (.inl rfl) (tells_tmps rfl rfl) ⟨_, ⟨rfl, rfl⟩, by ((try simp only [List.cons_append, List.nil_append]); repeat (first | exact ent_refl | refine ent_take (by repeat (first | exact Find.here | apply Find.there)) ?_ | refine ent_drop ?_))⟩
    · rw [if_neg (fun hh => he hh.2), show slotA (some ⟨qb, o, none⟩) (eSlt eTM).sz none = none from rfl]
      refine X_cond rfl (fun _ => ?_) (fun hh => by simp at hh; exact absurd hh he)
      repeat (first | refine Zq ?_ | refine Zs ?_ | refine ZT ?_ | refine ZF ?_ | refine Zc ?_ | refine XO_gU (hk := ?_))
      refine XE_ret (.inl rfl) (tells_tmps rfl rfl) ⟨_, ⟨rfl, rfl⟩, by ((try simp only [List.cons_append, List.nil_append]); repeat (first | exact ent_refl | refine ent_take (by repeat (first | exact Find.here | apply Find.there)) ?_ | refine ent_drop ?_))⟩
/-- The thing of a handle. -/
theorem tgetM (b : Nat) (t : Tb (MkT)) {N : Nat} (hT : TbOk N t) (h : Int) (h0 : 0 ≤ h) (h1 : h ≤ 18446744073709551615) : Spec Tryz.prog 106 [.pointer (some ⟨b, 0, none⟩), .int .u64 h] [TblM b t]
    (fun v L => v = .tuple #[tvalM ((t.get h).getD ⟨0, 0, 0, 0, 0, 0, 0⟩), .bool (t.get h).isSome] ∧ L = [TblM b t]) := by
  refine Spec.intro (IsEnt.out) Tryz.func106 rfl Tryz.ntmps106 (by simp) (fun w0 F => ?_)
  simp only [envOf, List.zipIdx, List.map, List.cons_append, List.nil_append, Nat.zero_add, Nat.reduceAdd]
  refine X_open (A := TblM b t) (by (repeat (first | exact Find.here | apply Find.there))) Tbl.open ?_
  rintro ⟨⟨a1, c1⟩, a2, c2⟩ -
  dsimp only [List.cons_append, List.nil_append]
  repeat (first | refine Zq ?_ | refine Zs ?_ | refine ZT ?_ | refine ZF ?_ | refine Zc ?_ | refine XO_gU (hk := ?_))
  refine XO_dv dv_alloc (hk := ?_)
  rintro _ _ ⟨rb, rfl, rfl⟩
  repeat (first | refine Zq ?_ | refine Zs ?_ | refine ZT ?_ | refine ZF ?_ | refine Zc ?_ | refine XO_gU (hk := ?_))
  refine XO_call (tliveM b t hT h h0 h1 a1 c1 a2 t.free.length c2) (hk := ?_)
  rintro _ _ ⟨rfl, rfl⟩
  cases hs : t.spot h with
  | none =>
    rw [show slotA a1 (eSlt eTM).sz none = none from by cases a1 <;> rfl, show t.get h = none from by unfold Tb.get; rw [hs]; rfl]
    repeat (first | refine Zq ?_ | refine Zs ?_ | refine ZT ?_ | refine ZF ?_ | refine Zc ?_ | refine XO_gU (hk := ?_))
    (refine X_cond rfl (fun _ => ?_) (fun h => by cases h))
    repeat (first | refine Zq ?_ | refine Zs ?_ | refine ZT ?_ | refine ZF ?_ | refine Zc ?_ | refine XO_gU (hk := ?_))
    refine XO_dv dv_alloc (hk := ?_)
    rintro _ _ ⟨nb, rfl, rfl⟩
    repeat (first | refine Zq ?_ | refine Zs ?_ | refine ZT ?_ | refine ZF ?_ | refine Zc ?_ | refine XO_gU (hk := ?_))
    refine XO_dv0 dv_storeW (hk := ?_)
    rintro _ _ rfl
    repeat (first | refine Zq ?_ | refine Zs ?_ | refine ZT ?_ | refine ZF ?_ | refine Zc ?_ | refine XO_gU (hk := ?_))
    refine XE_fold (by repeat (first | exact FindAll.nil | exact Find.here | apply Find.there | apply FindAll.cons)) (Tbl.fold (eV := eTM) (t := t) (a1 := a1) (n1 := t.slots.length) (c1 := c1) (a2 := a2) (n2 := t.free.length) (c2 := c2) rfl rfl) ?_
    refine XE_ret (.inl rfl) (tells_many (vs := [tvalM ⟨0, 0, 0, 0, 0, 0, 0⟩, .bool false]) rfl ⟨told_cell, told_tmp, trivial⟩) ⟨_, ⟨rfl, rfl⟩, by ((try simp only [List.cons_append, List.nil_append]); repeat (first | exact ent_refl | refine ent_take (by repeat (first | exact Find.here | apply Find.there)) ?_ | refine ent_drop ?_))⟩
  | some i =>
    obtain ⟨_, hu, _, _, _, hi⟩ := Tb.spot_some hs
    have hget : t.slots[i]? = some t.slots[i] := List.getElem?_eq_getElem hi
    have hg2 : t.get h = some t.slots[i].1 := by unfold Tb.get; rw [hs]; show Option.map _ _ = _; rw [hget]; rfl
    rw [hg2]
    refine XO_slopen (E' := eSlt eTM) (a := a1) (c := c1) (xs := t.slots) (by (repeat (first | exact Find.here | apply Find.there))) (by omega) ?_
    rintro qb o rfl
    rw [show slotA (some ⟨qb, o, none⟩) (eSlt eTM).sz (some i) = some ⟨qb, o + i * (eSlt eTM).sz, none⟩ from rfl]
    repeat (first | refine Zq ?_ | refine Zs ?_ | refine ZT ?_ | refine ZF ?_ | refine Zc ?_ | refine XO_gU (hk := ?_))
    (refine X_cond rfl (fun h => by cases h) (fun _ => ?_))
    repeat (first | refine Zq ?_ | refine Zs ?_ | refine ZT ?_ | refine ZF ?_ | refine Zc ?_ | refine XO_gU (hk := ?_))
    refine XO_rv (rv_elS (E' := eSlt eTM) (xs := t.slots) i 0 (vs := eTM.cells t.slots[i].1)) (hk := ?_)
    repeat (first | refine Zq ?_ | refine Zs ?_ | refine ZT ?_ | refine ZF ?_ | refine Zc ?_ | refine XO_gU (hk := ?_))
    refine XO_dv0 dv_storeW (hk := ?_)
    rintro _ _ rfl
    repeat (first | refine Zq ?_ | refine Zs ?_ | refine ZT ?_ | refine ZF ?_ | refine Zc ?_ | refine XO_gU (hk := ?_))
    trace_state
    refine XE_fold (by repeat (first | exact FindAll.nil | exact Find.here | apply Find.there | apply FindAll.cons)) (Tbl.fold (eV := eTM) (t := t) (a1 := some ⟨qb, o, none⟩) (n1 := t.slots.length) (c1 := c1) (a2 := a2) (n2 := t.free.length) (c2 := c2) rfl rfl) ?_
    refine XE_ret (.inl rfl) (tells_many (vs := [tvalM t.slots[i].1, .bool true]) rfl ⟨told_cell, told_tmp, trivial⟩) ⟨_, ⟨rfl, rfl⟩, by ((try simp only [List.cons_append, List.nil_append]); repeat (first | exact ent_refl | refine ent_take (by repeat (first | exact Find.here | apply Find.there)) ?_ | refine ent_drop ?_))⟩
/-- One thing more. -/
theorem taddM (b : Nat) (t : Tb (MkT)) {N : Nat} (hT : TbOk N t) (hN : N + 1 ≤ 1000000) (v : MkT) : Spec Tryz.prog 104 [.pointer (some ⟨b, 0, none⟩), tvalM v] [TblM b t]
    (fun u L => u = .int .u64 t.addH ∧ L = [TblM b (t.add v)]) := by
  have hlen := hT.len
  have hkd := hT.kd
  have hnx := hT.nx_le
  refine Spec.intro (IsEnt.out) Tryz.func104 rfl Tryz.ntmps104 (by simp) (fun w0 F => ?_)
  simp only [envOf, List.zipIdx, List.map, List.cons_append, List.nil_append, Nat.zero_add, Nat.reduceAdd]
  refine X_open (A := TblM b t) (by (repeat (first | exact Find.here | apply Find.there))) Tbl.open ?_
  rintro ⟨⟨a1, c1⟩, a2, c2⟩ -
  dsimp only [List.cons_append, List.nil_append]
  repeat (first | refine Zq ?_ | refine Zs ?_ | refine ZT ?_ | refine ZF ?_ | refine Zc ?_ | refine XO_gU (hk := ?_))
  refine XO_dv (dv_box (row := eTM.cells v)) (hk := ?_)
  rintro _ _ ⟨vb, rfl, rfl⟩
  repeat (first | refine Zq ?_ | refine Zs ?_ | refine ZT ?_ | refine ZF ?_ | refine Zc ?_ | refine XO_gU (hk := ?_))
  refine XO_call (pack_spec t.kind 0 0 ⟨by omega, by omega⟩ ⟨by omega, by omega⟩ ⟨by omega, by omega⟩) (hk := ?_)
  rintro _ _ ⟨rfl, rfl⟩
  have hpk : (packI t.kind 0 0 == 0) = false := by rw [beq_eq_false_iff_ne]; exact pack_ne ⟨hkd.1, hkd.2, by decide, by decide⟩
  repeat (first | refine Zq ?_ | refine Zs ?_ | refine ZT ?_ | refine ZF ?_ | refine Zc ?_ | refine XO_gU (hk := ?_))
  refine X_cond rfl (fun hh => by rw [hpk] at hh; cases hh) (fun _ => ?_)
  refine X_skip ?_
  refine XE_code ?_
  refine X_seq ?_
  refine X_region ?_
  (repeat (first | refine Zq ?_ | refine Zs ?_ | refine ZT ?_ | refine ZF ?_ | refine XO_gU (hk := ?_)))
  have hfl2 := hT.fl
  have hrl := Tb.room_lt hT (⟨0, 0, 0, 0, 0, 0, 0⟩ : MkT)
  have hrg := Tb.room_gen hT (⟨0, 0, 0, 0, 0, 0, 0⟩ : MkT) hrl
  have hae := Tb.add_eq hT (⟨0, 0, 0, 0, 0, 0, 0⟩ : MkT) v
  have hTa := hT.add hN v
  have hag : (t.add v).hAt t.nx = t.addH := by unfold Tb.addH Tb.hAt; rw [Tb.add_gen hT v, show (t.add v).kind = t.kind from by rw [hae]]
  refine XO_nil ?_
  refine XE_code ?_
  refine X_seq ?_
  refine X_join (ι := (Option Addr × Nat) × (Option Addr × Nat)) (fun _ => True) (fun _ => [(0, .pointer (some ⟨b, 0, none⟩)),
 (3, .pointer (some ⟨vb, 0, none⟩)),
    (5, .int .i64 (t.nx : Int))]) (fun y => [
  pt vb (.cells (eTM.cells v).toArray 160 (0, 0)),
    pt b (.cells (tbRow t.kind y.1.1 (t.room (⟨0, 0, 0, 0, 0, 0, 0⟩ : MkT)).slots.length y.1.2 y.2.1 (t.room (⟨0, 0, 0, 0, 0, 0, 0⟩ : MkT)).free.length y.2.2).toArray 230 (0, 0)), Sl (eSlt eTM) y.1.1 y.1.2 (t.room (⟨0, 0, 0, 0, 0, 0, 0⟩ : MkT)).slots, Sl (eI .i64) y.2.1 y.2.2 (t.room (⟨0, 0, 0, 0, 0, 0, 0⟩ : MkT)).free] ++ F) ?_ ?_
  · repeat (first | refine Zq ?_ | refine Zs ?_ | refine ZT ?_ | refine ZF ?_ | refine Zc ?_ | refine XO_gU (hk := ?_))
    cases hl : t.free.getLast? with
    | none =>
      have hf0 : t.free = [] := List.getLast?_eq_none_iff.1 hl
      have hf1 : t.free.length = 0 := by rw [hf0]; rfl
      have hrm : t.room (⟨0, 0, 0, 0, 0, 0, 0⟩ : MkT) = ⟨t.kind, t.slots ++ [(⟨0, 0, 0, 0, 0, 0, 0⟩, false, 0)], t.free⟩ := by unfold Tb.room; rw [hl]
      have hn0 : t.nx = t.slots.length := by unfold Tb.nx; rw [hl]
      refine X_cond rfl (fun hh => by simp at hh; omega) (fun _ => ?_)
      repeat (first | refine Zq ?_ | refine Zs ?_ | refine ZT ?_ | refine ZF ?_ | refine Zc ?_ | refine XO_gU (hk := ?_))
      refine XO_lit (E' := eSlt eTM) [((⟨0, 0, 0, 0, 0, 0, 0⟩ : MkT), false, (0 : Int))] (hk := ?_)
      intro lb
      repeat (first | refine Zq ?_ | refine Zs ?_ | refine ZT ?_ | refine ZF ?_ | refine Zc ?_ | refine XO_gU (hk := ?_))
      refine XO_dv (dv_append (E' := eSlt eTM) (xs := t.slots) (ys := [((⟨0, 0, 0, 0, 0, 0, 0⟩ : MkT), false, (0 : Int))]) (hv := Sl.view) (hb := by simp; omega)) (hk := ?_)
      rintro _ _ ⟨a', c', rfl, rfl⟩
      repeat (first | refine Zq ?_ | refine Zs ?_ | refine ZT ?_ | refine ZF ?_ | refine Zc ?_ | refine XO_gU (hk := ?_))
      refine XO_dv0 dv_store (hk := ?_)
      rintro _ _ rfl
      repeat (first | refine Zq ?_ | refine Zs ?_ | refine ZT ?_ | refine ZF ?_ | refine Zc ?_ | refine XO_gU (hk := ?_))
      rw [hrm, hn0]
      exact X_meet ((a', c'), (a2, c2)) trivial (by (repeat (first | exact Env.sub_nil _ | refine Env.sub_cons rfl ?_))) (by ((try simp only [List.cons_append, List.nil_append]); repeat (first | exact ent_nil | exact ent_refl | refine ent_take (by repeat (first | exact Find.here | apply Find.there)) ?_ | refine ent_drop ?_)))
    | some i =>
      have hne : t.free ≠ [] := fun e => by rw [e] at hl; cases hl
      have hfl : 0 < t.free.length := List.length_pos_iff.2 hne
      have hi := hT.free i (List.mem_of_getLast? hl)
      have hrm : t.room (⟨0, 0, 0, 0, 0, 0, 0⟩ : MkT) = ⟨t.kind, t.slots, t.free.dropLast⟩ := by unfold Tb.room; rw [hl]
      have hn0 : t.nx = i.toNat := by unfold Tb.nx; rw [hl]
      have hgl : t.free[((t.free.length : Int) - 1).toNat]? = some i := by
        rw [show ((t.free.length : Int) - 1).toNat = t.free.length - 1 from by omega]
        rw [List.getLast?_eq_getElem?] at hl; exact hl
      refine X_cond rfl (fun _ => ?_) (fun hh => by rw [decide_eq_true (by omega)] at hh; cases hh)
      refine X_slopen (E' := eI .i64) (a := a2) (c := c2) (xs := t.free) (by (repeat (first | exact Find.here | apply Find.there))) hfl ?_
      rintro fb fo rfl
      refine X_fact (A := Sl (eI .i64) (some ⟨fb, fo, none⟩) c2 t.free) (by (repeat (first | exact Find.here | apply Find.there))) Sl.cap (fun hcap => ?_)
      repeat (first | refine Zq ?_ | refine Zs ?_ | refine ZT ?_ | refine ZF ?_ | refine Zc ?_ | refine XO_gU (hk := ?_))
      refine XO_dv0 dv_store (hk := ?_)
      rintro _ _ rfl
      repeat (first | refine Zq ?_ | refine Zs ?_ | refine ZT ?_ | refine ZF ?_ | refine Zc ?_ | refine XO_gU (hk := ?_))
      rw [show ((t.free.length : Int) - 1).toNat = t.free.dropLast.length from by rw [List.length_dropLast]; omega]
      refine XE_conv (fun _ => SL_take (E' := eI .i64) (a := some ⟨fb, fo, none⟩) (c := c2) (xs := t.free) (t.free.length - 1) (by (repeat (first | exact Find.here | apply Find.there)))) ?_
      rw [← List.dropLast_eq_take, hrm, hn0, show (i.toNat : Int) = i from by omega]
      exact X_meet ((a1, c1), (some ⟨fb, fo, none⟩, c2)) trivial (by (repeat (first | exact Env.sub_nil _ | refine Env.sub_cons rfl ?_))) (by ((try simp only [List.cons_append, List.nil_append]); repeat (first | exact ent_nil | exact ent_refl | refine ent_take (by repeat (first | exact Find.here | apply Find.there)) ?_ | refine ent_drop ?_)))
  rintro ⟨⟨a1, c1⟩, a2, c2⟩ -
  dsimp only
  generalize hxs : (t.room (⟨0, 0, 0, 0, 0, 0, 0⟩ : MkT)).slots = xs at hrl hrg hae ⊢
  have hgx : xs[t.nx]? = some xs[t.nx] := List.getElem?_eq_getElem hrl
  refine X_slopen (E' := eSlt eTM) (a := a1) (c := c1) (xs := xs) (by (repeat (first | exact Find.here | apply Find.there))) (by omega) ?_
  rintro qb o rfl
  repeat (first | refine Zq ?_ | refine Zs ?_ | refine ZT ?_ | refine ZF ?_ | refine Zc ?_ | refine XO_gU (hk := ?_))
  repeat (first | refine XD_pick (h := ?_) | refine Dq ?_ | refine Ds ?_ | refine XDi_gF (h := ?_) | refine XDi_gU (h := ?_) | refine X_draws (h := ?_))
  refine XD_one (h := ?_)
  refine XDa_dvk0 (dv_putEl (E' := eSlt eTM) (i := t.nx) (s := (eSlt eTM).sz) (f := 0) (xs := xs) (vs := eTM.cells v) (v, xs[t.nx].2.1, xs[t.nx].2.2) (by (repeat (first | exact Find.here | apply Find.there))) rfl rfl rfl (eTM.one v) rfl rfl hrl (by rw [eTM.len]; decide) rfl) (K := _) (hk := ?_)
  rintro _ _ rfl
  refine ⟨by (repeat (first | exact keeps_nil | exact keeps_fnil | refine keeps_skip (h := ?_) | refine keeps_takeQ (h := ?_))), ?_⟩
  have hrl2 : t.nx < (xs.set t.nx (v, xs[t.nx].2.1, xs[t.nx].2.2)).length := by rw [List.length_set]; exact hrl
  repeat (first | refine XD_pick (h := ?_) | refine Dq ?_ | refine Ds ?_ | refine XDi_gF (h := ?_) | refine XDi_gU (h := ?_) | refine X_draws (h := ?_))
  refine XD_one (h := ?_)
  refine XDa_dvk0 (dv_putEl (E' := eSlt eTM) (i := t.nx) (s := (eSlt eTM).sz) (f := eTM.sz) (xs := xs.set t.nx (v, xs[t.nx].2.1, xs[t.nx].2.2)) (vs := [.bool true]) (v, true, xs[t.nx].2.2) (by (repeat (first | exact Find.here | apply Find.there))) rfl rfl rfl (fun u hu => by simp at hu; subst hu; rfl) rfl rfl hrl2 (by decide) (by rw [List.getElem_set_self]; rfl)) (K := _) (hk := ?_)
  rintro _ _ rfl
  refine ⟨by (repeat (first | exact keeps_nil | exact keeps_fnil | refine keeps_skip (h := ?_) | refine keeps_takeQ (h := ?_))), ?_⟩
  (refine XD_end (h := ?_); repeat (first | refine Zq ?_ | refine Zs ?_ | refine ZT ?_ | refine ZF ?_ | refine Zc ?_ | refine XO_gU (hk := ?_)))
  rw [List.set_set, hrg]
  have hc := thandleM b (t.add v) hTa t.nx (by rw [hae]; show t.nx < (xs.set _ _).length; rw [List.length_set]; exact hrl) (some ⟨qb, o, none⟩) c1 a2 (t.room (⟨0, 0, 0, 0, 0, 0, 0⟩ : MkT)).free.length c2
  rw [hag, hae] at hc
  dsimp only at hc
  rw [List.length_set] at hc
  repeat (first | refine Zq ?_ | refine Zs ?_ | refine ZT ?_ | refine ZF ?_ | refine Zc ?_ | refine XO_gU (hk := ?_))
  refine XO_call hc (hk := ?_)
  rintro _ _ ⟨rfl, rfl⟩
  repeat (first | refine Zq ?_ | refine Zs ?_ | refine ZT ?_ | refine ZF ?_ | refine Zc ?_ | refine XO_gU (hk := ?_))
  rw [hae]
  refine XE_fold (by repeat (first | exact FindAll.nil | exact Find.here | apply Find.there | apply FindAll.cons)) (Tbl.fold (eV := eTM) (T := 230) (b := b) (t := ⟨t.kind, xs.set t.nx (v, true, t.genAt t.nx), (t.room (⟨0, 0, 0, 0, 0, 0, 0⟩ : MkT)).free⟩) (a1 := some ⟨qb, o, none⟩) (n1 := xs.length) (c1 := c1) (a2 := a2) (n2 := (t.room (⟨0, 0, 0, 0, 0, 0, 0⟩ : MkT)).free.length) (c2 := c2) (by show _ = (xs.set _ _).length; rw [List.length_set]) rfl) ?_
  refine XE_ret (.inl rfl) (tells_tmps rfl rfl) ⟨_, ⟨rfl, rfl⟩, by ((try simp only [List.cons_append, List.nil_append]); repeat (first | exact ent_refl | refine ent_take (by repeat (first | exact Find.here | apply Find.there)) ?_ | refine ent_drop ?_))⟩
/-- A thing is taken away. -/
theorem tdropM (b : Nat) (t : Tb (MkT)) {N : Nat} (hT : TbOk N t) (h : Int) (h0 : 0 ≤ h) (h1 : h ≤ 18446744073709551615) : Spec Tryz.prog 145 [.pointer (some ⟨b, 0, none⟩), .int .u64 h] [TblM b t]
    (fun u L => u = .bool (t.spot h).isSome ∧ L = [TblM b (t.drop ⟨0, 0, 0, 0, 0, 0, 0⟩ h)]) := by
  have hlen := hT.len
  have hkd := hT.kd
  have hfl2 := hT.fl
  have hN := hT.hN
  refine Spec.intro (IsEnt.out) Tryz.func145 rfl Tryz.ntmps145 (by simp) (fun w0 F => ?_)
  simp only [envOf, List.zipIdx, List.map, List.cons_append, List.nil_append, Nat.zero_add, Nat.reduceAdd]
  refine X_open (A := TblM b t) (by (repeat (first | exact Find.here | apply Find.there))) Tbl.open ?_
  rintro ⟨⟨a1, c1⟩, a2, c2⟩ -
  dsimp only [List.cons_append, List.nil_append]
  repeat (first | refine Zq ?_ | refine Zs ?_ | refine ZT ?_ | refine ZF ?_ | refine Zc ?_ | refine XO_gU (hk := ?_))
  refine XO_call (tliveM b t hT h h0 h1 a1 c1 a2 t.free.length c2) (hk := ?_)
  rintro _ _ ⟨rfl, rfl⟩
  cases hs : t.spot h with
  | none =>
    rw [show slotA a1 (eSlt eTM).sz none = none from by cases a1 <;> rfl, show t.drop ⟨0, 0, 0, 0, 0, 0, 0⟩ h = t from by unfold Tb.drop; rw [hs]]
    repeat (first | refine Zq ?_ | refine Zs ?_ | refine ZT ?_ | refine ZF ?_ | refine Zc ?_ | refine XO_gU (hk := ?_))
    (refine X_cond rfl (fun _ => ?_) (fun h => by cases h))
    repeat (first | refine Zq ?_ | refine Zs ?_ | refine ZT ?_ | refine ZF ?_ | refine Zc ?_ | refine XO_gU (hk := ?_))
    refine XE_fold (by repeat (first | exact FindAll.nil | exact Find.here | apply Find.there | apply FindAll.cons)) (Tbl.fold (eV := eTM) (t := t) (a1 := a1) (n1 := t.slots.length) (c1 := c1) (a2 := a2) (n2 := t.free.length) (c2 := c2) rfl rfl) ?_
    refine XE_ret (.inl rfl) (tells_tmps rfl rfl) ⟨_, ⟨rfl, rfl⟩, by ((try simp only [List.cons_append, List.nil_append]); repeat (first | exact ent_refl | refine ent_take (by repeat (first | exact Find.here | apply Find.there)) ?_ | refine ent_drop ?_))⟩
  | some i =>
    obtain ⟨hk0, hu, hkk, hgg, hsl, hi⟩ := Tb.spot_some hs
    have hgn := hT.gen i
    have hgi : t.slots[i].2.2 = t.genAt i := by unfold Tb.genAt; rw [List.getElem?_eq_getElem hi]
    have hget : t.slots[i]? = some t.slots[i] := List.getElem?_eq_getElem hi
    have hde : t.drop ⟨0, 0, 0, 0, 0, 0, 0⟩ h = ⟨t.kind, t.slots.set i (⟨0, 0, 0, 0, 0, 0, 0⟩, false, nextI (t.genAt i)), t.free ++ [(i : Int)]⟩ := by unfold Tb.drop; rw [hs]
    refine XO_slopen (E' := eSlt eTM) (a := a1) (c := c1) (xs := t.slots) (by (repeat (first | exact Find.here | apply Find.there))) (by omega) ?_
    rintro qb o rfl
    rw [show slotA (some ⟨qb, o, none⟩) (eSlt eTM).sz (some i) = some ⟨qb, o + i * (eSlt eTM).sz, none⟩ from rfl]
    repeat (first | refine Zq ?_ | refine Zs ?_ | refine ZT ?_ | refine ZF ?_ | refine Zc ?_ | refine XO_gU (hk := ?_))
    (refine X_cond rfl (fun h => by cases h) (fun _ => ?_))
    repeat (first | refine Zq ?_ | refine Zs ?_ | refine ZT ?_ | refine ZF ?_ | refine Zc ?_ | refine XO_gU (hk := ?_))
    refine XO_call (unpack_spec h h0 h1) (hk := ?_)
    rintro _ _ ⟨rfl, rfl⟩
    unfold unpV
    rw [if_neg hk0, show hSlot h = (i : Int) from by have h2 : 0 ≤ hSlot h := Int.emod_nonneg _ (by decide); omega]
    repeat (first | refine Zq ?_ | refine Zs ?_ | refine ZT ?_ | refine ZF ?_ | refine Zc ?_ | refine XO_gU (hk := ?_))
    rw [hgi]
    refine XO_call (next_spec (t.genAt i) (by omega) (by omega)) (hk := ?_)
    rintro _ _ ⟨rfl, rfl⟩
    refine XO_pv (pv_buildG (eTM.cells ⟨0, 0, 0, 0, 0, 0, 0⟩ ++ [.bool false, .int .i64 (nextI (t.genAt i))])) (hk := ?_)
    repeat (first | refine Zq ?_ | refine Zs ?_ | refine ZT ?_ | refine ZF ?_ | refine Zc ?_ | refine XO_gU (hk := ?_))
    refine XO_dv0 (dv_putElW (E' := eSlt eTM) (i := i) (xs := t.slots) (s := (eSlt eTM).sz) (⟨0, 0, 0, 0, 0, 0, 0⟩, false, nextI (t.genAt i))) (hk := ?_)
    rintro _ _ rfl
    repeat (first | refine Zq ?_ | refine Zs ?_ | refine ZT ?_ | refine ZF ?_ | refine Zc ?_ | refine XO_gU (hk := ?_))
    refine XO_lit (E' := eI .i64) [(i : Int)] (hk := ?_)
    intro lb
    repeat (first | refine Zq ?_ | refine Zs ?_ | refine ZT ?_ | refine ZF ?_ | refine Zc ?_ | refine XO_gU (hk := ?_))
    refine XO_dv (dv_append (E' := eI .i64) (xs := t.free) (ys := [(i : Int)]) (hv := Sl.view) (hb := by simp; omega)) (hk := ?_)
    rintro _ _ ⟨a', c', rfl, rfl⟩
    repeat (first | refine Zq ?_ | refine Zs ?_ | refine ZT ?_ | refine ZF ?_ | refine Zc ?_ | refine XO_gU (hk := ?_))
    refine XO_dv0 dv_store (hk := ?_)
    rintro _ _ rfl
    repeat (first | refine Zq ?_ | refine Zs ?_ | refine ZT ?_ | refine ZF ?_ | refine Zc ?_ | refine XO_gU (hk := ?_))
    rw [hde]
    refine XE_fold (by repeat (first | exact FindAll.nil | exact Find.here | apply Find.there | apply FindAll.cons)) (Tbl.fold (eV := eTM) (T := 230) (b := b) (t := ⟨t.kind, t.slots.set i (⟨0, 0, 0, 0, 0, 0, 0⟩, false, nextI (t.genAt i)), t.free ++ [(i : Int)]⟩) (a1 := some ⟨qb, o, none⟩) (n1 := t.slots.length) (c1 := c1) (a2 := a') (n2 := (t.free ++ [(i : Int)]).length) (c2 := c') (by show _ = (t.slots.set _ _).length; rw [List.length_set]) rfl) ?_
    refine XE_ret (.inl rfl) (tells_tmps rfl rfl) ⟨_, ⟨rfl, rfl⟩, by ((try simp only [List.cons_append, List.nil_append]); repeat (first | exact ent_refl | refine ent_take (by repeat (first | exact Find.here | apply Find.there)) ?_ | refine ent_drop ?_))⟩
end Go.Proofs.YtamecmklcnohjaaGreat.Sep
namespace Go.Proofs.YtamecmklcnohjaaGreat.Sep
open Go.RowKit
set_option linter.unusedSimpArgs false
set_option linter.unusedVariables false
/-! arenas: what they are made of -/
structure ABl where
  a : Nat
  s : Nat
  sb : Nat
  rt : Nat
  ot : Nat
  mt : Nat
  tt : Nat
  rr : Nat
structure Ar where
  C : Co
  m : Mm
  P : Int
  reg : Tb (Option Nat)
  M : List RgT
  obj : Tb (Int × Int × Int)
  mar : Tb MkT
  tr : List (Int × Int)
  rs : List (Int × Int)
abbrev arRow (x : ABl) : List Value := [.pointer (some ⟨x.s, 0, none⟩), .pointer (some ⟨x.rt, 0, none⟩), .pointer (some ⟨x.ot, 0, none⟩), .pointer (some ⟨x.mt, 0, none⟩), .pointer (some ⟨x.tt, 0, none⟩), .pointer (some ⟨x.rr, 0, none⟩)]
abbrev arL (x : ABl) (z : Ar) : List HP := [pt x.a (.cells (arRow x).toArray 166 (0, 0)), Ck x.s x.sb z.C, Spc x.sb z.P z.m, TblR x.rt z.reg, TblO x.ot z.obj, TblM x.mt z.mar, Tre x.tt z.tr, Ros x.rr z.rs, Star (RgOf x.s) z.M]
def Arn (x : ABl) (z : Ar) : HP := SLA (arL x z)
theorem Arn.open {x : ABl} {z : Ar} : ∀ H, Arn x z H → ∃ u : Unit, True ∧ SL (arL x z) H := fun H h => ⟨(), trivial, h⟩
theorem Arn.fold {x : ABl} {z : Ar} : ∀ H, SL (arL x z) H → Arn x z H := fun H h => h
/-- What contracts ask of an arena. -/
structure AOk (N : Nat) (z : Ar) : Prop where
  hN : N ≤ 100000
  R : RAll z.P N z.C z.m.f z.M
  rg : TbOk N z.reg
  ob : TbOk N z.obj
  mr : TbOk N z.mar
  k1 : z.reg.kind = 1
  k2 : z.obj.kind = 2
  k3 : z.mar.kind = 3
  T : TWf z.tr
  tl : z.tr.length ≤ N
  rl : z.rs.length ≤ N
  live : ∀ h v, z.reg.get h = some v → ∃ (i b : Nat) (S : Sh), v = some b ∧ z.M[i]? = some (b, h, S)
  own : ∀ q ∈ z.M, z.reg.get q.2.1 = some (some q.1)
  hb : ∀ q ∈ z.M, 0 ≤ q.2.1 ∧ q.2.1 ≤ 18446744073709551615
  nd : (z.M.map (·.2.1)).Nodup
  tk : ∀ h, h ∈ z.tr.map (·.1) ↔ (z.reg.get h).isSome
  pl : ∀ h o, z.obj.get h = some o → 0 ≤ o.1 ∧ 0 ≤ o.2.1 ∧ o.1 + o.2.1 ≤ z.P * 4096
  rb : ∀ q ∈ z.rs, 0 ≤ q.2 ∧ q.2 ≤ 18446744073709551615
theorem AOk.P {N : Nat} {z : Ar} (h : AOk N z) : 1 ≤ z.P ∧ z.P ≤ 1048576 := by
  have h1 := h.R.K.ci.ok.p1
  have h2 := h.R.K.ci.ok.p2
  have h3 := h.R.hP
  omega
set_option maxHeartbeats 8000000
attribute [local irreducible] X XE XO XD XDi XDa PV RV DV pt base Spec Sl Mp Keeps Pg Kc
attribute [local irreducible] Pgs Spc Ck XL XLi Pl Rs Rg View Tbl Tre Ros Star RgOf Arn
theorem ar_new (p : Int) : Spec Tryz.prog 30 [.int .i64 p] [] (fun v L => ∃ x : ABl, v = .pointer (some ⟨x.a, 0, none⟩) ∧ L = [Arn x ⟨⟨min (max p 1) 1048576, [(0, min (max p 1) 1048576)], fun _ => [], 0⟩, ⟨fun _ => 0, 0⟩, min (max p 1) 1048576, ⟨1, [], []⟩, [], ⟨2, [], []⟩, ⟨3, [], []⟩, [], []⟩]) := by
  refine Spec.intro (IsEnt.out) Tryz.func30 rfl Tryz.ntmps30 (by simp) (fun w0 F => ?_)
  simp only [envOf, List.zipIdx, List.map, List.cons_append, List.nil_append, Nat.zero_add, Nat.reduceAdd]
  repeat (first | refine Zq ?_ | refine Zs ?_ | refine ZT ?_ | refine ZF ?_ | refine Zc ?_ | refine XO_gU (hk := ?_))
  refine XO_call (knew_spec p) (hk := ?_)
  rintro _ _ ⟨s, sb, rfl, rfl⟩
  repeat (first | refine Zq ?_ | refine Zs ?_ | refine ZT ?_ | refine ZF ?_ | refine Zc ?_ | refine XO_gU (hk := ?_))
  refine XO_call (tnewR 1) (hk := ?_)
  rintro _ _ ⟨rt, rfl, rfl⟩
  repeat (first | refine Zq ?_ | refine Zs ?_ | refine ZT ?_ | refine ZF ?_ | refine Zc ?_ | refine XO_gU (hk := ?_))
  refine XO_call (tnewO 2) (hk := ?_)
  rintro _ _ ⟨ot, rfl, rfl⟩
  repeat (first | refine Zq ?_ | refine Zs ?_ | refine ZT ?_ | refine ZF ?_ | refine Zc ?_ | refine XO_gU (hk := ?_))
  refine XO_call (tnewM 3) (hk := ?_)
  rintro _ _ ⟨mt, rfl, rfl⟩
  repeat (first | refine Zq ?_ | refine Zs ?_ | refine ZT ?_ | refine ZF ?_ | refine Zc ?_ | refine XO_gU (hk := ?_))
  refine XO_call tr_new (hk := ?_)
  rintro _ _ ⟨tt, rfl, rfl⟩
  repeat (first | refine Zq ?_ | refine Zs ?_ | refine ZT ?_ | refine ZF ?_ | refine Zc ?_ | refine XO_gU (hk := ?_))
  refine XO_call ros_new (hk := ?_)
  rintro _ _ ⟨rr, rfl, rfl⟩
  repeat (first | refine Zq ?_ | refine Zs ?_ | refine ZT ?_ | refine ZF ?_ | refine Zc ?_ | refine XO_gU (hk := ?_))
  refine XO_dv dv_box (hk := ?_)
  rintro _ _ ⟨a, rfl, rfl⟩
  repeat (first | refine Zq ?_ | refine Zs ?_ | refine ZT ?_ | refine ZF ?_ | refine Zc ?_ | refine XO_gU (hk := ?_))
  refine XE_conv (fun _ h => Star.nil (f := RgOf s) h) ?_
  refine XE_fold (by repeat (first | exact FindAll.nil | exact Find.here | apply Find.there | apply FindAll.cons)) (Arn.fold (x := ⟨a, s, sb, rt, ot, mt, tt, rr⟩) (z := ⟨⟨min (max p 1) 1048576, [(0, min (max p 1) 1048576)], fun _ => [], 0⟩, ⟨fun _ => 0, 0⟩, min (max p 1) 1048576, ⟨1, [], []⟩, [], ⟨2, [], []⟩, ⟨3, [], []⟩, [], []⟩)) ?_
  refine XE_ret (.inl rfl) (tells_tmps rfl rfl) ⟨_, ⟨⟨a, s, sb, rt, ot, mt, tt, rr⟩, rfl, rfl⟩, by ((try simp only [List.cons_append, List.nil_append]); repeat (first | exact ent_refl | refine ent_take (by repeat (first | exact Find.here | apply Find.there)) ?_ | refine ent_drop ?_))⟩
theorem ar_region (x : ABl) (z : Ar) {N : Nat} (hA : AOk N z) (h : Int) (h0 : 0 ≤ h) (h1 : h ≤ 18446744073709551615) : Spec Tryz.prog 90 [.pointer (some ⟨x.a, 0, none⟩), .int .u64 h] [Arn x z] (fun v L => v = .tuple #[npV ((z.reg.get h).getD none), .bool (z.reg.get h).isSome] ∧ L = [Arn x z]) := by
  refine Spec.intro (IsEnt.out) Tryz.func90 rfl Tryz.ntmps90 (by simp) (fun w0 F => ?_)
  simp only [envOf, List.zipIdx, List.map, List.cons_append, List.nil_append, Nat.zero_add, Nat.reduceAdd]
  refine X_open (A := Arn x z) (by (repeat (first | exact Find.here | apply Find.there))) Arn.open ?_
  rintro ⟨⟩ -
  dsimp only [List.cons_append, List.nil_append]
  repeat (first | refine Zq ?_ | refine Zs ?_ | refine ZT ?_ | refine ZF ?_ | refine Zc ?_ | refine XO_gU (hk := ?_))
  refine X_cond rfl (fun h => by cases h) (fun _ => ?_)
  repeat (first | refine Zq ?_ | refine Zs ?_ | refine ZT ?_ | refine ZF ?_ | refine Zc ?_ | refine XO_gU (hk := ?_))
  refine XO_call (tgetR x.rt z.reg hA.rg h h0 h1) (hk := ?_)
  rintro _ _ ⟨rfl, rfl⟩
  repeat (first | refine Zq ?_ | refine Zs ?_ | refine ZT ?_ | refine ZF ?_ | refine Zc ?_ | refine XO_gU (hk := ?_))
  refine XE_fold (by repeat (first | exact FindAll.nil | exact Find.here | apply Find.there | apply FindAll.cons)) (Arn.fold (x := x) (z := z)) ?_
  refine XE_ret (.inl rfl) (tells_tmps rfl rfl) ⟨_, ⟨rfl, rfl⟩, by ((try simp only [List.cons_append, List.nil_append]); repeat (first | exact ent_refl | refine ent_take (by repeat (first | exact Find.here | apply Find.there)) ?_ | refine ent_drop ?_))⟩
theorem ar_object (x : ABl) (z : Ar) {N : Nat} (hA : AOk N z) (h : Int) (h0 : 0 ≤ h) (h1 : h ≤ 18446744073709551615) : Spec Tryz.prog 101 [.pointer (some ⟨x.a, 0, none⟩), .int .u64 h] [Arn x z] (fun v L => v = .tuple #[tvalO ((z.obj.get h).getD (0, 0, 0)), .bool (z.obj.get h).isSome] ∧ L = [Arn x z]) := by
  refine Spec.intro (IsEnt.out) Tryz.func101 rfl Tryz.ntmps101 (by simp) (fun w0 F => ?_)
  simp only [envOf, List.zipIdx, List.map, List.cons_append, List.nil_append, Nat.zero_add, Nat.reduceAdd]
  refine X_open (A := Arn x z) (by (repeat (first | exact Find.here | apply Find.there))) Arn.open ?_
  rintro ⟨⟩ -
  dsimp only [List.cons_append, List.nil_append]
  repeat (first | refine Zq ?_ | refine Zs ?_ | refine ZT ?_ | refine ZF ?_ | refine Zc ?_ | refine XO_gU (hk := ?_))
  refine XO_dv dv_alloc (hk := ?_)
  rintro _ _ ⟨rb, rfl, rfl⟩
  repeat (first | refine Zq ?_ | refine Zs ?_ | refine ZT ?_ | refine ZF ?_ | refine Zc ?_ | refine XO_gU (hk := ?_))
  refine X_cond rfl (fun h => by cases h) (fun _ => ?_)
  repeat (first | refine Zq ?_ | refine Zs ?_ | refine ZT ?_ | refine ZF ?_ | refine Zc ?_ | refine XO_gU (hk := ?_))
  refine XO_call (tgetO x.ot z.obj hA.ob h h0 h1) (hk := ?_)
  rintro _ _ ⟨rfl, rfl⟩
  repeat (first | refine Zq ?_ | refine Zs ?_ | refine ZT ?_ | refine ZF ?_ | refine Zc ?_ | refine XO_gU (hk := ?_))
  refine XO_dv0 (dv_storeW (vs := eTO.cells ((z.obj.get h).getD (0, 0, 0)))) (hk := ?_)
  rintro _ _ rfl
  repeat (first | refine Zq ?_ | refine Zs ?_ | refine ZT ?_ | refine ZF ?_ | refine Zc ?_ | refine XO_gU (hk := ?_))
  refine XE_fold (by repeat (first | exact FindAll.nil | exact Find.here | apply Find.there | apply FindAll.cons)) (Arn.fold (x := x) (z := z)) ?_
  refine XE_ret (.inl rfl) (tells_many (vs := [tvalO ((z.obj.get h).getD (0, 0, 0)), .bool (z.obj.get h).isSome]) rfl ⟨told_cell, told_tmp, trivial⟩) ⟨_, ⟨rfl, rfl⟩, by ((try simp only [List.cons_append, List.nil_append]); repeat (first | exact ent_refl | refine ent_take (by repeat (first | exact Find.here | apply Find.there)) ?_ | refine ent_drop ?_))⟩
theorem ar_place (x : ABl) (z : Ar) {N : Nat} (hA : AOk N z) (h : Int) (h0 : 0 ≤ h) (h1 : h ≤ 18446744073709551615) : Spec Tryz.prog 34 [.pointer (some ⟨x.a, 0, none⟩), .int .u64 h] [Arn x z] (fun v L => v = .tuple #[.int .u64 ((z.obj.get h).getD (0, 0, 0)).1, .int .u64 ((z.obj.get h).getD (0, 0, 0)).2.1, .int .u64 ((z.obj.get h).getD (0, 0, 0)).2.2, .bool (z.obj.get h).isSome] ∧ L = [Arn x z]) := by
  refine Spec.intro (IsEnt.out) Tryz.func34 rfl Tryz.ntmps34 (by simp) (fun w0 F => ?_)
  simp only [envOf, List.zipIdx, List.map, List.cons_append, List.nil_append, Nat.zero_add, Nat.reduceAdd]
  repeat (first | refine Zq ?_ | refine Zs ?_ | refine ZT ?_ | refine ZF ?_ | refine Zc ?_ | refine XO_gU (hk := ?_))
  refine XO_call (ar_object x z hA h h0 h1) (hk := ?_)
  rintro _ _ ⟨rfl, rfl⟩
  generalize (z.obj.get h).getD (0, 0, 0) = o
  repeat (first | refine Zq ?_ | refine Zs ?_ | refine ZT ?_ | refine ZF ?_ | refine Zc ?_ | refine XO_gU (hk := ?_))
  refine XO_dv dv_alloc (hk := ?_)
  rintro _ _ ⟨rb, rfl, rfl⟩
  refine XO_dv0 (dv_storeW (vs := eTO.cells o)) (hk := ?_)
  rintro _ _ rfl
  repeat (first | refine Zq ?_ | refine Zs ?_ | refine ZT ?_ | refine ZF ?_ | refine Zc ?_ | refine XO_gU (hk := ?_))
  repeat (first | refine XD_pick (h := ?_) | refine Dq ?_ | refine Ds ?_ | refine XDi_gF (h := ?_) | refine XDi_gU (h := ?_) | refine X_draws (h := ?_))
  (refine XD_one (h := ?_); refine XDa_dvA (dv_of_rv (rv_of_pv pv_assign)) (hk := ?_); rintro _ _ ⟨rfl, rfl⟩; refine ⟨by (repeat (first | exact keeps_nil | exact keeps_fnil | refine keeps_skip (h := ?_) | refine keeps_takeQ (h := ?_))), ?_⟩)
  (refine XD_one (h := ?_); refine XDa_dvA (dv_of_rv (rv_of_pv pv_assign)) (hk := ?_); rintro _ _ ⟨rfl, rfl⟩; refine ⟨by (repeat (first | exact keeps_nil | exact keeps_fnil | refine keeps_skip (h := ?_) | refine keeps_takeQ (h := ?_))), ?_⟩)
  (refine XD_one (h := ?_); refine XDa_dvA (dv_of_rv (rv_of_pv pv_assign)) (hk := ?_); rintro _ _ ⟨rfl, rfl⟩; refine ⟨by (repeat (first | exact keeps_nil | exact keeps_fnil | refine keeps_skip (h := ?_) | refine keeps_takeQ (h := ?_))), ?_⟩)
  (refine XD_one (h := ?_); refine XDa_dvA (dv_of_rv (rv_of_pv pv_assign)) (hk := ?_); rintro _ _ ⟨rfl, rfl⟩; refine ⟨by (repeat (first | exact keeps_nil | exact keeps_fnil | refine keeps_skip (h := ?_) | refine keeps_takeQ (h := ?_))), ?_⟩)
  (refine XD_end (h := ?_); repeat (first | refine Zq ?_ | refine Zs ?_ | refine ZT ?_ | refine ZF ?_ | refine Zc ?_ | refine XO_gU (hk := ?_)))
  refine XE_ret (.inl rfl) (tells_tmps rfl rfl) ⟨_, ⟨rfl, rfl⟩, by ((try simp only [List.cons_append, List.nil_append]); repeat (first | exact ent_refl | refine ent_take (by repeat (first | exact Find.here | apply Find.there)) ?_ | refine ent_drop ?_))⟩
end Go.Proofs.YtamecmklcnohjaaGreat.Sep
namespace Go.Proofs.YtamecmklcnohjaaGreat.Sep
open Go.RowKit
set_option linter.unusedSimpArgs false
set_option linter.unusedVariables false
/-! tables: what is found behind what was done -/
section
variable {α : Type}
theorem Tb.nx_unused {N : Nat} {t : Tb α} (h : TbOk N t) : t.usedAt t.nx = false := by
  unfold Tb.nx
  cases hl : t.free.getLast? with
  | none => unfold Tb.usedAt; rw [List.getElem?_eq_none (Nat.le_refl _)]
  | some i => exact (h.free i (List.mem_of_getLast? hl)).2.2
theorem Tb.addH_ok {N : Nat} {t : Tb α} (h : TbOk N t) : HOk t.kind t.nx (t.genAt t.nx) := h.hok (Nat.le_trans h.nx_le h.len)
theorem Tb.addH_bd {N : Nat} {t : Tb α} (h : TbOk N t) : 0 ≤ t.addH ∧ t.addH ≤ 18446744073709551615 := pack_bd
theorem Tb.addH_ne {N : Nat} {t : Tb α} (h : TbOk N t) : t.addH ≠ 0 := pack_ne (Tb.addH_ok h)
theorem Tb.addH_parts {N : Nat} {t : Tb α} (h : TbOk N t) : hKind t.addH = t.kind ∧ (hSlot t.addH).toNat = t.nx ∧ hGen t.addH = t.genAt t.nx := by
  have ho := Tb.addH_ok h
  refine ⟨pack_kind ho, ?_, pack_gen ho⟩
  show (hSlot (packI _ _ _)).toNat = _
  rw [pack_slot ho]; omega
theorem Tb.addH_new {N : Nat} {t : Tb α} (h : TbOk N t) : t.get t.addH = none := by
  have hp := Tb.addH_parts h
  unfold Tb.get
  rw [show t.spot t.addH = none from if_neg (fun hh => by rw [hp.2.1, Tb.nx_unused h] at hh; cases hh.2.1)]
  rfl
/-- Handles that tell the same are the same. -/
theorem same_handle {x y : Int} (x0 : 0 ≤ x) (x1 : x ≤ 18446744073709551615) (y0 : 0 ≤ y) (y1 : y ≤ 18446744073709551615) (h1 : hKind x = hKind y) (h2 : (hSlot x).toNat = (hSlot y).toNat) (h3 : hGen x = hGen y) : x = y := by
  unfold hKind hSlot hGen at *; omega
theorem Tb.get_some {t : Tb α} {x : Int} {v : α} (h : t.get x = some v) : ∃ i, t.spot x = some i ∧ t.slots[i]?.map (·.1) = some v := by
  unfold Tb.get at h
  cases hs : t.spot x with
  | none => rw [hs] at h; cases h
  | some i => rw [hs] at h; exact ⟨i, rfl, h⟩
theorem Tb.spot_get {t : Tb α} {x : Int} {i : Nat} (h : t.spot x = some i) : ∃ v, t.get x = some v ∧ t.slots[i]?.map (·.1) = some v := by
  obtain ⟨_, hu, _, _, _, hi⟩ := Tb.spot_some h
  refine ⟨t.slots[i].1, ?_, by rw [List.getElem?_eq_getElem hi]; rfl⟩
  unfold Tb.get; rw [h]; show Option.map _ _ = _; rw [List.getElem?_eq_getElem hi]; rfl
theorem Tb.kind_add (t : Tb α) (v : α) : (t.add v).kind = t.kind := by unfold Tb.add; cases t.free.getLast? <;> rfl
theorem Tb.spot_add {N : Nat} {t : Tb α} (h : TbOk N t) (v : α) {x : Int} (x0 : 0 ≤ x) (x1 : x ≤ 18446744073709551615) : (t.add v).spot x = if x = t.addH then some t.nx else t.spot x := by
  have hp := Tb.addH_parts h
  have hb := Tb.addH_bd h
  by_cases he : x = t.addH
  · subst he
    rw [if_pos rfl]
    unfold Tb.spot
    rw [hp.2.1, Tb.add_used h, if_pos rfl, Tb.add_gen h, Tb.kind_add, if_pos ⟨by rw [hp.1]; have := h.kd; omega, rfl, hp.1, hp.2.2⟩]
  · rw [if_neg he]
    unfold Tb.spot
    rw [Tb.add_used h, Tb.add_gen h, Tb.kind_add]
    by_cases hs : (hSlot x).toNat = t.nx
    · rw [if_pos hs, hs, Tb.nx_unused h]
      rw [if_neg (fun hh => he (same_handle x0 x1 hb.1 hb.2 (by rw [hp.1]; exact hh.2.2.1) (by rw [hp.2.1]; exact hs) (by rw [hp.2.2]; exact hh.2.2.2))), if_neg (fun hh => by cases hh.2.1)]
    · rw [if_neg hs]
theorem Tb.slots_add {N : Nat} {t : Tb α} (h : TbOk N t) (v : α) (i : Nat) : (t.add v).slots[i]?.map (·.1) = if i = t.nx then some v else t.slots[i]?.map (·.1) := by
  unfold Tb.add Tb.nx
  cases hl : t.free.getLast? with
  | none =>
    simp only
    rcases Nat.lt_trichotomy i t.slots.length with h1 | h1 | h1
    · rw [List.getElem?_append_left h1, if_neg (by omega)]
    · subst h1; simp
    · rw [List.getElem?_eq_none (by simp; omega), List.getElem?_eq_none (by omega), if_neg (by omega)]
  | some j =>
    have hj := (h.free j (List.mem_of_getLast? hl)).2.1
    simp only
    rw [List.getElem?_set]
    by_cases h1 : j.toNat = i
    · subst h1; simp [hj]
    · rw [if_neg h1, if_neg (fun e => h1 e.symm)]
theorem Tb.get_add {N : Nat} {t : Tb α} (h : TbOk N t) (v : α) {x : Int} (x0 : 0 ≤ x) (x1 : x ≤ 18446744073709551615) : (t.add v).get x = if x = t.addH then some v else t.get x := by
  have hs := Tb.spot_add h v x0 x1
  by_cases he : x = t.addH
  · rw [if_pos he] at hs ⊢
    unfold Tb.get; rw [hs]
    show Option.map _ _ = _
    have := Tb.slots_add h v t.nx
    rw [if_pos rfl] at this; exact this
  · rw [if_neg he] at hs ⊢
    unfold Tb.get; rw [hs]
    cases hsp : t.spot x with
    | none => rfl
    | some i =>
      have hu := (Tb.spot_some hsp).2.1
      have hne : i ≠ t.nx := fun e => by rw [e, Tb.nx_unused h] at hu; cases hu
      show Option.map _ _ = Option.map _ _
      have := Tb.slots_add h v i
      rw [if_neg hne] at this; exact this
theorem Tb.put_parts {t : Tb α} {y : Int} {v : α} (j : Nat) : (t.put y v).usedAt j = t.usedAt j ∧ (t.put y v).genAt j = t.genAt j ∧ (t.put y v).kind = t.kind ∧ (t.put y v).slots.length = t.slots.length ∧ (t.put y v).free = t.free := by
  unfold Tb.put
  cases hs : t.spot y with
  | none => exact ⟨rfl, rfl, rfl, rfl, rfl⟩
  | some i =>
    obtain ⟨_, hu, _, _, _, hi⟩ := Tb.spot_some hs
    refine ⟨?_, ?_, rfl, by simp, rfl⟩
    · unfold Tb.usedAt
      simp only
      rw [List.getElem?_set]
      by_cases h1 : i = j
      · subst h1; rw [if_pos rfl]; simp only [hi, if_true]; unfold Tb.usedAt at hu; exact hu.symm
      · rw [if_neg h1]
    · unfold Tb.genAt
      simp only
      rw [List.getElem?_set]
      by_cases h1 : i = j
      · subst h1; rw [if_pos rfl]; simp only [hi, if_true]
      · rw [if_neg h1]
theorem Tb.spot_put (t : Tb α) (y : Int) (v : α) (x : Int) : (t.put y v).spot x = t.spot x := by
  unfold Tb.spot
  have hp := Tb.put_parts (t := t) (y := y) (v := v) (hSlot x).toNat
  rw [hp.1, hp.2.1, hp.2.2.1]
theorem Tb.get_put {N : Nat} {t : Tb α} (h : TbOk N t) {y : Int} (v : α) {x : Int} (x0 : 0 ≤ x) (x1 : x ≤ 18446744073709551615) (y0 : 0 ≤ y) (y1 : y ≤ 18446744073709551615) : (t.put y v).get x = if x = y ∧ (t.get y).isSome = true then some v else t.get x := by
  unfold Tb.get
  rw [Tb.spot_put]
  cases hy : t.spot y with
  | none =>
    rw [if_neg (fun hh => by cases hh.2)]
    unfold Tb.put; rw [hy]
  | some j =>
    obtain ⟨hk, hu, hkk, hg, hsl, hj⟩ := Tb.spot_some hy
    have hsm : ((some j).bind fun i => t.slots[i]?.map (·.1)).isSome = true := by
      show (Option.map _ _).isSome = true
      rw [List.getElem?_eq_getElem hj]; rfl
    cases hx : t.spot x with
    | none =>
      rw [if_neg (fun hh => by rw [hh.1, hy] at hx; cases hx)]
      rfl
    | some i =>
      obtain ⟨hk2, hu2, hkk2, hg2, hsl2, hi⟩ := Tb.spot_some hx
      show Option.map _ _ = _
      unfold Tb.put
      rw [hy]
      simp only
      rw [List.getElem?_set]
      by_cases h1 : j = i
      · subst h1
        have hxy : x = y := same_handle x0 x1 y0 y1 (by rw [hkk, hkk2]) (by rw [hsl, hsl2]) (by rw [hg, hg2])
        rw [if_pos (And.intro hxy hsm)]; simp [hj]
      · rw [if_neg h1, if_neg (fun hh => h1 (by have := hh.1; subst this; rw [hx] at hy; exact (Option.some.inj hy).symm))]
        rfl
theorem TbOk.put {N : Nat} {t : Tb α} (h : TbOk N t) (y : Int) (v : α) : TbOk N (t.put y v) := by
  have hp := fun j => Tb.put_parts (t := t) (y := y) (v := v) j
  refine ⟨h.hN, by rw [(hp 0).2.2.1]; exact h.kd, by rw [(hp 0).2.2.2.1]; exact h.len, fun q hq => ?_, fun i hi => ?_, by rw [(hp 0).2.2.2.2]; exact h.nd⟩
  · obtain ⟨j, hj, he⟩ := List.mem_iff_getElem.1 hq
    have := (hp j).2.1
    have hg := h.gen j
    rw [← this] at hg
    unfold Tb.genAt at hg
    rw [List.getElem?_eq_getElem hj, he] at hg
    exact hg
  · rw [(hp 0).2.2.2.2] at hi
    rw [(hp i.toNat).1, (hp 0).2.2.2.1]
    exact h.free i hi
theorem TbOk.le {N N' : Nat} {t : Tb α} (h : TbOk N t) (hl : N ≤ N') (hN : N' ≤ 1000000) : TbOk N' t := ⟨hN, h.kd, Nat.le_trans h.len hl, fun q hq => ⟨(h.gens q hq).1, by have := (h.gens q hq).2; omega⟩, h.free, h.nd⟩
theorem Tb.drop_parts {d : α} {t : Tb α} {y : Int} {i : Nat} (hs : t.spot y = some i) (j : Nat) : (t.drop d y).usedAt j = (if j = i then false else t.usedAt j) ∧ (t.drop d y).genAt j = (if j = i then nextI (t.genAt i) else t.genAt j) ∧ (t.drop d y).kind = t.kind ∧ (t.drop d y).slots.length = t.slots.length ∧ (t.drop d y).free = t.free ++ [(i : Int)] := by
  obtain ⟨_, hu, _, _, _, hi⟩ := Tb.spot_some hs
  unfold Tb.drop
  rw [hs]
  refine ⟨?_, ?_, rfl, by simp, rfl⟩
  · unfold Tb.usedAt
    simp only
    rw [List.getElem?_set]
    by_cases h1 : i = j
    · subst h1; simp [hi]
    · rw [if_neg h1, if_neg (fun e => h1 e.symm)]
  · conv => lhs; unfold Tb.genAt
    simp only
    rw [List.getElem?_set]
    by_cases h1 : i = j
    · subst h1
      have hge : t.genAt i = t.slots[i].2.2 := by unfold Tb.genAt; rw [List.getElem?_eq_getElem hi]
      simp [hi, hge]
    · rw [if_neg h1, if_neg (fun e => h1 e.symm)]; rfl
theorem TbOk.drop {N : Nat} {t : Tb α} (h : TbOk N t) (hN : N + 1 ≤ 1000000) (d : α) (y : Int) : TbOk (N + 1) (t.drop d y) := by
  cases hs : t.spot y with
  | none => have : t.drop d y = t := by unfold Tb.drop; rw [hs]
            rw [this]; exact h.le (Nat.le_succ _) hN
  | some i =>
    have hp := fun j => Tb.drop_parts (d := d) hs j
    obtain ⟨_, hu, _, _, _, hi⟩ := Tb.spot_some hs
    refine ⟨hN, by rw [(hp 0).2.2.1]; exact h.kd, by rw [(hp 0).2.2.2.1]; have := h.len; omega, fun q hq => ?_, fun k hk => ?_, ?_⟩
    · obtain ⟨j, hj, he⟩ := List.mem_iff_getElem.1 hq
      have hg : (t.drop d y).genAt j = q.2.2 := by unfold Tb.genAt; rw [List.getElem?_eq_getElem hj, he]
      rw [← hg, (hp j).2.1]
      have h1 := h.gen i
      have h2 := h.gen j
      split
      · unfold nextI; split <;> omega
      · omega
    · rw [(hp 0).2.2.2.2] at hk
      rw [(hp k.toNat).1, (hp 0).2.2.2.1]
      rcases List.mem_append.1 hk with h1 | h1
      · have h2 := h.free k h1
        exact ⟨h2.1, h2.2.1, by split <;> first | rfl | exact h2.2.2⟩
      · simp at h1; subst h1
        exact ⟨Int.natCast_nonneg _, by simpa using hi, by simp⟩
    · rw [(hp 0).2.2.2.2, List.nodup_append]
      refine ⟨h.nd, by simp, fun a ha b hb e => ?_⟩
      simp at hb
      subst hb; subst e
      have := (h.free _ ha).2.2
      rw [show ((i : Int)).toNat = i from rfl, hu] at this
      cases this
end
end Go.Proofs.YtamecmklcnohjaaGreat.Sep
namespace Go.Proofs.YtamecmklcnohjaaGreat.Sep
open Go.RowKit
set_option linter.unusedSimpArgs false
set_option linter.unusedVariables false
/-! bytes that lie within are loaded and stored -/
set_option maxHeartbeats 8000000
attribute [local irreducible] X XE XO XD XDi XDa PV RV DV pt base Spec Sl Mp Keeps Pgs Spc
theorem load_ok (sb : Nat) {P : Int} {m : Mm} {at_ n : Int} (hP0 : 0 ≤ P) (hP : P ≤ 1048576) (h0 : 0 ≤ at_) (h1 : 0 ≤ n) (h2 : at_ + n ≤ P * 4096) (h3 : n ≤ 1048576) :
    Spec Tryz.prog 108 [.pointer (some ⟨sb, 0, none⟩), .int .u64 at_, .int .u64 n] [Spc sb P m] (fun v L => ∃ ob, v = .tuple #[.slice (some ⟨ob, 0, none⟩) n.toNat n.toNat, .int .i64 0] ∧ L = [Spc sb P (ldM m at_ n), Sl (eI .u8) (some ⟨ob, 0, none⟩) n.toNat (rdM m.f at_ n.toNat)]) := by
  have h := Load_spec sb P m at_ n hP0 hP h0 (by omega) h1 (by omega)
  unfold loadV at h
  rwa [if_pos (by unfold fitsI; rw [if_pos (by omega), if_neg (by omega)])] at h
end Go.Proofs.YtamecmklcnohjaaGreat.Sep
namespace Go.Proofs.YtamecmklcnohjaaGreat.Sep
open Go.RowKit
set_option linter.unusedSimpArgs false
set_option linter.unusedVariables false
/-! arenas: what is made -/
def Ar.created (z : Ar) (p : Int) (r : Nat) : Ar := { z with reg := (z.reg.add none).put z.reg.addH (some r), M := z.M ++ [(r, z.reg.addH, emptySh)], tr := z.tr ++ [(z.reg.addH, p)], rs := if p = 0 then z.rs else z.rs ++ [(p, z.reg.addH)] }
def Ar.alloced (z : Ar) (i : Nat) (b : Nat) (of_ size : Int) (C' : Co) (m' : Mm) (S' : Sh) (at_ e : Int) : Ar := { z with C := C', m := m', M := z.M.set i (b, of_, S'), obj := if e = 0 then z.obj.add (at_, size, of_) else z.obj, rs := if e = 0 then z.rs ++ [(of_, z.obj.addH)] else z.rs }
def mkOf (z : Ar) (of_ : Int) (S : Sh) : MkT := ⟨(S.parts.length : Int), (S.larges.length : Int), topAt S, S.obj, S.pad, of_, ((ofL z.rs of_).length : Int) + 1⟩
def Ar.marked (z : Ar) (of_ : Int) (S : Sh) : Ar := { z with mar := z.mar.add (mkOf z of_ S), rs := z.rs ++ [(of_, z.mar.addH)] }
def inH (z : Ar) (h at_ n : Int) : Int × Int := match z.obj.get h with
  | none => (0, 2)
  | some o => if at_ + n ≤ o.2.1 then (o.1 + at_, 0) else (0, 3)
set_option maxHeartbeats 8000000
attribute [local irreducible] X XE XO XD XDi XDa PV RV DV pt base Spec Sl Mp Keeps Pg Kc
attribute [local irreducible] Pgs Spc Ck XL XLi Pl Rs Rg View Tbl Tre Ros Star RgOf Arn
theorem ar_create (x : ABl) (z : Ar) {N : Nat} (hA : AOk N z) (hN : N + 1 ≤ 100000) (p : Int) (h0 : 0 ≤ p) (h1 : p ≤ 18446744073709551615) (hp : p = 0 ∨ (z.reg.get p).isSome = true) : Spec Tryz.prog 31 [.pointer (some ⟨x.a, 0, none⟩), .int .u64 p] [Arn x z] (fun v L => ∃ r, v = .tuple #[.int .u64 z.reg.addH, .int .i64 0] ∧ L = [Arn x (z.created p r)]) := by
  have hab := Tb.addH_bd hA.rg
  have hane := Tb.addH_ne hA.rg
  have hanw := Tb.addH_new hA.rg
  have hTa := hA.rg.add (by omega) none
  have hni : z.reg.addH ∉ z.tr.map (·.1) := fun h => by have := (hA.tk _).1 h; rw [hanw] at this; cases this
  have hpi : p = 0 ∨ p ∈ z.tr.map (·.1) := by
    rcases hp with h | h
    · exact .inl h
    · exact .inr ((hA.tk p).2 h)
  have htl := hA.tl
  have hrl := hA.rl
  refine Spec.intro (IsEnt.out) Tryz.func31 rfl Tryz.ntmps31 (by simp) (fun w0 F => ?_)
  simp only [envOf, List.zipIdx, List.map, List.cons_append, List.nil_append, Nat.zero_add, Nat.reduceAdd]
  repeat (first | refine Zq ?_ | refine Zs ?_ | refine ZT ?_ | refine ZF ?_ | refine Zc ?_ | refine XO_gU (hk := ?_))
  refine XO_call (ar_region x z hA p h0 h1) (hk := ?_)
  rintro _ _ ⟨rfl, rfl⟩
  (repeat (first | refine Zq ?_ | refine Zs ?_ | refine ZT ?_ | refine ZF ?_ | refine XO_gU (hk := ?_)))
  refine XO_nil ?_
  refine XE_code ?_
  refine X_seq ?_
  refine X_join (ι := Unit) (fun _ => True) (fun _ => [(0, .pointer (some ⟨x.a, 0, none⟩)), (1, .int .u64 p)]) (fun _ => [Arn x z] ++ F) ?_ ?_
  · repeat (first | refine Zq ?_ | refine Zs ?_ | refine ZT ?_ | refine ZF ?_ | refine Zc ?_ | refine XO_gU (hk := ?_))
    cases hgp : (z.reg.get p).isSome with
    | true =>
      repeat (first | refine Zq ?_ | refine Zs ?_ | refine ZT ?_ | refine ZF ?_ | refine Zc ?_ | refine XO_gU (hk := ?_))
      refine X_cond rfl (fun h => by cases h) (fun _ => ?_)
      repeat (first | refine Zq ?_ | refine Zs ?_ | refine ZT ?_ | refine ZF ?_ | refine Zc ?_ | refine XO_gU (hk := ?_))
      exact X_meet () trivial (by (repeat (first | exact Env.sub_nil _ | refine Env.sub_cons rfl ?_))) (by ((try simp only [List.cons_append, List.nil_append]); repeat (first | exact ent_refl | refine ent_take (by repeat (first | exact Find.here | apply Find.there)) ?_ | refine ent_drop ?_)))
    | false =>
      have hp0 : p = 0 := by
        rcases hp with h | h
        · exact h
        · rw [hgp] at h; cases h
      repeat (first | refine Zq ?_ | refine Zs ?_ | refine ZT ?_ | refine ZF ?_ | refine Zc ?_ | refine XO_gU (hk := ?_))
      rw [show (p != 0) = false from by simp [hp0]]
      repeat (first | refine Zq ?_ | refine Zs ?_ | refine ZT ?_ | refine ZF ?_ | refine Zc ?_ | refine XO_gU (hk := ?_))
      refine X_cond rfl (fun h => by cases h) (fun _ => ?_)
      repeat (first | refine Zq ?_ | refine Zs ?_ | refine ZT ?_ | refine ZF ?_ | refine Zc ?_ | refine XO_gU (hk := ?_))
      exact X_meet () trivial (by (repeat (first | exact Env.sub_nil _ | refine Env.sub_cons rfl ?_))) (by ((try simp only [List.cons_append, List.nil_append]); repeat (first | exact ent_refl | refine ent_take (by repeat (first | exact Find.here | apply Find.there)) ?_ | refine ent_drop ?_)))
  rintro ⟨⟩ -
  refine X_open (A := Arn x z) (by (repeat (first | exact Find.here | apply Find.there))) Arn.open ?_
  rintro ⟨⟩ -
  dsimp only [List.cons_append, List.nil_append]
  repeat (first | refine Zq ?_ | refine Zs ?_ | refine ZT ?_ | refine ZF ?_ | refine Zc ?_ | refine XO_gU (hk := ?_))
  refine XO_call (taddR x.rt z.reg hA.rg (by omega) none) (hk := ?_)
  rintro _ _ ⟨rfl, rfl⟩
  repeat (first | refine Zq ?_ | refine Zs ?_ | refine ZT ?_ | refine ZF ?_ | refine Zc ?_ | refine XO_gU (hk := ?_))
  repeat (first | refine XD_pick (h := ?_) | refine Dq ?_ | refine Ds ?_ | refine XDi_gF (h := ?_) | refine XDi_gU (h := ?_) | refine X_draws (h := ?_))
  refine XD_one (h := ?_)
  refine XDa_dvA (dv_call (rnew_spec x.s z.reg.addH)) (hk := ?_)
  rintro _ _ ⟨_, ⟨r, rfl, rfl⟩, rfl⟩
  refine ⟨by (repeat (first | exact keeps_nil | exact keeps_fnil | refine keeps_skip (h := ?_) | refine keeps_takeQ (h := ?_))), ?_⟩
  refine XD_one (h := ?_)
  refine XDa_dvA (dv_call (tsetR x.rt (z.reg.add none) hTa z.reg.addH hab.1 hab.2 (some r))) (hk := ?_)
  (rintro _ _ ⟨_, ⟨rfl, rfl⟩, rfl⟩; refine ⟨by (repeat (first | exact keeps_nil | exact keeps_fnil | refine keeps_skip (h := ?_) | refine keeps_takeQ (h := ?_))), ?_⟩)
  (refine XD_end (h := ?_); repeat (first | refine Zq ?_ | refine Zs ?_ | refine ZT ?_ | refine ZF ?_ | refine Zc ?_ | refine XO_gU (hk := ?_)))
  refine XO_call (tr_add x.tt z.tr hA.T z.reg.addH p hane hni hpi (by omega)) (hk := ?_)
  rintro _ _ ⟨rfl, rfl⟩
  repeat (first | refine Zq ?_ | refine Zs ?_ | refine ZT ?_ | refine ZF ?_ | refine Zc ?_ | refine XO_gU (hk := ?_))
  by_cases hp0 : p = 0
  · refine X_cond rfl (fun h => by simp [hp0] at h) (fun _ => ?_)
    repeat (first | refine Zq ?_ | refine Zs ?_ | refine ZT ?_ | refine ZF ?_ | refine Zc ?_ | refine XO_gU (hk := ?_))
    refine XE_fold (S := [Rg r x.s z.reg.addH emptySh, Star (RgOf x.s) z.M]) (by repeat (first | exact FindAll.nil | exact Find.here | apply Find.there | apply FindAll.cons)) Rgs.snoc ?_
    have hz : z.created p r = { z with reg := (z.reg.add none).put z.reg.addH (some r), M := z.M ++ [(r, z.reg.addH, emptySh)], tr := z.tr ++ [(z.reg.addH, p)] } := by unfold Ar.created; rw [if_pos hp0]
    refine XE_fold (by repeat (first | exact FindAll.nil | exact Find.here | apply Find.there | apply FindAll.cons)) (Arn.fold (x := x) (z := { z with reg := (z.reg.add none).put z.reg.addH (some r), M := z.M ++ [(r, z.reg.addH, emptySh)], tr := z.tr ++ [(z.reg.addH, p)] })) ?_
    refine XE_ret (.inl rfl) (tells_tmps rfl rfl) ⟨_, ⟨r, rfl, by rw [hz]⟩, by ((try simp only [List.cons_append, List.nil_append]); repeat (first | exact ent_refl | refine ent_take (by repeat (first | exact Find.here | apply Find.there)) ?_ | refine ent_drop ?_))⟩
  · refine X_cond rfl (fun _ => ?_) (fun h => by simp [hp0] at h)
    repeat (first | refine Zq ?_ | refine Zs ?_ | refine ZT ?_ | refine ZF ?_ | refine Zc ?_ | refine XO_gU (hk := ?_))
    refine XO_call (ros_add x.rr z.rs p z.reg.addH (by omega)) (hk := ?_)
    rintro _ _ ⟨rfl, rfl⟩
    repeat (first | refine Zq ?_ | refine Zs ?_ | refine ZT ?_ | refine ZF ?_ | refine Zc ?_ | refine XO_gU (hk := ?_))
    refine XE_fold (S := [Rg r x.s z.reg.addH emptySh, Star (RgOf x.s) z.M]) (by repeat (first | exact FindAll.nil | exact Find.here | apply Find.there | apply FindAll.cons)) Rgs.snoc ?_
    have hz : z.created p r = { z with reg := (z.reg.add none).put z.reg.addH (some r), M := z.M ++ [(r, z.reg.addH, emptySh)], tr := z.tr ++ [(z.reg.addH, p)], rs := z.rs ++ [(p, z.reg.addH)] } := by unfold Ar.created; rw [if_neg hp0]
    refine XE_fold (by repeat (first | exact FindAll.nil | exact Find.here | apply Find.there | apply FindAll.cons)) (Arn.fold (x := x) (z := { z with reg := (z.reg.add none).put z.reg.addH (some r), M := z.M ++ [(r, z.reg.addH, emptySh)], tr := z.tr ++ [(z.reg.addH, p)], rs := z.rs ++ [(p, z.reg.addH)] })) ?_
    refine XE_ret (.inl rfl) (tells_tmps rfl rfl) ⟨_, ⟨r, rfl, by rw [hz]⟩, by ((try simp only [List.cons_append, List.nil_append]); repeat (first | exact ent_refl | refine ent_take (by repeat (first | exact Find.here | apply Find.there)) ?_ | refine ent_drop ?_))⟩
/-- Bytes are made in a region that is live. -/
theorem ar_alloc (x : ABl) (z : Ar) {N : Nat} (hA : AOk N z) (hN : N + 1 ≤ 100000) {i b : Nat} {of_ : Int} {S : Sh} (hq : z.M[i]? = some (b, of_, S)) (size align : Int) (h0 : 0 ≤ size) (h1 : size ≤ 18446744073709551615) (h2 : 0 ≤ align) (h3 : align ≤ 18446744073709551615) {C' : Co} {m' : Mm} {S' : Sh} {at_ e : Int} (har : AR z.P z.C z.m S of_ size align C' m' S' at_ e) :
    Spec Tryz.prog 32 [.pointer (some ⟨x.a, 0, none⟩), .int .u64 of_, .int .u64 size, .int .u64 align] [Arn x z] (fun v L => v = .tuple #[.int .u64 (if e = 0 then z.obj.addH else 0), .int .i64 e] ∧ L = [Arn x (z.alloced i b of_ size C' m' S' at_ e)]) := by
  have hqm := List.mem_of_getElem? hq
  have hob := hA.hb _ hqm
  have hgo := hA.own _ hqm
  have hR := hA.R.one hq
  have hil : i < z.M.length := (List.getElem?_eq_some_iff.1 hq).1
  have hrl := hA.rl
  dsimp only at hob hgo hR
  refine Spec.intro (IsEnt.out) Tryz.func32 rfl Tryz.ntmps32 (by simp) (fun w0 F => ?_)
  simp only [envOf, List.zipIdx, List.map, List.cons_append, List.nil_append, Nat.zero_add, Nat.reduceAdd]
  repeat (first | refine Zq ?_ | refine Zs ?_ | refine ZT ?_ | refine ZF ?_ | refine Zc ?_ | refine XO_gU (hk := ?_))
  refine XO_call (ar_region x z hA of_ hob.1 hob.2) (hk := ?_)
  rintro _ _ ⟨rfl, rfl⟩
  rw [hgo]
  repeat (first | refine Zq ?_ | refine Zs ?_ | refine ZT ?_ | refine ZF ?_ | refine Zc ?_ | refine XO_gU (hk := ?_))
  refine X_cond rfl (fun h => by cases h) (fun _ => ?_)
  refine X_open (A := Arn x z) (by (repeat (first | exact Find.here | apply Find.there))) Arn.open ?_
  rintro ⟨⟩ -
  refine X_open (A := Star (RgOf x.s) z.M) (by (repeat (first | exact Find.here | apply Find.there))) (Rgs.out hq) ?_
  rintro ⟨⟩ -
  dsimp only [List.cons_append, List.nil_append]
  repeat (first | refine Zq ?_ | refine Zs ?_ | refine ZT ?_ | refine ZF ?_ | refine Zc ?_ | refine XO_gU (hk := ?_))
  refine XO_call (ralloc_spec b x.s x.sb hR (by omega) h0 h1 h2 h3 har) (hk := ?_)
  rintro _ _ ⟨rfl, rfl⟩
  repeat (first | refine Zq ?_ | refine Zs ?_ | refine ZT ?_ | refine ZF ?_ | refine Zc ?_ | refine XO_gU (hk := ?_))
  by_cases he : e = 0
  · refine X_cond rfl (fun h => by simp [he] at h) (fun _ => ?_)
    have hz : z.alloced i b of_ size C' m' S' at_ e = { z with C := C', m := m', M := z.M.set i (b, of_, S'), obj := z.obj.add (at_, size, of_), rs := z.rs ++ [(of_, z.obj.addH)] } := by unfold Ar.alloced; rw [if_pos he, if_pos he]
    rw [hz, if_pos he]
    repeat (first | refine Zq ?_ | refine Zs ?_ | refine ZT ?_ | refine ZF ?_ | refine Zc ?_ | refine XO_gU (hk := ?_))
    refine XO_call (taddO x.ot z.obj hA.ob (by omega) (at_, size, of_)) (hk := ?_)
    rintro _ _ ⟨rfl, rfl⟩
    repeat (first | refine Zq ?_ | refine Zs ?_ | refine ZT ?_ | refine ZF ?_ | refine Zc ?_ | refine XO_gU (hk := ?_))
    refine XO_call (ros_add x.rr z.rs of_ z.obj.addH (by omega)) (hk := ?_)
    rintro _ _ ⟨rfl, rfl⟩
    repeat (first | refine Zq ?_ | refine Zs ?_ | refine ZT ?_ | refine ZF ?_ | refine Zc ?_ | refine XO_gU (hk := ?_))
    refine XE_fold (S := [Rg b x.s of_ S', Star (RgOf x.s) (z.M.eraseIdx i)]) (by repeat (first | exact FindAll.nil | exact Find.here | apply Find.there | apply FindAll.cons)) (Rgs.back hil) ?_
    refine XE_fold (by repeat (first | exact FindAll.nil | exact Find.here | apply Find.there | apply FindAll.cons)) (Arn.fold (x := x) (z := { z with C := C', m := m', M := z.M.set i (b, of_, S'), obj := z.obj.add (at_, size, of_), rs := z.rs ++ [(of_, z.obj.addH)] })) ?_
    rw [he]
    refine XE_ret (.inl rfl) (tells_tmps rfl rfl) ⟨_, ⟨rfl, rfl⟩, by ((try simp only [List.cons_append, List.nil_append]); repeat (first | exact ent_refl | refine ent_take (by repeat (first | exact Find.here | apply Find.there)) ?_ | refine ent_drop ?_))⟩
  · refine X_cond rfl (fun _ => ?_) (fun h => by simp [he] at h)
    have hz : z.alloced i b of_ size C' m' S' at_ e = { z with C := C', m := m', M := z.M.set i (b, of_, S') } := by unfold Ar.alloced; rw [if_neg he, if_neg he]
    rw [hz, if_neg he]
    repeat (first | refine Zq ?_ | refine Zs ?_ | refine ZT ?_ | refine ZF ?_ | refine Zc ?_ | refine XO_gU (hk := ?_))
    refine XE_fold (S := [Rg b x.s of_ S', Star (RgOf x.s) (z.M.eraseIdx i)]) (by repeat (first | exact FindAll.nil | exact Find.here | apply Find.there | apply FindAll.cons)) (Rgs.back hil) ?_
    refine XE_fold (by repeat (first | exact FindAll.nil | exact Find.here | apply Find.there | apply FindAll.cons)) (Arn.fold (x := x) (z := { z with C := C', m := m', M := z.M.set i (b, of_, S') })) ?_
    refine XE_ret (.inl rfl) (tells_tmps rfl rfl) ⟨_, ⟨rfl, rfl⟩, by ((try simp only [List.cons_append, List.nil_append]); repeat (first | exact ent_refl | refine ent_take (by repeat (first | exact Find.here | apply Find.there)) ?_ | refine ent_drop ?_))⟩
/-- A mark is made in a region that is live. -/
theorem ar_mark (x : ABl) (z : Ar) {N : Nat} (hA : AOk N z) (hN : N + 1 ≤ 100000) {i b : Nat} {of_ : Int} {S : Sh} (hq : z.M[i]? = some (b, of_, S)) :
    Spec Tryz.prog 36 [.pointer (some ⟨x.a, 0, none⟩), .int .u64 of_] [Arn x z] (fun v L => v = .tuple #[.int .u64 z.mar.addH, .int .i64 0] ∧ L = [Arn x (z.marked of_ S)]) := by
  have hqm := List.mem_of_getElem? hq
  have hob := hA.hb _ hqm
  have hgo := hA.own _ hqm
  have hR := hA.R.one hq
  have hlen := hR.len
  have hrl := hA.rl
  have hol := length_ofL_le z.rs of_
  dsimp only at hob hgo hR hlen
  refine Spec.intro (IsEnt.out) Tryz.func36 rfl Tryz.ntmps36 (by simp) (fun w0 F => ?_)
  simp only [envOf, List.zipIdx, List.map, List.cons_append, List.nil_append, Nat.zero_add, Nat.reduceAdd]
  repeat (first | refine Zq ?_ | refine Zs ?_ | refine ZT ?_ | refine ZF ?_ | refine Zc ?_ | refine XO_gU (hk := ?_))
  refine XO_call (ar_region x z hA of_ hob.1 hob.2) (hk := ?_)
  rintro _ _ ⟨rfl, rfl⟩
  rw [hgo]
  repeat (first | refine Zq ?_ | refine Zs ?_ | refine ZT ?_ | refine ZF ?_ | refine Zc ?_ | refine XO_gU (hk := ?_))
  refine X_cond rfl (fun h => by cases h) (fun _ => ?_)
  refine X_open (A := Arn x z) (by (repeat (first | exact Find.here | apply Find.there))) Arn.open ?_
  rintro ⟨⟩ -
  refine X_open (A := Star (RgOf x.s) z.M) (by (repeat (first | exact Find.here | apply Find.there))) (Rgs.out hq) ?_
  rintro ⟨⟩ -
  dsimp only [List.cons_append, List.nil_append]
  repeat (first | refine Zq ?_ | refine Zs ?_ | refine ZT ?_ | refine ZF ?_ | refine Zc ?_ | refine XO_gU (hk := ?_))
  repeat (first | refine XD_pick (h := ?_) | refine Dq ?_ | refine Ds ?_ | refine XDi_gF (h := ?_) | refine XDi_gU (h := ?_) | refine X_draws (h := ?_))
  refine XD_one (h := ?_)
  refine XDa_dvA (dv_call (rmark_spec b x.s of_ S hlen.1 hlen.2)) (hk := ?_)
  (rintro _ _ ⟨_, ⟨rfl, rfl⟩, rfl⟩; refine ⟨by (repeat (first | exact keeps_nil | exact keeps_fnil | refine keeps_skip (h := ?_) | refine keeps_takeQ (h := ?_))), ?_⟩)
  repeat (first | refine XD_pick (h := ?_) | refine Dq ?_ | refine Ds ?_ | refine XDi_gF (h := ?_) | refine XDi_gU (h := ?_) | refine X_draws (h := ?_))
  refine XD_one (h := ?_)
  refine XDa_dvA (dv_call (ros_len x.rr z.rs of_)) (hk := ?_)
  (rintro _ _ ⟨_, ⟨rfl, rfl⟩, rfl⟩; refine ⟨by (repeat (first | exact keeps_nil | exact keeps_fnil | refine keeps_skip (h := ?_) | refine keeps_takeQ (h := ?_))), ?_⟩)
  repeat (first | refine XD_pick (h := ?_) | refine Dq ?_ | refine Ds ?_ | refine XDi_gF (h := ?_) | refine XDi_gU (h := ?_) | refine X_draws (h := ?_))
  refine Dp (pv_buildG (mkRow (mkOf z of_ S))) ?_
  repeat (first | refine XD_pick (h := ?_) | refine Dq ?_ | refine Ds ?_ | refine XDi_gF (h := ?_) | refine XDi_gU (h := ?_) | refine X_draws (h := ?_))
  refine XD_one (h := ?_)
  refine XDa_dvA (dv_call (taddM x.mt z.mar hA.mr (by omega) (mkOf z of_ S))) (hk := ?_)
  (rintro _ _ ⟨_, ⟨rfl, rfl⟩, rfl⟩; refine ⟨by (repeat (first | exact keeps_nil | exact keeps_fnil | refine keeps_skip (h := ?_) | refine keeps_takeQ (h := ?_))), ?_⟩)
  repeat (first | refine XD_pick (h := ?_) | refine Dq ?_ | refine Ds ?_ | refine XDi_gF (h := ?_) | refine XDi_gU (h := ?_) | refine X_draws (h := ?_))
  (refine XD_one (h := ?_); refine XDa_dvA (dv_of_rv (rv_of_pv pv_assign)) (hk := ?_); rintro _ _ ⟨rfl, rfl⟩; refine ⟨by (repeat (first | exact keeps_nil | exact keeps_fnil | refine keeps_skip (h := ?_) | refine keeps_takeQ (h := ?_))), ?_⟩)
  (refine XD_end (h := ?_); repeat (first | refine Zq ?_ | refine Zs ?_ | refine ZT ?_ | refine ZF ?_ | refine Zc ?_ | refine XO_gU (hk := ?_)))
  refine XO_call (ros_add x.rr z.rs of_ z.mar.addH (by omega)) (hk := ?_)
  rintro _ _ ⟨rfl, rfl⟩
  repeat (first | refine Zq ?_ | refine Zs ?_ | refine ZT ?_ | refine ZF ?_ | refine Zc ?_ | refine XO_gU (hk := ?_))
  refine XE_fold (S := [Rg b x.s of_ S, Star (RgOf x.s) (z.M.eraseIdx i)]) (by repeat (first | exact FindAll.nil | exact Find.here | apply Find.there | apply FindAll.cons)) (Rgs.same hq) ?_
  refine XE_fold (by repeat (first | exact FindAll.nil | exact Find.here | apply Find.there | apply FindAll.cons)) (Arn.fold (x := x) (z := z.marked of_ S)) ?_
  refine XE_ret (.inl rfl) (tells_tmps rfl rfl) ⟨_, ⟨rfl, rfl⟩, by ((try simp only [List.cons_append, List.nil_append]); repeat (first | exact ent_refl | refine ent_take (by repeat (first | exact Find.here | apply Find.there)) ?_ | refine ent_drop ?_))⟩
theorem ar_within (x : ABl) (z : Ar) {N : Nat} (hA : AOk N z) (h at_ n : Int) (h0 : 0 ≤ h) (h1 : h ≤ 18446744073709551615) (a0 : 0 ≤ at_) (a1 : at_ ≤ 18446744073709551615) (n0 : 0 ≤ n) (n1 : n ≤ 18446744073709551615) : Spec Tryz.prog 107 [.pointer (some ⟨x.a, 0, none⟩), .int .u64 h, .int .u64 at_, .int .u64 n] [Arn x z] (fun v L => v = .tuple #[.int .u64 (inH z h at_ n).1, .int .i64 (inH z h at_ n).2] ∧ L = [Arn x z]) := by
  have hP := hA.P
  refine Spec.intro (IsEnt.out) Tryz.func107 rfl Tryz.ntmps107 (by simp) (fun w0 F => ?_)
  simp only [envOf, List.zipIdx, List.map, List.cons_append, List.nil_append, Nat.zero_add, Nat.reduceAdd]
  repeat (first | refine Zq ?_ | refine Zs ?_ | refine ZT ?_ | refine ZF ?_ | refine Zc ?_ | refine XO_gU (hk := ?_))
  refine XO_call (ar_object x z hA h h0 h1) (hk := ?_)
  rintro _ _ ⟨rfl, rfl⟩
  have hpl := hA.pl h
  unfold inH
  cases hg : z.obj.get h with
  | none =>
    rw [Option.getD_none]
    dsimp only [Option.isSome]
    repeat (first | refine Zq ?_ | refine Zs ?_ | refine ZT ?_ | refine ZF ?_ | refine Zc ?_ | refine XO_gU (hk := ?_))
    refine XO_dv dv_alloc (hk := ?_)
    rintro _ _ ⟨rb, rfl, rfl⟩
    refine XO_dv0 (dv_storeW (vs := eTO.cells (0, 0, 0))) (hk := ?_)
    rintro _ _ rfl
    repeat (first | refine Zq ?_ | refine Zs ?_ | refine ZT ?_ | refine ZF ?_ | refine Zc ?_ | refine XO_gU (hk := ?_))
    refine X_cond rfl (fun _ => ?_) (fun h => by cases h)
    repeat (first | refine Zq ?_ | refine Zs ?_ | refine ZT ?_ | refine ZF ?_ | refine Zc ?_ | refine XO_gU (hk := ?_))
    refine XE_ret (.inl rfl) (tells_tmps rfl rfl) ⟨_, ⟨rfl, rfl⟩, by ((try simp only [List.cons_append, List.nil_append]); repeat (first | exact ent_refl | refine ent_take (by repeat (first | exact Find.here | apply Find.there)) ?_ | refine ent_drop ?_))⟩
  | some o =>
    have hpo := hpl o hg
    rw [Option.getD_some]
    dsimp only [Option.isSome]
    repeat (first | refine Zq ?_ | refine Zs ?_ | refine ZT ?_ | refine ZF ?_ | refine Zc ?_ | refine XO_gU (hk := ?_))
    refine XO_dv dv_alloc (hk := ?_)
    rintro _ _ ⟨rb, rfl, rfl⟩
    refine XO_dv0 (dv_storeW (vs := eTO.cells o)) (hk := ?_)
    rintro _ _ rfl
    repeat (first | refine Zq ?_ | refine Zs ?_ | refine ZT ?_ | refine ZF ?_ | refine Zc ?_ | refine XO_gU (hk := ?_))
    refine X_cond rfl (fun h => by cases h) (fun _ => ?_)
    repeat (first | refine Zq ?_ | refine Zs ?_ | refine ZT ?_ | refine ZF ?_ | refine Zc ?_ | refine XO_gU (hk := ?_))
    refine XO_call (in_spec at_ n o.2.1 a0 a1 n0 n1 (by omega) (by omega)) (hk := ?_)
    rintro _ _ ⟨rfl, rfl⟩
    by_cases hin : at_ + n ≤ o.2.1
    · rw [if_pos hin, decide_eq_true hin]
      repeat (first | refine Zq ?_ | refine Zs ?_ | refine ZT ?_ | refine ZF ?_ | refine Zc ?_ | refine XO_gU (hk := ?_))
      refine X_cond rfl (fun h => by cases h) (fun _ => ?_)
      repeat (first | refine Zq ?_ | refine Zs ?_ | refine ZT ?_ | refine ZF ?_ | refine Zc ?_ | refine XO_gU (hk := ?_))
      refine XE_ret (.inl rfl) (tells_tmps rfl rfl) ⟨_, ⟨rfl, rfl⟩, by ((try simp only [List.cons_append, List.nil_append]); repeat (first | exact ent_refl | refine ent_take (by repeat (first | exact Find.here | apply Find.there)) ?_ | refine ent_drop ?_))⟩
    · rw [if_neg hin, decide_eq_false hin]
      repeat (first | refine Zq ?_ | refine Zs ?_ | refine ZT ?_ | refine ZF ?_ | refine Zc ?_ | refine XO_gU (hk := ?_))
      refine X_cond rfl (fun _ => ?_) (fun h => by cases h)
      repeat (first | refine Zq ?_ | refine Zs ?_ | refine ZT ?_ | refine ZF ?_ | refine Zc ?_ | refine XO_gU (hk := ?_))
      refine XE_ret (.inl rfl) (tells_tmps rfl rfl) ⟨_, ⟨rfl, rfl⟩, by ((try simp only [List.cons_append, List.nil_append]); repeat (first | exact ent_refl | refine ent_take (by repeat (first | exact Find.here | apply Find.there)) ?_ | refine ent_drop ?_))⟩
/-- What is read. -/
def rdE (z : Ar) (h at_ n : Int) : Int := if (inH z h at_ n).2 = 0 then (if 1048576 < n then 1 else 0) else (inH z h at_ n).2
theorem inH_some {z : Ar} {h at_ n : Int} (h0 : (inH z h at_ n).2 = 0) : ∃ o, z.obj.get h = some o ∧ at_ + n ≤ o.2.1 ∧ (inH z h at_ n).1 = o.1 + at_ := by
  unfold inH at h0 ⊢
  cases hg : z.obj.get h with
  | none => rw [hg] at h0; simp at h0
  | some o =>
    rw [hg] at h0
    by_cases hin : at_ + n ≤ o.2.1
    · exact ⟨o, rfl, hin, by simp [hin]⟩
    · simp [hin] at h0
theorem ar_read_ok (x : ABl) (z : Ar) {N : Nat} (hA : AOk N z) (h at_ n : Int) (h0 : 0 ≤ h) (h1 : h ≤ 18446744073709551615) (a0 : 0 ≤ at_) (a1 : at_ ≤ 18446744073709551615) (n0 : 0 ≤ n) (n1 : n ≤ 18446744073709551615) (he : rdE z h at_ n = 0) :
    Spec Tryz.prog 41 [.pointer (some ⟨x.a, 0, none⟩), .int .u64 h, .int .u64 at_, .int .u64 n] [Arn x z] (fun v L => ∃ ob, v = .tuple #[.slice (some ⟨ob, 0, none⟩) n.toNat n.toNat, .int .i64 0] ∧ L = [Arn x { z with m := ldM z.m (inH z h at_ n).1 n }, Sl (eI .u8) (some ⟨ob, 0, none⟩) n.toNat (rdM z.m.f (inH z h at_ n).1 n.toNat)]) := by
  have hP := hA.P
  have hi0 : (inH z h at_ n).2 = 0 := by unfold rdE at he; split at he <;> first | assumption | (rename_i hh; exact absurd he hh)
  have hn : n ≤ 1048576 := by unfold rdE at he; rw [if_pos hi0] at he; split at he <;> omega
  obtain ⟨o, hgo, hin, hi1⟩ := inH_some hi0
  have hpo := hA.pl h o hgo
  refine Spec.intro (IsEnt.out) Tryz.func41 rfl Tryz.ntmps41 (by simp) (fun w0 F => ?_)
  simp only [envOf, List.zipIdx, List.map, List.cons_append, List.nil_append, Nat.zero_add, Nat.reduceAdd]
  repeat (first | refine Zq ?_ | refine Zs ?_ | refine ZT ?_ | refine ZF ?_ | refine Zc ?_ | refine XO_gU (hk := ?_))
  refine XO_call (ar_within x z hA h at_ n h0 h1 a0 a1 n0 n1) (hk := ?_)
  rintro _ _ ⟨rfl, rfl⟩
  rw [hi0, hi1]
  repeat (first | refine Zq ?_ | refine Zs ?_ | refine ZT ?_ | refine ZF ?_ | refine Zc ?_ | refine XO_gU (hk := ?_))
  refine X_cond rfl (fun h => by cases h) (fun _ => ?_)
  refine X_open (A := Arn x z) (by (repeat (first | exact Find.here | apply Find.there))) Arn.open ?_
  rintro ⟨⟩ -
  dsimp only [List.cons_append, List.nil_append]
  repeat (first | refine Zq ?_ | refine Zs ?_ | refine ZT ?_ | refine ZF ?_ | refine Zc ?_ | refine XO_gU (hk := ?_))
  refine XO_call (kspace_spec x.s x.sb z.C) (hk := ?_)
  rintro _ _ ⟨rfl, rfl⟩
  repeat (first | refine Zq ?_ | refine Zs ?_ | refine ZT ?_ | refine ZF ?_ | refine Zc ?_ | refine XO_gU (hk := ?_))
  refine XO_call (load_ok x.sb (P := z.P) (m := z.m) (at_ := o.1 + at_) (n := n) (by omega) hP.2 (by omega) n0 (by omega) hn) (hk := ?_)
  rintro _ _ ⟨ob, rfl, rfl⟩
  repeat (first | refine Zq ?_ | refine Zs ?_ | refine ZT ?_ | refine ZF ?_ | refine Zc ?_ | refine XO_gU (hk := ?_))
  refine XE_fold (by repeat (first | exact FindAll.nil | exact Find.here | apply Find.there | apply FindAll.cons)) (Arn.fold (x := x) (z := { z with m := ldM z.m (o.1 + at_) n })) ?_
  refine XE_ret (.inl rfl) (tells_tmps rfl rfl) ⟨_, ⟨ob, rfl, rfl⟩, by ((try simp only [List.cons_append, List.nil_append]); repeat (first | exact ent_refl | refine ent_take (by repeat (first | exact Find.here | apply Find.there)) ?_ | refine ent_drop ?_))⟩
theorem ar_read_no (x : ABl) (z : Ar) {N : Nat} (hA : AOk N z) (h at_ n : Int) (h0 : 0 ≤ h) (h1 : h ≤ 18446744073709551615) (a0 : 0 ≤ at_) (a1 : at_ ≤ 18446744073709551615) (n0 : 0 ≤ n) (n1 : n ≤ 18446744073709551615) (he : rdE z h at_ n ≠ 0) :
    Spec Tryz.prog 41 [.pointer (some ⟨x.a, 0, none⟩), .int .u64 h, .int .u64 at_, .int .u64 n] [Arn x z] (fun v L => v = .tuple #[.slice none 0 0, .int .i64 (rdE z h at_ n)] ∧ L = [Arn x z]) := by
  have hP := hA.P
  refine Spec.intro (IsEnt.out) Tryz.func41 rfl Tryz.ntmps41 (by simp) (fun w0 F => ?_)
  simp only [envOf, List.zipIdx, List.map, List.cons_append, List.nil_append, Nat.zero_add, Nat.reduceAdd]
  repeat (first | refine Zq ?_ | refine Zs ?_ | refine ZT ?_ | refine ZF ?_ | refine Zc ?_ | refine XO_gU (hk := ?_))
  refine XO_call (ar_within x z hA h at_ n h0 h1 a0 a1 n0 n1) (hk := ?_)
  rintro _ _ ⟨rfl, rfl⟩
  repeat (first | refine Zq ?_ | refine Zs ?_ | refine ZT ?_ | refine ZF ?_ | refine Zc ?_ | refine XO_gU (hk := ?_))
  by_cases hi0 : (inH z h at_ n).2 = 0
  · have hre : rdE z h at_ n = if 1048576 < n then 1 else 0 := by unfold rdE; rw [if_pos hi0]
    have hn : 1048576 < n := by rw [hre] at he; split at he <;> first | assumption | (exact absurd rfl he)
    obtain ⟨o, hgo, hin, hi1⟩ := inH_some hi0
    have hpo := hA.pl h o hgo
    rw [hre, if_pos hn, hi0, hi1]
    refine X_cond rfl (fun h => by cases h) (fun _ => ?_)
    refine X_open (A := Arn x z) (by (repeat (first | exact Find.here | apply Find.there))) Arn.open ?_
    rintro ⟨⟩ -
    dsimp only [List.cons_append, List.nil_append]
    repeat (first | refine Zq ?_ | refine Zs ?_ | refine ZT ?_ | refine ZF ?_ | refine Zc ?_ | refine XO_gU (hk := ?_))
    refine XO_call (kspace_spec x.s x.sb z.C) (hk := ?_)
    rintro _ _ ⟨rfl, rfl⟩
    repeat (first | refine Zq ?_ | refine Zs ?_ | refine ZT ?_ | refine ZF ?_ | refine Zc ?_ | refine XO_gU (hk := ?_))
    have hld := Load_spec x.sb z.P z.m (o.1 + at_) n (by omega) hP.2 (by omega) (by omega) n0 n1
    have hf : fitsI z.P (o.1 + at_) n 1048576 = 1 := by unfold fitsI; rw [if_pos (by omega), if_pos hn]
    unfold loadV at hld
    rw [if_neg (by rw [hf]; decide), hf] at hld
    refine XO_call hld (hk := ?_)
    rintro _ _ ⟨rfl, rfl⟩
    repeat (first | refine Zq ?_ | refine Zs ?_ | refine ZT ?_ | refine ZF ?_ | refine Zc ?_ | refine XO_gU (hk := ?_))
    refine XE_fold (by repeat (first | exact FindAll.nil | exact Find.here | apply Find.there | apply FindAll.cons)) (Arn.fold (x := x) (z := z)) ?_
    refine XE_ret (.inl rfl) (tells_tmps rfl rfl) ⟨_, ⟨rfl, rfl⟩, by ((try simp only [List.cons_append, List.nil_append]); repeat (first | exact ent_refl | refine ent_take (by repeat (first | exact Find.here | apply Find.there)) ?_ | refine ent_drop ?_))⟩
  · have hre : rdE z h at_ n = (inH z h at_ n).2 := by unfold rdE; rw [if_neg hi0]
    rw [hre]
    refine X_cond rfl (fun _ => ?_) (fun h => by simp [hi0] at h)
    repeat (first | refine Zq ?_ | refine Zs ?_ | refine ZT ?_ | refine ZF ?_ | refine Zc ?_ | refine XO_gU (hk := ?_))
    refine XE_ret (.inl rfl) (tells_tmps rfl rfl) ⟨_, ⟨rfl, rfl⟩, by ((try simp only [List.cons_append, List.nil_append]); repeat (first | exact ent_refl | refine ent_take (by repeat (first | exact Find.here | apply Find.there)) ?_ | refine ent_drop ?_))⟩
end Go.Proofs.YtamecmklcnohjaaGreat.Sep
