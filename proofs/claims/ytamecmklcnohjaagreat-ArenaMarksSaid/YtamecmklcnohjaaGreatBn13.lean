import Derived.Test.YtamecmklcnohjaaGreatBn12
/- What the laws share: a separation logic over the model, and what the program's functions do, by it. Part 13 of 15: TabR TabO TabM. -/
namespace Go.Proofs.YtamecmklcnohjaaGreat.Sep
open Go.RowKit
set_option linter.unusedSimpArgs false
set_option linter.unusedVariables false
/-! tables of *region.Region: contracts (printed by gentb.py) -/
def eTR : E (Option Nat) := ⟨1, false, fun v => [.pointer (v.map fun b => ⟨b, 0, none⟩)], fun _ => rfl, fun _ _ h => by simp at h; subst h; rfl, by decide, fun _ => rfl⟩
abbrev tvalR (v : Option Nat) : Value := (.pointer (v.map fun b => ⟨b, 0, none⟩))
abbrev TblR (b : Nat) (t : Tb (Option Nat)) : HP := Tbl eTR 224 b t
set_option maxHeartbeats 8000000
attribute [local irreducible] X XE XO XD XDi XDa PV RV DV pt base Spec Sl Mp Keeps
attribute [local irreducible] Tbl
instance teq_tmR : TEq Tryz.prog 282 [.i64, .i64] := ⟨_, Tryz.underlying282, by kernel_rfl, by kernel_rfl, ⟨by decide, rfl, Tryz.underlying3, by decide, rfl, Tryz.underlying3, trivial⟩⟩
theorem tnewR (k : Int) : Spec Tryz.prog 85 [.int .i64 k] [] (fun v L => ∃ b, v = .pointer (some ⟨b, 0, none⟩) ∧ L = [TblR b ⟨k, [], []⟩]) := by
  refine Spec.intro (IsEnt.out) Tryz.func85 rfl Tryz.ntmps85 (by simp) (fun w0 F => ?_)
  simp only [envOf, List.zipIdx, List.map, List.cons_append, List.nil_append, Nat.zero_add, Nat.reduceAdd]
  repeat (first | refine Zq ?_ | refine Zs ?_ | refine ZT ?_ | refine ZF ?_ | refine Zc ?_ | refine XO_gU (hk := ?_))
  refine XO_pv (pv_buildG [.int .i64 k, .slice none 0 0, .slice none 0 0]) (hk := ?_)
  repeat (first | refine Zq ?_ | refine Zs ?_ | refine ZT ?_ | refine ZF ?_ | refine Zc ?_ | refine XO_gU (hk := ?_))
  refine XO_dv dv_box (hk := ?_)
  rintro _ _ ⟨b, rfl, rfl⟩
  repeat (first | refine Zq ?_ | refine Zs ?_ | refine ZT ?_ | refine ZF ?_ | refine Zc ?_ | refine XO_gU (hk := ?_))
  refine XE_conv (fun _ h => SL_nilSl (eSlt eTR) h) ?_
  refine XE_conv (fun _ h => SL_nilSl (eI .i64) h) ?_
  refine XE_ret (.inl rfl) (tells_tmps rfl rfl) ⟨_, ⟨b, rfl, rfl⟩, ?_⟩
  simp only [List.cons_append, List.nil_append]
  refine ent_fold (by repeat (first | exact FindAll.nil | exact Find.here | apply Find.there | apply FindAll.cons)) (Tbl.fold (eV := eTR) (t := ⟨k, [], []⟩) (a1 := none) (n1 := 0) (c1 := 0) (a2 := none) (n2 := 0) (c2 := 0) rfl rfl) ?_
  ((try simp only [List.cons_append, List.nil_append]); repeat (first | exact ent_refl | refine ent_take (by repeat (first | exact Find.here | apply Find.there)) ?_ | refine ent_drop ?_))
/-- A slot's handle. -/
theorem thandleR (b : Nat) (t : Tb (Option Nat)) {N : Nat} (hT : TbOk N t) (i : Nat) (hi : i < t.slots.length) (a1 : Option Addr) (c1 : Nat) (a2 : Option Addr) (n2 c2 : Nat) : Spec Tryz.prog 138 [.pointer (some ⟨b, 0, none⟩), .int .i64 i] [pt b (.cells (tbRow t.kind a1 t.slots.length c1 a2 n2 c2).toArray 224 (0, 0)), Sl (eSlt eTR) a1 c1 t.slots]
    (fun v L => v = .int .u64 (t.hAt i) ∧ L = [pt b (.cells (tbRow t.kind a1 t.slots.length c1 a2 n2 c2).toArray 224 (0, 0)), Sl (eSlt eTR) a1 c1 t.slots]) := by
  have hlen := hT.len
  have hN := hT.hN
  have hgn := hT.gen i
  have hkd := hT.kd
  refine Spec.intro (IsEnt.out) Tryz.func138 rfl Tryz.ntmps138 (by simp) (fun w0 F => ?_)
  simp only [envOf, List.zipIdx, List.map, List.cons_append, List.nil_append, Nat.zero_add, Nat.reduceAdd]
  have hget : t.slots[i]? = some t.slots[i] := List.getElem?_eq_getElem hi
  have hgg : t.genAt i = t.slots[i].2.2 := by unfold Tb.genAt; rw [hget]
  unfold Tb.hAt
  rw [hgg] at hgn ⊢
  generalize t.slots[i] = q at hget hgg hgn ⊢
  refine X_slopen (E' := eSlt eTR) (a := a1) (c := c1) (xs := t.slots) (by (repeat (first | exact Find.here | apply Find.there))) (by omega) ?_
  rintro qb o rfl
  repeat (first | refine Zq ?_ | refine Zs ?_ | refine ZT ?_ | refine ZF ?_ | refine Zc ?_ | refine XO_gU (hk := ?_))
  repeat (first | refine XD_pick (h := ?_) | refine Dq ?_ | refine Ds ?_ | refine XDi_gF (h := ?_) | refine XDi_gU (h := ?_) | refine X_draws (h := ?_))
  refine XD_one (h := ?_)
  refine XDa_dvA (dv_call (pack_spec t.kind i q.2.2 ⟨by omega, by omega⟩ ⟨by omega, by omega⟩ ⟨by omega, by omega⟩)) (hk := ?_)
  (rintro _ _ ⟨_, ⟨rfl, rfl⟩, rfl⟩; refine ⟨by (repeat (first | exact keeps_nil | exact keeps_fnil | refine keeps_skip (h := ?_) | refine keeps_takeQ (h := ?_))), ?_⟩)
  repeat (first | refine XD_pick (h := ?_) | refine Dq ?_ | refine Ds ?_ | refine XDi_gF (h := ?_) | refine XDi_gU (h := ?_) | refine X_draws (h := ?_))
  (refine XD_one (h := ?_); refine XDa_dvA (dv_of_rv (rv_of_pv pv_assign)) (hk := ?_); rintro _ _ ⟨rfl, rfl⟩; refine ⟨by (repeat (first | exact keeps_nil | exact keeps_fnil | refine keeps_skip (h := ?_) | refine keeps_takeQ (h := ?_))), ?_⟩)
  (refine XD_end (h := ?_); repeat (first | refine Zq ?_ | refine Zs ?_ | refine ZT ?_ | refine ZF ?_ | refine Zc ?_ | refine XO_gU (hk := ?_)))
  refine XE_ret (.inl rfl) (tells_tmps rfl rfl) ⟨_, ⟨rfl, rfl⟩, by ((try simp only [List.cons_append, List.nil_append]); repeat (first | exact ent_refl | refine ent_take (by repeat (first | exact Find.here | apply Find.there)) ?_ | refine ent_drop ?_))⟩
/-- Where a live handle's slot lies. -/
theorem tliveR (b : Nat) (t : Tb (Option Nat)) {N : Nat} (hT : TbOk N t) (h : Int) (h0 : 0 ≤ h) (h1 : h ≤ 18446744073709551615) (a1 : Option Addr) (c1 : Nat) (a2 : Option Addr) (n2 c2 : Nat) : Spec Tryz.prog 139 [.pointer (some ⟨b, 0, none⟩), .int .u64 h] [pt b (.cells (tbRow t.kind a1 t.slots.length c1 a2 n2 c2).toArray 224 (0, 0)), Sl (eSlt eTR) a1 c1 t.slots]
    (fun v L => v = .pointer (slotA a1 (eSlt eTR).sz (t.spot h)) ∧ L = [pt b (.cells (tbRow t.kind a1 t.slots.length c1 a2 n2 c2).toArray 224 (0, 0)), Sl (eSlt eTR) a1 c1 t.slots]) := by
  have hlen := hT.len
  have hN := hT.hN
  have hs0 : 0 ≤ hSlot h := Int.emod_nonneg _ (by decide)
  have hs1 : hSlot h < 4294967296 := Int.emod_lt_of_pos _ (by decide)
  refine Spec.intro (IsEnt.out) Tryz.func139 rfl Tryz.ntmps139 (by simp) (fun w0 F => ?_)
  simp only [envOf, List.zipIdx, List.map, List.cons_append, List.nil_append, Nat.zero_add, Nat.reduceAdd]
  repeat (first | refine Zq ?_ | refine Zs ?_ | refine ZT ?_ | refine ZF ?_ | refine Zc ?_ | refine XO_gU (hk := ?_))
  refine XO_call (unpack_spec h h0 h1) (hk := ?_)
  rintro _ _ ⟨rfl, rfl⟩
  unfold unpV
  by_cases hk : hKind h = 0
  · rw [if_pos hk, show t.spot h = none from if_neg (fun hh => hh.1 hk), show slotA a1 (eSlt eTR).sz none = none from by cases a1 <;> rfl]
    repeat (first | refine Zq ?_ | refine Zs ?_ | refine ZT ?_ | refine ZF ?_ | refine Zc ?_ | refine XO_gU (hk := ?_))
    repeat (first | refine XD_pick (h := ?_) | refine Dq ?_ | refine Ds ?_ | refine XDi_gF (h := ?_) | refine XDi_gU (h := ?_) | refine X_draws (h := ?_))
    (refine XD_end (h := ?_); repeat (first | refine Zq ?_ | refine Zs ?_ | refine ZT ?_ | refine ZF ?_ | refine Zc ?_ | refine XO_gU (hk := ?_)))
    (refine X_cond rfl (fun _ => ?_) (fun h => by cases h))
    repeat (first | refine Zq ?_ | refine Zs ?_ | refine ZT ?_ | refine ZF ?_ | refine Zc ?_ | refine XO_gU (hk := ?_))
    refine XE_ret (.inl rfl) (tells_tmps rfl rfl) ⟨_, ⟨rfl, rfl⟩, by ((try simp only [List.cons_append, List.nil_append]); repeat (first | exact ent_refl | refine ent_take (by repeat (first | exact Find.here | apply Find.there)) ?_ | refine ent_drop ?_))⟩
  rw [if_neg hk]
  repeat (first | refine Zq ?_ | refine Zs ?_ | refine ZT ?_ | refine ZF ?_ | refine Zc ?_ | refine XO_gU (hk := ?_))
  repeat (first | refine XD_pick (h := ?_) | refine Dq ?_ | refine Ds ?_ | refine XDi_gF (h := ?_) | refine XDi_gU (h := ?_) | refine X_draws (h := ?_))
  by_cases hi : (hSlot h).toNat < t.slots.length
  case neg =>
    rw [show decide ((t.slots.length : Int) ≤ hSlot h) = true from decide_eq_true (by omega), show t.spot h = none from if_neg (fun hh => hi (Tb.usedAt_lt hh.2.1)), show slotA a1 (eSlt eTR).sz none = none from by cases a1 <;> rfl]
    repeat (first | refine XD_pick (h := ?_) | refine Dq ?_ | refine Ds ?_ | refine XDi_gF (h := ?_) | refine XDi_gU (h := ?_) | refine X_draws (h := ?_))
    (refine XD_end (h := ?_); repeat (first | refine Zq ?_ | refine Zs ?_ | refine ZT ?_ | refine ZF ?_ | refine Zc ?_ | refine XO_gU (hk := ?_)))
    (refine X_cond rfl (fun _ => ?_) (fun h => by cases h))
    repeat (first | refine Zq ?_ | refine Zs ?_ | refine ZT ?_ | refine ZF ?_ | refine Zc ?_ | refine XO_gU (hk := ?_))
    refine XE_ret (.inl rfl) (tells_tmps rfl rfl) ⟨_, ⟨rfl, rfl⟩, by ((try simp only [List.cons_append, List.nil_append]); repeat (first | exact ent_refl | refine ent_take (by repeat (first | exact Find.here | apply Find.there)) ?_ | refine ent_drop ?_))⟩
  rw [show decide ((t.slots.length : Int) ≤ hSlot h) = false from decide_eq_false (by omega)]
  have hget : t.slots[(hSlot h).toNat]? = some t.slots[(hSlot h).toNat] := List.getElem?_eq_getElem hi
  have hsp : t.spot h = if t.slots[(hSlot h).toNat].2.1 = true ∧ hKind h = t.kind ∧ hGen h = t.slots[(hSlot h).toNat].2.2 then some (hSlot h).toNat else none := by
    unfold Tb.spot Tb.usedAt Tb.genAt
    rw [hget]
    simp only [ne_eq, hk, not_false_eq_true, true_and]
  rw [hsp]
  generalize t.slots[(hSlot h).toNat] = q at hget ⊢
  refine XDi_view (E' := eSlt eTR) (a := a1) (xs := t.slots) (hV := Sl.view) (hp := by omega) (h := ?_)
  rintro qb o rfl
  repeat (first | refine XD_pick (h := ?_) | refine Dq ?_ | refine Ds ?_ | refine XDi_gF (h := ?_) | refine XDi_gU (h := ?_) | refine X_draws (h := ?_))
  obtain ⟨v, u, g⟩ := q
  dsimp only at hget ⊢
  cases u with
  | false =>
    rw [if_neg (fun hh => by cases hh.1), show slotA (some ⟨qb, o, none⟩) (eSlt eTR).sz none = none from rfl]
    repeat (first | refine XD_pick (h := ?_) | refine Dq ?_ | refine Ds ?_ | refine XDi_gF (h := ?_) | refine XDi_gU (h := ?_) | refine X_draws (h := ?_))
    (refine XD_end (h := ?_); repeat (first | refine Zq ?_ | refine Zs ?_ | refine ZT ?_ | refine ZF ?_ | refine Zc ?_ | refine XO_gU (hk := ?_)))
    (refine X_cond rfl (fun _ => ?_) (fun h => by cases h))
    repeat (first | refine Zq ?_ | refine Zs ?_ | refine ZT ?_ | refine ZF ?_ | refine Zc ?_ | refine XO_gU (hk := ?_))
    refine XE_ret (.inl rfl) (tells_tmps rfl rfl) ⟨_, ⟨rfl, rfl⟩, by ((try simp only [List.cons_append, List.nil_append]); repeat (first | exact ent_refl | refine ent_take (by repeat (first | exact Find.here | apply Find.there)) ?_ | refine ent_drop ?_))⟩
  | true =>
    repeat (first | refine XD_pick (h := ?_) | refine Dq ?_ | refine Ds ?_ | refine XDi_gF (h := ?_) | refine XDi_gU (h := ?_) | refine X_draws (h := ?_))
    refine Dp (pv_neRec [hKind h, hGen h] [t.kind, g]) ?_
    repeat (first | refine XD_pick (h := ?_) | refine Dq ?_ | refine Ds ?_ | refine XDi_gF (h := ?_) | refine XDi_gU (h := ?_) | refine X_draws (h := ?_))
    (refine XD_end (h := ?_); repeat (first | refine Zq ?_ | refine Zs ?_ | refine ZT ?_ | refine ZF ?_ | refine Zc ?_ | refine XO_gU (hk := ?_)))
    by_cases he : hKind h = t.kind ∧ hGen h = g
    · rw [if_pos ⟨rfl, he⟩]
      refine X_cond rfl (fun hh => by simp [he.1, he.2] at hh) (fun _ => ?_)
      repeat (first | refine Zq ?_ | refine Zs ?_ | refine ZT ?_ | refine ZF ?_ | refine Zc ?_ | refine XO_gU (hk := ?_))
      refine XE_ret (.inl rfl) (tells_tmps rfl rfl) ⟨_, ⟨rfl, rfl⟩, by ((try simp only [List.cons_append, List.nil_append]); repeat (first | exact ent_refl | refine ent_take (by repeat (first | exact Find.here | apply Find.there)) ?_ | refine ent_drop ?_))⟩
    · rw [if_neg (fun hh => he hh.2), show slotA (some ⟨qb, o, none⟩) (eSlt eTR).sz none = none from rfl]
      refine X_cond rfl (fun _ => ?_) (fun hh => by simp at hh; exact absurd hh he)
      repeat (first | refine Zq ?_ | refine Zs ?_ | refine ZT ?_ | refine ZF ?_ | refine Zc ?_ | refine XO_gU (hk := ?_))
      refine XE_ret (.inl rfl) (tells_tmps rfl rfl) ⟨_, ⟨rfl, rfl⟩, by ((try simp only [List.cons_append, List.nil_append]); repeat (first | exact ent_refl | refine ent_take (by repeat (first | exact Find.here | apply Find.there)) ?_ | refine ent_drop ?_))⟩
/-- The thing of a handle. -/
theorem tgetR (b : Nat) (t : Tb (Option Nat)) {N : Nat} (hT : TbOk N t) (h : Int) (h0 : 0 ≤ h) (h1 : h ≤ 18446744073709551615) : Spec Tryz.prog 136 [.pointer (some ⟨b, 0, none⟩), .int .u64 h] [TblR b t]
    (fun v L => v = .tuple #[tvalR ((t.get h).getD none), .bool (t.get h).isSome] ∧ L = [TblR b t]) := by
  refine Spec.intro (IsEnt.out) Tryz.func136 rfl Tryz.ntmps136 (by simp) (fun w0 F => ?_)
  simp only [envOf, List.zipIdx, List.map, List.cons_append, List.nil_append, Nat.zero_add, Nat.reduceAdd]
  refine X_open (A := TblR b t) (by (repeat (first | exact Find.here | apply Find.there))) Tbl.open ?_
  rintro ⟨⟨a1, c1⟩, a2, c2⟩ -
  dsimp only [List.cons_append, List.nil_append]
  repeat (first | refine Zq ?_ | refine Zs ?_ | refine ZT ?_ | refine ZF ?_ | refine Zc ?_ | refine XO_gU (hk := ?_))
  refine XO_call (tliveR b t hT h h0 h1 a1 c1 a2 t.free.length c2) (hk := ?_)
  rintro _ _ ⟨rfl, rfl⟩
  cases hs : t.spot h with
  | none =>
    rw [show slotA a1 (eSlt eTR).sz none = none from by cases a1 <;> rfl, show t.get h = none from by unfold Tb.get; rw [hs]; rfl]
    repeat (first | refine Zq ?_ | refine Zs ?_ | refine ZT ?_ | refine ZF ?_ | refine Zc ?_ | refine XO_gU (hk := ?_))
    (refine X_cond rfl (fun _ => ?_) (fun h => by cases h))
    repeat (first | refine Zq ?_ | refine Zs ?_ | refine ZT ?_ | refine ZF ?_ | refine Zc ?_ | refine XO_gU (hk := ?_))
    refine XE_fold (by repeat (first | exact FindAll.nil | exact Find.here | apply Find.there | apply FindAll.cons)) (Tbl.fold (eV := eTR) (t := t) (a1 := a1) (n1 := t.slots.length) (c1 := c1) (a2 := a2) (n2 := t.free.length) (c2 := c2) rfl rfl) ?_
    refine XE_ret (.inl rfl) (tells_tmps rfl rfl) ⟨_, ⟨rfl, rfl⟩, by ((try simp only [List.cons_append, List.nil_append]); repeat (first | exact ent_refl | refine ent_take (by repeat (first | exact Find.here | apply Find.there)) ?_ | refine ent_drop ?_))⟩
  | some i =>
    obtain ⟨_, hu, _, _, _, hi⟩ := Tb.spot_some hs
    have hget : t.slots[i]? = some t.slots[i] := List.getElem?_eq_getElem hi
    have hg2 : t.get h = some t.slots[i].1 := by unfold Tb.get; rw [hs]; show Option.map _ _ = _; rw [hget]; rfl
    rw [hg2]
    refine XO_slopen (E' := eSlt eTR) (a := a1) (c := c1) (xs := t.slots) (by (repeat (first | exact Find.here | apply Find.there))) (by omega) ?_
    rintro qb o rfl
    rw [show slotA (some ⟨qb, o, none⟩) (eSlt eTR).sz (some i) = some ⟨qb, o + i * (eSlt eTR).sz, none⟩ from rfl]
    repeat (first | refine Zq ?_ | refine Zs ?_ | refine ZT ?_ | refine ZF ?_ | refine Zc ?_ | refine XO_gU (hk := ?_))
    (refine X_cond rfl (fun h => by cases h) (fun _ => ?_))
    repeat (first | refine Zq ?_ | refine Zs ?_ | refine ZT ?_ | refine ZF ?_ | refine Zc ?_ | refine XO_gU (hk := ?_))
    trace_state
    refine XE_fold (by repeat (first | exact FindAll.nil | exact Find.here | apply Find.there | apply FindAll.cons)) (Tbl.fold (eV := eTR) (t := t) (a1 := some ⟨qb, o, none⟩) (n1 := t.slots.length) (c1 := c1) (a2 := a2) (n2 := t.free.length) (c2 := c2) rfl rfl) ?_
    refine XE_ret (.inl rfl) (tells_tmps rfl rfl) ⟨_, ⟨rfl, rfl⟩, by ((try simp only [List.cons_append, List.nil_append]); repeat (first | exact ent_refl | refine ent_take (by repeat (first | exact Find.here | apply Find.there)) ?_ | refine ent_drop ?_))⟩
/-- One thing more. -/
theorem taddR (b : Nat) (t : Tb (Option Nat)) {N : Nat} (hT : TbOk N t) (hN : N + 1 ≤ 1000000) (v : Option Nat) : Spec Tryz.prog 91 [.pointer (some ⟨b, 0, none⟩), tvalR v] [TblR b t]
    (fun u L => u = .int .u64 t.addH ∧ L = [TblR b (t.add v)]) := by
  have hlen := hT.len
  have hkd := hT.kd
  have hnx := hT.nx_le
  refine Spec.intro (IsEnt.out) Tryz.func91 rfl Tryz.ntmps91 (by simp) (fun w0 F => ?_)
  simp only [envOf, List.zipIdx, List.map, List.cons_append, List.nil_append, Nat.zero_add, Nat.reduceAdd]
  refine X_open (A := TblR b t) (by (repeat (first | exact Find.here | apply Find.there))) Tbl.open ?_
  rintro ⟨⟨a1, c1⟩, a2, c2⟩ -
  dsimp only [List.cons_append, List.nil_append]
  repeat (first | refine Zq ?_ | refine Zs ?_ | refine ZT ?_ | refine ZF ?_ | refine Zc ?_ | refine XO_gU (hk := ?_))
  refine XO_call (pack_spec t.kind 0 0 ⟨by omega, by omega⟩ ⟨by omega, by omega⟩ ⟨by omega, by omega⟩) (hk := ?_)
  rintro _ _ ⟨rfl, rfl⟩
  have hpk : (packI t.kind 0 0 == 0) = false := by rw [beq_eq_false_iff_ne]; exact pack_ne ⟨hkd.1, hkd.2, by decide, by decide⟩
  repeat (first | refine Zq ?_ | refine Zs ?_ | refine ZT ?_ | refine ZF ?_ | refine Zc ?_ | refine XO_gU (hk := ?_))
  refine X_cond rfl (fun hh => by rw [hpk] at hh; cases hh) (fun _ => ?_)
  refine X_skip ?_
  refine XE_code ?_
  refine X_seq ?_
  refine X_region ?_
  (repeat (first | refine Zq ?_ | refine Zs ?_ | refine ZT ?_ | refine ZF ?_ | refine XO_gU (hk := ?_)))
  have hfl2 := hT.fl
  have hrl := Tb.room_lt hT (none : Option Nat)
  have hrg := Tb.room_gen hT (none : Option Nat) hrl
  have hae := Tb.add_eq hT (none : Option Nat) v
  have hTa := hT.add hN v
  have hag : (t.add v).hAt t.nx = t.addH := by unfold Tb.addH Tb.hAt; rw [Tb.add_gen hT v, show (t.add v).kind = t.kind from by rw [hae]]
  refine XO_nil ?_
  refine XE_code ?_
  refine X_seq ?_
  refine X_join (ι := (Option Addr × Nat) × (Option Addr × Nat)) (fun _ => True) (fun _ => [(0, .pointer (some ⟨b, 0, none⟩)),
 (1, tvalR v),
    (5, .int .i64 (t.nx : Int))]) (fun y => [
    pt b (.cells (tbRow t.kind y.1.1 (t.room (none : Option Nat)).slots.length y.1.2 y.2.1 (t.room (none : Option Nat)).free.length y.2.2).toArray 224 (0, 0)), Sl (eSlt eTR) y.1.1 y.1.2 (t.room (none : Option Nat)).slots, Sl (eI .i64) y.2.1 y.2.2 (t.room (none : Option Nat)).free] ++ F) ?_ ?_
  · repeat (first | refine Zq ?_ | refine Zs ?_ | refine ZT ?_ | refine ZF ?_ | refine Zc ?_ | refine XO_gU (hk := ?_))
    cases hl : t.free.getLast? with
    | none =>
      have hf0 : t.free = [] := List.getLast?_eq_none_iff.1 hl
      have hf1 : t.free.length = 0 := by rw [hf0]; rfl
      have hrm : t.room (none : Option Nat) = ⟨t.kind, t.slots ++ [(none, false, 0)], t.free⟩ := by unfold Tb.room; rw [hl]
      have hn0 : t.nx = t.slots.length := by unfold Tb.nx; rw [hl]
      refine X_cond rfl (fun hh => by simp at hh; omega) (fun _ => ?_)
      repeat (first | refine Zq ?_ | refine Zs ?_ | refine ZT ?_ | refine ZF ?_ | refine Zc ?_ | refine XO_gU (hk := ?_))
      refine XO_lit (E' := eSlt eTR) [((none : Option Nat), false, (0 : Int))] (hk := ?_)
      intro lb
      repeat (first | refine Zq ?_ | refine Zs ?_ | refine ZT ?_ | refine ZF ?_ | refine Zc ?_ | refine XO_gU (hk := ?_))
      refine XO_dv (dv_append (E' := eSlt eTR) (xs := t.slots) (ys := [((none : Option Nat), false, (0 : Int))]) (hv := Sl.view) (hb := by simp; omega)) (hk := ?_)
      rintro _ _ ⟨a', c', rfl, rfl⟩
      repeat (first | refine Zq ?_ | refine Zs ?_ | refine ZT ?_ | refine ZF ?_ | refine Zc ?_ | refine XO_gU (hk := ?_))
      refine XO_dv0 dv_store (hk := ?_)
      rintro _ _ rfl
      repeat (first | refine Zq ?_ | refine Zs ?_ | refine ZT ?_ | refine ZF ?_ | refine Zc ?_ | refine XO_gU (hk := ?_))
      rw [hrm, hn0]
      exact X_meet ((a', c'), (a2, c2)) trivial (by (repeat (first | exact Env.sub_nil _ | refine Env.sub_cons rfl ?_))) (by ((try simp only [List.cons_append, List.nil_append]); repeat (first | exact ent_nil | exact ent_refl | refine ent_take (by repeat (first | exact Find.here | apply Find.there)) ?_ | refine ent_drop ?_)))
    | some i =>
      have hne : t.free ≠ [] := fun e => by rw [e] at hl; cases hl
      have hfl : 0 < t.free.length := List.length_pos_iff.2 hne
      have hi := hT.free i (List.mem_of_getLast? hl)
      have hrm : t.room (none : Option Nat) = ⟨t.kind, t.slots, t.free.dropLast⟩ := by unfold Tb.room; rw [hl]
      have hn0 : t.nx = i.toNat := by unfold Tb.nx; rw [hl]
      have hgl : t.free[((t.free.length : Int) - 1).toNat]? = some i := by
        rw [show ((t.free.length : Int) - 1).toNat = t.free.length - 1 from by omega]
        rw [List.getLast?_eq_getElem?] at hl; exact hl
      refine X_cond rfl (fun _ => ?_) (fun hh => by rw [decide_eq_true (by omega)] at hh; cases hh)
      refine X_slopen (E' := eI .i64) (a := a2) (c := c2) (xs := t.free) (by (repeat (first | exact Find.here | apply Find.there))) hfl ?_
      rintro fb fo rfl
      refine X_fact (A := Sl (eI .i64) (some ⟨fb, fo, none⟩) c2 t.free) (by (repeat (first | exact Find.here | apply Find.there))) Sl.cap (fun hcap => ?_)
      repeat (first | refine Zq ?_ | refine Zs ?_ | refine ZT ?_ | refine ZF ?_ | refine Zc ?_ | refine XO_gU (hk := ?_))
      refine XO_dv0 dv_store (hk := ?_)
      rintro _ _ rfl
      repeat (first | refine Zq ?_ | refine Zs ?_ | refine ZT ?_ | refine ZF ?_ | refine Zc ?_ | refine XO_gU (hk := ?_))
      rw [show ((t.free.length : Int) - 1).toNat = t.free.dropLast.length from by rw [List.length_dropLast]; omega]
      refine XE_conv (fun _ => SL_take (E' := eI .i64) (a := some ⟨fb, fo, none⟩) (c := c2) (xs := t.free) (t.free.length - 1) (by (repeat (first | exact Find.here | apply Find.there)))) ?_
      rw [← List.dropLast_eq_take, hrm, hn0, show (i.toNat : Int) = i from by omega]
      exact X_meet ((a1, c1), (some ⟨fb, fo, none⟩, c2)) trivial (by (repeat (first | exact Env.sub_nil _ | refine Env.sub_cons rfl ?_))) (by ((try simp only [List.cons_append, List.nil_append]); repeat (first | exact ent_nil | exact ent_refl | refine ent_take (by repeat (first | exact Find.here | apply Find.there)) ?_ | refine ent_drop ?_)))
  rintro ⟨⟨a1, c1⟩, a2, c2⟩ -
  dsimp only
  generalize hxs : (t.room (none : Option Nat)).slots = xs at hrl hrg hae ⊢
  have hgx : xs[t.nx]? = some xs[t.nx] := List.getElem?_eq_getElem hrl
  refine X_slopen (E' := eSlt eTR) (a := a1) (c := c1) (xs := xs) (by (repeat (first | exact Find.here | apply Find.there))) (by omega) ?_
  rintro qb o rfl
  repeat (first | refine Zq ?_ | refine Zs ?_ | refine ZT ?_ | refine ZF ?_ | refine Zc ?_ | refine XO_gU (hk := ?_))
  repeat (first | refine XD_pick (h := ?_) | refine Dq ?_ | refine Ds ?_ | refine XDi_gF (h := ?_) | refine XDi_gU (h := ?_) | refine X_draws (h := ?_))
  refine XD_one (h := ?_)
  refine XDa_dvk0 (dv_putEl (E' := eSlt eTR) (i := t.nx) (s := (eSlt eTR).sz) (f := 0) (xs := xs) (vs := eTR.cells v) (v, xs[t.nx].2.1, xs[t.nx].2.2) (by (repeat (first | exact Find.here | apply Find.there))) rfl rfl rfl (eTR.one v) rfl rfl hrl (by rw [eTR.len]; decide) rfl) (K := _) (hk := ?_)
  rintro _ _ rfl
  refine ⟨by (repeat (first | exact keeps_nil | exact keeps_fnil | refine keeps_skip (h := ?_) | refine keeps_takeQ (h := ?_))), ?_⟩
  have hrl2 : t.nx < (xs.set t.nx (v, xs[t.nx].2.1, xs[t.nx].2.2)).length := by rw [List.length_set]; exact hrl
  repeat (first | refine XD_pick (h := ?_) | refine Dq ?_ | refine Ds ?_ | refine XDi_gF (h := ?_) | refine XDi_gU (h := ?_) | refine X_draws (h := ?_))
  refine XD_one (h := ?_)
  refine XDa_dvk0 (dv_putEl (E' := eSlt eTR) (i := t.nx) (s := (eSlt eTR).sz) (f := eTR.sz) (xs := xs.set t.nx (v, xs[t.nx].2.1, xs[t.nx].2.2)) (vs := [.bool true]) (v, true, xs[t.nx].2.2) (by (repeat (first | exact Find.here | apply Find.there))) rfl rfl rfl (fun u hu => by simp at hu; subst hu; rfl) rfl rfl hrl2 (by decide) (by rw [List.getElem_set_self]; rfl)) (K := _) (hk := ?_)
  rintro _ _ rfl
  refine ⟨by (repeat (first | exact keeps_nil | exact keeps_fnil | refine keeps_skip (h := ?_) | refine keeps_takeQ (h := ?_))), ?_⟩
  (refine XD_end (h := ?_); repeat (first | refine Zq ?_ | refine Zs ?_ | refine ZT ?_ | refine ZF ?_ | refine Zc ?_ | refine XO_gU (hk := ?_)))
  rw [List.set_set, hrg]
  have hc := thandleR b (t.add v) hTa t.nx (by rw [hae]; show t.nx < (xs.set _ _).length; rw [List.length_set]; exact hrl) (some ⟨qb, o, none⟩) c1 a2 (t.room (none : Option Nat)).free.length c2
  rw [hag, hae] at hc
  dsimp only at hc
  rw [List.length_set] at hc
  repeat (first | refine Zq ?_ | refine Zs ?_ | refine ZT ?_ | refine ZF ?_ | refine Zc ?_ | refine XO_gU (hk := ?_))
  refine XO_call hc (hk := ?_)
  rintro _ _ ⟨rfl, rfl⟩
  repeat (first | refine Zq ?_ | refine Zs ?_ | refine ZT ?_ | refine ZF ?_ | refine Zc ?_ | refine XO_gU (hk := ?_))
  rw [hae]
  refine XE_fold (by repeat (first | exact FindAll.nil | exact Find.here | apply Find.there | apply FindAll.cons)) (Tbl.fold (eV := eTR) (T := 224) (b := b) (t := ⟨t.kind, xs.set t.nx (v, true, t.genAt t.nx), (t.room (none : Option Nat)).free⟩) (a1 := some ⟨qb, o, none⟩) (n1 := xs.length) (c1 := c1) (a2 := a2) (n2 := (t.room (none : Option Nat)).free.length) (c2 := c2) (by show _ = (xs.set _ _).length; rw [List.length_set]) rfl) ?_
  refine XE_ret (.inl rfl) (tells_tmps rfl rfl) ⟨_, ⟨rfl, rfl⟩, by ((try simp only [List.cons_append, List.nil_append]); repeat (first | exact ent_refl | refine ent_take (by repeat (first | exact Find.here | apply Find.there)) ?_ | refine ent_drop ?_))⟩
/-- A thing is changed. -/
theorem tsetR (b : Nat) (t : Tb (Option Nat)) {N : Nat} (hT : TbOk N t) (h : Int) (h0 : 0 ≤ h) (h1 : h ≤ 18446744073709551615) (v : Option Nat) : Spec Tryz.prog 92 [.pointer (some ⟨b, 0, none⟩), .int .u64 h, tvalR v] [TblR b t]
    (fun u L => u = .bool (t.spot h).isSome ∧ L = [TblR b (t.put h v)]) := by
  refine Spec.intro (IsEnt.out) Tryz.func92 rfl Tryz.ntmps92 (by simp) (fun w0 F => ?_)
  simp only [envOf, List.zipIdx, List.map, List.cons_append, List.nil_append, Nat.zero_add, Nat.reduceAdd]
  refine X_open (A := TblR b t) (by (repeat (first | exact Find.here | apply Find.there))) Tbl.open ?_
  rintro ⟨⟨a1, c1⟩, a2, c2⟩ -
  dsimp only [List.cons_append, List.nil_append]
  repeat (first | refine Zq ?_ | refine Zs ?_ | refine ZT ?_ | refine ZF ?_ | refine Zc ?_ | refine XO_gU (hk := ?_))
  refine XO_call (tliveR b t hT h h0 h1 a1 c1 a2 t.free.length c2) (hk := ?_)
  rintro _ _ ⟨rfl, rfl⟩
  cases hs : t.spot h with
  | none =>
    rw [show slotA a1 (eSlt eTR).sz none = none from by cases a1 <;> rfl, show t.put h v = t from by unfold Tb.put; rw [hs]]
    repeat (first | refine Zq ?_ | refine Zs ?_ | refine ZT ?_ | refine ZF ?_ | refine Zc ?_ | refine XO_gU (hk := ?_))
    (refine X_cond rfl (fun _ => ?_) (fun h => by cases h))
    repeat (first | refine Zq ?_ | refine Zs ?_ | refine ZT ?_ | refine ZF ?_ | refine Zc ?_ | refine XO_gU (hk := ?_))
    refine XE_fold (by repeat (first | exact FindAll.nil | exact Find.here | apply Find.there | apply FindAll.cons)) (Tbl.fold (eV := eTR) (t := t) (a1 := a1) (n1 := t.slots.length) (c1 := c1) (a2 := a2) (n2 := t.free.length) (c2 := c2) rfl rfl) ?_
    refine XE_ret (.inl rfl) (tells_tmps rfl rfl) ⟨_, ⟨rfl, rfl⟩, by ((try simp only [List.cons_append, List.nil_append]); repeat (first | exact ent_refl | refine ent_take (by repeat (first | exact Find.here | apply Find.there)) ?_ | refine ent_drop ?_))⟩
  | some i =>
    obtain ⟨hk0, hu, hkk, hgg, hsl, hi⟩ := Tb.spot_some hs
    have hget : t.slots[i]? = some t.slots[i] := List.getElem?_eq_getElem hi
    have hgi : t.slots[i] = (t.slots[i].1, true, t.genAt i) := by
      have e1 : t.slots[i].2.1 = true := by unfold Tb.usedAt at hu; rw [hget] at hu; exact hu
      have e2 : t.slots[i].2.2 = t.genAt i := by unfold Tb.genAt; rw [hget]
      rw [← e1, ← e2]
    have hpe : t.put h v = ⟨t.kind, t.slots.set i (v, true, t.genAt i), t.free⟩ := by unfold Tb.put; rw [hs]
    refine XO_slopen (E' := eSlt eTR) (a := a1) (c := c1) (xs := t.slots) (by (repeat (first | exact Find.here | apply Find.there))) (by omega) ?_
    rintro qb o rfl
    rw [show slotA (some ⟨qb, o, none⟩) (eSlt eTR).sz (some i) = some ⟨qb, o + i * (eSlt eTR).sz, none⟩ from rfl]
    repeat (first | refine Zq ?_ | refine Zs ?_ | refine ZT ?_ | refine ZF ?_ | refine Zc ?_ | refine XO_gU (hk := ?_))
    (refine X_cond rfl (fun h => by cases h) (fun _ => ?_))
    repeat (first | refine Zq ?_ | refine Zs ?_ | refine ZT ?_ | refine ZF ?_ | refine Zc ?_ | refine XO_gU (hk := ?_))
    refine XO_dv0 (dv_putEl (E' := eSlt eTR) (i := i) (s := (eSlt eTR).sz) (f := 0) (xs := t.slots) (vs := eTR.cells v) (v, true, t.genAt i) (by (repeat (first | exact Find.here | apply Find.there))) rfl rfl rfl (eTR.one v) rfl rfl hi (by rw [eTR.len]; decide) (by rw [hgi]; rfl)) (hk := ?_)
    rintro _ _ rfl
    repeat (first | refine Zq ?_ | refine Zs ?_ | refine ZT ?_ | refine ZF ?_ | refine Zc ?_ | refine XO_gU (hk := ?_))
    rw [hpe]
    refine XE_fold (by repeat (first | exact FindAll.nil | exact Find.here | apply Find.there | apply FindAll.cons)) (Tbl.fold (eV := eTR) (T := 224) (b := b) (t := ⟨t.kind, t.slots.set i (v, true, t.genAt i), t.free⟩) (a1 := some ⟨qb, o, none⟩) (n1 := t.slots.length) (c1 := c1) (a2 := a2) (n2 := t.free.length) (c2 := c2) (by show _ = (t.slots.set _ _).length; rw [List.length_set]) rfl) ?_
    refine XE_ret (.inl rfl) (tells_tmps rfl rfl) ⟨_, ⟨rfl, rfl⟩, by ((try simp only [List.cons_append, List.nil_append]); repeat (first | exact ent_refl | refine ent_take (by repeat (first | exact Find.here | apply Find.there)) ?_ | refine ent_drop ?_))⟩
/-- All handles. -/
theorem thandlesR (b : Nat) (t : Tb (Option Nat)) {N : Nat} (hT : TbOk N t) : Spec Tryz.prog 103 [.pointer (some ⟨b, 0, none⟩)] [TblR b t]
    (fun u L => ∃ a c, u = .slice a t.handles.length c ∧ L = [TblR b t, Sl (eI .u64) a c t.handles]) := by
  have hlen := hT.len
  have hN := hT.hN
  have hhl : ∀ k, (t.handlesTo k).length ≤ k := by
    intro k
    induction k with
    | zero => exact Nat.le_refl _
    | succ k ih => unfold Tb.handlesTo; split <;> simp <;> omega
  refine Spec.intro (IsEnt.out) Tryz.func103 rfl Tryz.ntmps103 (by simp) (fun w0 F => ?_)
  simp only [envOf, List.zipIdx, List.map, List.cons_append, List.nil_append, Nat.zero_add, Nat.reduceAdd]
  refine X_open (A := TblR b t) (by (repeat (first | exact Find.here | apply Find.there))) Tbl.open ?_
  rintro ⟨⟨a1, c1⟩, a2, c2⟩ -
  dsimp only [List.cons_append, List.nil_append]
  repeat (first | refine Zq ?_ | refine Zs ?_ | refine ZT ?_ | refine ZF ?_ | refine Zc ?_ | refine XO_gU (hk := ?_))
  (refine X_cond rfl (fun h => by cases h) (fun _ => ?_))
  repeat (first | refine Zq ?_ | refine Zs ?_ | refine ZT ?_ | refine ZF ?_ | refine Zc ?_ | refine XO_gU (hk := ?_))
  refine X_conv (fun _ h => SL_nilSl (eI .u64) h) ?_
  refine X_loop (ι := Nat × Option Addr × Nat) (fun y => y.1 ≤ t.slots.length) (fun y => [(0, .pointer (some ⟨b, 0, none⟩)), (3, .slice y.2.1 (t.handlesTo y.1).length y.2.2), (11, .slice a1 t.slots.length c1), (12, .int .i64 (t.slots.length : Int)), (13, .int .i64 (y.1 : Int))])
    (fun y => Sl (eI .u64) y.2.1 y.2.2 (t.handlesTo y.1) :: pt b (.cells (tbRow t.kind a1 t.slots.length c1 a2 t.free.length c2).toArray 224 (0, 0)) :: Sl (eSlt eTR) a1 c1 t.slots :: Sl (eI .i64) a2 c2 t.free :: F) (fun y => t.slots.length - y.1) (0, none, 0) (Nat.zero_le _) ?_ (by ((try simp only [List.cons_append, List.nil_append]); repeat (first | exact ent_refl | refine ent_take (by repeat (first | exact Find.here | apply Find.there)) ?_ | refine ent_drop ?_))) ?_
  · (repeat (first | exact Env.sub_nil _ | refine Env.sub_cons rfl ?_))
  rintro ⟨k, a, c⟩ hk
  dsimp only at hk ⊢
  have hhk := hhl k
  repeat (first | refine Zq ?_ | refine Zs ?_ | refine ZT ?_ | refine ZF ?_ | refine Zc ?_ | refine XO_gU (hk := ?_))
  refine X_cond rfl (fun hc => ?_) (fun hc => ?_) <;> simp only [decide_eq_true_eq, decide_eq_false_iff_not] at hc
  · have hkl : k < t.slots.length := by omega
    have hget : t.slots[k]? = some t.slots[k] := List.getElem?_eq_getElem hkl
    have huk : t.slots[k].2.1 = t.usedAt k := by unfold Tb.usedAt; rw [hget]
    refine X_slopen (E' := eSlt eTR) (a := a1) (c := c1) (xs := t.slots) (by (repeat (first | exact Find.here | apply Find.there))) (by omega) ?_
    rintro qb o rfl
    repeat (first | refine Zq ?_ | refine Zs ?_ | refine ZT ?_ | refine ZF ?_ | refine Zc ?_ | refine XO_gU (hk := ?_))
    refine XO_dv (dv_alloc (row := (eSlt eTR).cells (none, false, 0))) (hk := ?_)
    rintro _ _ ⟨sb, rfl, rfl⟩
    repeat (first | refine Zq ?_ | refine Zs ?_ | refine ZT ?_ | refine ZF ?_ | refine Zc ?_ | refine XO_gU (hk := ?_))
    refine XO_dv0 (dv_storeW (vs := (eSlt eTR).cells t.slots[k])) (hk := ?_)
    rintro _ _ rfl
    clear hget
    repeat (first | refine Zq ?_ | refine Zs ?_ | refine ZT ?_ | refine ZF ?_ | refine Zc ?_ | refine XO_gU (hk := ?_))
    refine X_cond rfl (fun hu => ?_) (fun hu => ?_)
    · have hu2 : t.usedAt k = true := by rw [← huk]; exact hu
      have hte : t.handlesTo (k + 1) = t.handlesTo k ++ [t.hAt k] := by conv => lhs; unfold Tb.handlesTo; rw [if_pos hu2]
      repeat (first | refine Zq ?_ | refine Zs ?_ | refine ZT ?_ | refine ZF ?_ | refine Zc ?_ | refine XO_gU (hk := ?_))
      refine XO_call (thandleR b t hT k hkl (some ⟨qb, o, none⟩) c1 a2 t.free.length c2) (hk := ?_)
      rintro _ _ ⟨rfl, rfl⟩
      repeat (first | refine Zq ?_ | refine Zs ?_ | refine ZT ?_ | refine ZF ?_ | refine Zc ?_ | refine XO_gU (hk := ?_))
      refine XO_lit (E' := eI .u64) [t.hAt k] (hk := ?_)
      intro lb
      repeat (first | refine Zq ?_ | refine Zs ?_ | refine ZT ?_ | refine ZF ?_ | refine Zc ?_ | refine XO_gU (hk := ?_))
      refine XO_dv (dv_append (E' := eI .u64) (xs := t.handlesTo k) (ys := [t.hAt k]) (hv := Sl.view) (hb := by simp; omega)) (hk := ?_)
      rintro _ _ ⟨a', c', rfl, rfl⟩
      repeat (first | refine Zq ?_ | refine Zs ?_ | refine ZT ?_ | refine ZF ?_ | refine Zc ?_ | refine XO_gU (hk := ?_))
      rw [← hte]
      exact X_round (k + 1, a', c') (by show k + 1 ≤ _; omega) (by show t.slots.length - (k + 1) < t.slots.length - k; omega) (by (repeat (first | exact Env.sub_nil _ | refine Env.sub_cons rfl ?_))) (by ((try simp only [List.cons_append, List.nil_append]); repeat (first | exact ent_refl | refine ent_take (by repeat (first | exact Find.here | apply Find.there)) ?_ | refine ent_drop ?_)))
    · have hu2 : t.usedAt k = false := by rw [← huk]; exact hu
      have hte : t.handlesTo (k + 1) = t.handlesTo k := by conv => lhs; unfold Tb.handlesTo; rw [if_neg (by rw [hu2]; simp), List.append_nil]
      repeat (first | refine Zq ?_ | refine Zs ?_ | refine ZT ?_ | refine ZF ?_ | refine Zc ?_ | refine XO_gU (hk := ?_))
      rw [← hte]
      exact X_round (k + 1, a, c) (by show k + 1 ≤ _; omega) (by show t.slots.length - (k + 1) < t.slots.length - k; omega) (by (repeat (first | exact Env.sub_nil _ | refine Env.sub_cons rfl ?_))) (by ((try simp only [List.cons_append, List.nil_append]); repeat (first | exact ent_refl | refine ent_take (by repeat (first | exact Find.here | apply Find.there)) ?_ | refine ent_drop ?_)))
  obtain rfl : k = t.slots.length := by omega
  repeat (first | refine Zq ?_ | refine Zs ?_ | refine ZT ?_ | refine ZF ?_ | refine Zc ?_ | refine XO_gU (hk := ?_))
  refine XE_fold (by repeat (first | exact FindAll.nil | exact Find.here | apply Find.there | apply FindAll.cons)) (Tbl.fold (eV := eTR) (t := t) (a1 := a1) (n1 := t.slots.length) (c1 := c1) (a2 := a2) (n2 := t.free.length) (c2 := c2) rfl rfl) ?_
  refine XE_ret (.inl rfl) (tells_tmps rfl rfl) ⟨_, ⟨a, c, rfl, rfl⟩, by ((try simp only [List.cons_append, List.nil_append]); repeat (first | exact ent_refl | refine ent_take (by repeat (first | exact Find.here | apply Find.there)) ?_ | refine ent_drop ?_))⟩
end Go.Proofs.YtamecmklcnohjaaGreat.Sep
namespace Go.Proofs.YtamecmklcnohjaaGreat.Sep
open Go.RowKit
set_option linter.unusedSimpArgs false
set_option linter.unusedVariables false
/-! tables of arena.object: contracts (printed by gentb.py) -/
def eTO : E (Int × Int × Int) := ⟨3, true, fun v => [.int .u64 v.1, .int .u64 v.2.1, .int .u64 v.2.2], fun _ => rfl, fun _ _ h => by simp at h; rcases h with rfl | rfl | rfl <;> rfl, by decide, fun h => by cases h⟩
abbrev tvalO (v : Int × Int × Int) : Value := (.agg #[.int .u64 v.1, .int .u64 v.2.1, .int .u64 v.2.2])
abbrev TblO (b : Nat) (t : Tb (Int × Int × Int)) : HP := Tbl eTO 227 b t
set_option maxHeartbeats 8000000
attribute [local irreducible] X XE XO XD XDi XDa PV RV DV pt base Spec Sl Mp Keeps
attribute [local irreducible] Tbl
instance teq_tmO : TEq Tryz.prog 282 [.i64, .i64] := ⟨_, Tryz.underlying282, by kernel_rfl, by kernel_rfl, ⟨by decide, rfl, Tryz.underlying3, by decide, rfl, Tryz.underlying3, trivial⟩⟩
theorem tnewO (k : Int) : Spec Tryz.prog 86 [.int .i64 k] [] (fun v L => ∃ b, v = .pointer (some ⟨b, 0, none⟩) ∧ L = [TblO b ⟨k, [], []⟩]) := by
  refine Spec.intro (IsEnt.out) Tryz.func86 rfl Tryz.ntmps86 (by simp) (fun w0 F => ?_)
  simp only [envOf, List.zipIdx, List.map, List.cons_append, List.nil_append, Nat.zero_add, Nat.reduceAdd]
  repeat (first | refine Zq ?_ | refine Zs ?_ | refine ZT ?_ | refine ZF ?_ | refine Zc ?_ | refine XO_gU (hk := ?_))
  refine XO_pv (pv_buildG [.int .i64 k, .slice none 0 0, .slice none 0 0]) (hk := ?_)
  repeat (first | refine Zq ?_ | refine Zs ?_ | refine ZT ?_ | refine ZF ?_ | refine Zc ?_ | refine XO_gU (hk := ?_))
  refine XO_dv dv_box (hk := ?_)
  rintro _ _ ⟨b, rfl, rfl⟩
  repeat (first | refine Zq ?_ | refine Zs ?_ | refine ZT ?_ | refine ZF ?_ | refine Zc ?_ | refine XO_gU (hk := ?_))
  refine XE_conv (fun _ h => SL_nilSl (eSlt eTO) h) ?_
  refine XE_conv (fun _ h => SL_nilSl (eI .i64) h) ?_
  refine XE_ret (.inl rfl) (tells_tmps rfl rfl) ⟨_, ⟨b, rfl, rfl⟩, ?_⟩
  simp only [List.cons_append, List.nil_append]
  refine ent_fold (by repeat (first | exact FindAll.nil | exact Find.here | apply Find.there | apply FindAll.cons)) (Tbl.fold (eV := eTO) (t := ⟨k, [], []⟩) (a1 := none) (n1 := 0) (c1 := 0) (a2 := none) (n2 := 0) (c2 := 0) rfl rfl) ?_
  ((try simp only [List.cons_append, List.nil_append]); repeat (first | exact ent_refl | refine ent_take (by repeat (first | exact Find.here | apply Find.there)) ?_ | refine ent_drop ?_))
/-- A slot's handle. -/
theorem thandleO (b : Nat) (t : Tb (Int × Int × Int)) {N : Nat} (hT : TbOk N t) (i : Nat) (hi : i < t.slots.length) (a1 : Option Addr) (c1 : Nat) (a2 : Option Addr) (n2 c2 : Nat) : Spec Tryz.prog 141 [.pointer (some ⟨b, 0, none⟩), .int .i64 i] [pt b (.cells (tbRow t.kind a1 t.slots.length c1 a2 n2 c2).toArray 227 (0, 0)), Sl (eSlt eTO) a1 c1 t.slots]
    (fun v L => v = .int .u64 (t.hAt i) ∧ L = [pt b (.cells (tbRow t.kind a1 t.slots.length c1 a2 n2 c2).toArray 227 (0, 0)), Sl (eSlt eTO) a1 c1 t.slots]) := by
  have hlen := hT.len
  have hN := hT.hN
  have hgn := hT.gen i
  have hkd := hT.kd
  refine Spec.intro (IsEnt.out) Tryz.func141 rfl Tryz.ntmps141 (by simp) (fun w0 F => ?_)
  simp only [envOf, List.zipIdx, List.map, List.cons_append, List.nil_append, Nat.zero_add, Nat.reduceAdd]
  have hget : t.slots[i]? = some t.slots[i] := List.getElem?_eq_getElem hi
  have hgg : t.genAt i = t.slots[i].2.2 := by unfold Tb.genAt; rw [hget]
  unfold Tb.hAt
  rw [hgg] at hgn ⊢
  generalize t.slots[i] = q at hget hgg hgn ⊢
  refine X_slopen (E' := eSlt eTO) (a := a1) (c := c1) (xs := t.slots) (by (repeat (first | exact Find.here | apply Find.there))) (by omega) ?_
  rintro qb o rfl
  repeat (first | refine Zq ?_ | refine Zs ?_ | refine ZT ?_ | refine ZF ?_ | refine Zc ?_ | refine XO_gU (hk := ?_))
  repeat (first | refine XD_pick (h := ?_) | refine Dq ?_ | refine Ds ?_ | refine XDi_gF (h := ?_) | refine XDi_gU (h := ?_) | refine X_draws (h := ?_))
  refine XD_one (h := ?_)
  refine XDa_dvA (dv_call (pack_spec t.kind i q.2.2 ⟨by omega, by omega⟩ ⟨by omega, by omega⟩ ⟨by omega, by omega⟩)) (hk := ?_)
  (rintro _ _ ⟨_, ⟨rfl, rfl⟩, rfl⟩; refine ⟨by (repeat (first | exact keeps_nil | exact keeps_fnil | refine keeps_skip (h := ?_) | refine keeps_takeQ (h := ?_))), ?_⟩)
  repeat (first | refine XD_pick (h := ?_) | refine Dq ?_ | refine Ds ?_ | refine XDi_gF (h := ?_) | refine XDi_gU (h := ?_) | refine X_draws (h := ?_))
  (refine XD_one (h := ?_); refine XDa_dvA (dv_of_rv (rv_of_pv pv_assign)) (hk := ?_); rintro _ _ ⟨rfl, rfl⟩; refine ⟨by (repeat (first | exact keeps_nil | exact keeps_fnil | refine keeps_skip (h := ?_) | refine keeps_takeQ (h := ?_))), ?_⟩)
  (refine XD_end (h := ?_); repeat (first | refine Zq ?_ | refine Zs ?_ | refine ZT ?_ | refine ZF ?_ | refine Zc ?_ | refine XO_gU (hk := ?_)))
  refine XE_ret (.inl rfl) (tells_tmps rfl rfl) ⟨_, ⟨rfl, rfl⟩, by ((try simp only [List.cons_append, List.nil_append]); repeat (first | exact ent_refl | refine ent_take (by repeat (first | exact Find.here | apply Find.there)) ?_ | refine ent_drop ?_))⟩
/-- Where a live handle's slot lies. -/
theorem tliveO (b : Nat) (t : Tb (Int × Int × Int)) {N : Nat} (hT : TbOk N t) (h : Int) (h0 : 0 ≤ h) (h1 : h ≤ 18446744073709551615) (a1 : Option Addr) (c1 : Nat) (a2 : Option Addr) (n2 c2 : Nat) : Spec Tryz.prog 173 [.pointer (some ⟨b, 0, none⟩), .int .u64 h] [pt b (.cells (tbRow t.kind a1 t.slots.length c1 a2 n2 c2).toArray 227 (0, 0)), Sl (eSlt eTO) a1 c1 t.slots]
    (fun v L => v = .pointer (slotA a1 (eSlt eTO).sz (t.spot h)) ∧ L = [pt b (.cells (tbRow t.kind a1 t.slots.length c1 a2 n2 c2).toArray 227 (0, 0)), Sl (eSlt eTO) a1 c1 t.slots]) := by
  have hlen := hT.len
  have hN := hT.hN
  have hs0 : 0 ≤ hSlot h := Int.emod_nonneg _ (by decide)
  have hs1 : hSlot h < 4294967296 := Int.emod_lt_of_pos _ (by decide)
  refine Spec.intro (IsEnt.out) Tryz.func173 rfl Tryz.ntmps173 (by simp) (fun w0 F => ?_)
  simp only [envOf, List.zipIdx, List.map, List.cons_append, List.nil_append, Nat.zero_add, Nat.reduceAdd]
  repeat (first | refine Zq ?_ | refine Zs ?_ | refine ZT ?_ | refine ZF ?_ | refine Zc ?_ | refine XO_gU (hk := ?_))
  refine XO_call (unpack_spec h h0 h1) (hk := ?_)
  rintro _ _ ⟨rfl, rfl⟩
  unfold unpV
  by_cases hk : hKind h = 0
  · rw [if_pos hk, show t.spot h = none from if_neg (fun hh => hh.1 hk), show slotA a1 (eSlt eTO).sz none = none from by cases a1 <;> rfl]
    repeat (first | refine Zq ?_ | refine Zs ?_ | refine ZT ?_ | refine ZF ?_ | refine Zc ?_ | refine XO_gU (hk := ?_))
    repeat (first | refine XD_pick (h := ?_) | refine Dq ?_ | refine Ds ?_ | refine XDi_gF (h := ?_) | refine XDi_gU (h := ?_) | refine X_draws (h := ?_))
    (refine XD_end (h := ?_); repeat (first | refine Zq ?_ | refine Zs ?_ | refine ZT ?_ | refine ZF ?_ | refine Zc ?_ | refine XO_gU (hk := ?_)))
    (refine X_cond rfl (fun _ => ?_) (fun h => by cases h))
    repeat (first | refine Zq ?_ | refine Zs ?_ | refine ZT ?_ | refine ZF ?_ | refine Zc ?_ | refine XO_gU (hk := ?_))
    refine XE_ret (.inl rfl) (tells_tmps rfl rfl) ⟨_, ⟨rfl, rfl⟩, by ((try simp only [List.cons_append, List.nil_append]); repeat (first | exact ent_refl | refine ent_take (by repeat (first | exact Find.here | apply Find.there)) ?_ | refine ent_drop ?_))⟩
  rw [if_neg hk]
  repeat (first | refine Zq ?_ | refine Zs ?_ | refine ZT ?_ | refine ZF ?_ | refine Zc ?_ | refine XO_gU (hk := ?_))
  repeat (first | refine XD_pick (h := ?_) | refine Dq ?_ | refine Ds ?_ | refine XDi_gF (h := ?_) | refine XDi_gU (h := ?_) | refine X_draws (h := ?_))
  by_cases hi : (hSlot h).toNat < t.slots.length
  case neg =>
    rw [show decide ((t.slots.length : Int) ≤ hSlot h) = true from decide_eq_true (by omega), show t.spot h = none from if_neg (fun hh => hi (Tb.usedAt_lt hh.2.1)), show slotA a1 (eSlt eTO).sz none = none from by cases a1 <;> rfl]
    repeat (first | refine XD_pick (h := ?_) | refine Dq ?_ | refine Ds ?_ | refine XDi_gF (h := ?_) | refine XDi_gU (h := ?_) | refine X_draws (h := ?_))
    (refine XD_end (h := ?_); repeat (first | refine Zq ?_ | refine Zs ?_ | refine ZT ?_ | refine ZF ?_ | refine Zc ?_ | refine XO_gU (hk := ?_)))
    (refine X_cond rfl (fun _ => ?_) (fun h => by cases h))
    repeat (first | refine Zq ?_ | refine Zs ?_ | refine ZT ?_ | refine ZF ?_ | refine Zc ?_ | refine XO_gU (hk := ?_))
    refine XE_ret (.inl rfl) (tells_tmps rfl rfl) ⟨_, ⟨rfl, rfl⟩, by ((try simp only [List.cons_append, List.nil_append]); repeat (first | exact ent_refl | refine ent_take (by repeat (first | exact Find.here | apply Find.there)) ?_ | refine ent_drop ?_))⟩
  rw [show decide ((t.slots.length : Int) ≤ hSlot h) = false from decide_eq_false (by omega)]
  have hget : t.slots[(hSlot h).toNat]? = some t.slots[(hSlot h).toNat] := List.getElem?_eq_getElem hi
  have hsp : t.spot h = if t.slots[(hSlot h).toNat].2.1 = true ∧ hKind h = t.kind ∧ hGen h = t.slots[(hSlot h).toNat].2.2 then some (hSlot h).toNat else none := by
    unfold Tb.spot Tb.usedAt Tb.genAt
    rw [hget]
    simp only [ne_eq, hk, not_false_eq_true, true_and]
  rw [hsp]
  generalize t.slots[(hSlot h).toNat] = q at hget ⊢
  refine XDi_view (E' := eSlt eTO) (a := a1) (xs := t.slots) (hV := Sl.view) (hp := by omega) (h := ?_)
  rintro qb o rfl
  repeat (first | refine XD_pick (h := ?_) | refine Dq ?_ | refine Ds ?_ | refine XDi_gF (h := ?_) | refine XDi_gU (h := ?_) | refine X_draws (h := ?_))
  obtain ⟨v, u, g⟩ := q
  dsimp only at hget ⊢
  cases u with
  | false =>
    rw [if_neg (fun hh => by cases hh.1), show slotA (some ⟨qb, o, none⟩) (eSlt eTO).sz none = none from rfl]
    repeat (first | refine XD_pick (h := ?_) | refine Dq ?_ | refine Ds ?_ | refine XDi_gF (h := ?_) | refine XDi_gU (h := ?_) | refine X_draws (h := ?_))
    (refine XD_end (h := ?_); repeat (first | refine Zq ?_ | refine Zs ?_ | refine ZT ?_ | refine ZF ?_ | refine Zc ?_ | refine XO_gU (hk := ?_)))
    (refine X_cond rfl (fun _ => ?_) (fun h => by cases h))
    repeat (first | refine Zq ?_ | refine Zs ?_ | refine ZT ?_ | refine ZF ?_ | refine Zc ?_ | refine XO_gU (hk := ?_))
    refine XE_ret (.inl rfl) (tells_tmps rfl rfl) ⟨_, ⟨rfl, rfl⟩, by ((try simp only [List.cons_append, List.nil_append]); repeat (first | exact ent_refl | refine ent_take (by repeat (first | exact Find.here | apply Find.there)) ?_ | refine ent_drop ?_))⟩
  | true =>
    repeat (first | refine XD_pick (h := ?_) | refine Dq ?_ | refine Ds ?_ | refine XDi_gF (h := ?_) | refine XDi_gU (h := ?_) | refine X_draws (h := ?_))
    refine Dp (pv_neRec [hKind h, hGen h] [t.kind, g]) ?_
    repeat (first | refine XD_pick (h := ?_) | refine Dq ?_ | refine Ds ?_ | refine XDi_gF (h := ?_) | refine XDi_gU (h := ?_) | refine X_draws (h := ?_))
    (refine XD_end (h := ?_); repeat (first | refine Zq ?_ | refine Zs ?_ | refine ZT ?_ | refine ZF ?_ | refine Zc ?_ | refine XO_gU (hk := ?_)))
    by_cases he : hKind h = t.kind ∧ hGen h = g
    · rw [if_pos ⟨rfl, he⟩]
      refine X_cond rfl (fun hh => by simp [he.1, he.2] at hh) (fun _ => ?_)
      repeat (first | refine Zq ?_ | refine Zs ?_ | refine ZT ?_ | refine ZF ?_ | refine Zc ?_ | refine XO_gU (hk := ?_))
      refine XE_ret (.inl rfl) (tells_tmps rfl rfl) ⟨_, ⟨rfl, rfl⟩, by ((try simp only [List.cons_append, List.nil_append]); repeat (first | exact ent_refl | refine ent_take (by repeat (first | exact Find.here | apply Find.there)) ?_ | refine ent_drop ?_))⟩
    · rw [if_neg (fun hh => he hh.2), show slotA (some ⟨qb, o, none⟩) (eSlt eTO).sz none = none from rfl]
      refine X_cond rfl (fun _ => ?_) (fun hh => by simp at hh; exact absurd hh he)
      repeat (first | refine Zq ?_ | refine Zs ?_ | refine ZT ?_ | refine ZF ?_ | refine Zc ?_ | refine XO_gU (hk := ?_))
      refine XE_ret (.inl rfl) (tells_tmps rfl rfl) ⟨_, ⟨rfl, rfl⟩, by ((try simp only [List.cons_append, List.nil_append]); repeat (first | exact ent_refl | refine ent_take (by repeat (first | exact Find.here | apply Find.there)) ?_ | refine ent_drop ?_))⟩
/-- The thing of a handle. -/
theorem tgetO (b : Nat) (t : Tb (Int × Int × Int)) {N : Nat} (hT : TbOk N t) (h : Int) (h0 : 0 ≤ h) (h1 : h ≤ 18446744073709551615) : Spec Tryz.prog 151 [.pointer (some ⟨b, 0, none⟩), .int .u64 h] [TblO b t]
    (fun v L => v = .tuple #[tvalO ((t.get h).getD (0, 0, 0)), .bool (t.get h).isSome] ∧ L = [TblO b t]) := by
  refine Spec.intro (IsEnt.out) Tryz.func151 rfl Tryz.ntmps151 (by simp) (fun w0 F => ?_)
  simp only [envOf, List.zipIdx, List.map, List.cons_append, List.nil_append, Nat.zero_add, Nat.reduceAdd]
  refine X_open (A := TblO b t) (by (repeat (first | exact Find.here | apply Find.there))) Tbl.open ?_
  rintro ⟨⟨a1, c1⟩, a2, c2⟩ -
  dsimp only [List.cons_append, List.nil_append]
  repeat (first | refine Zq ?_ | refine Zs ?_ | refine ZT ?_ | refine ZF ?_ | refine Zc ?_ | refine XO_gU (hk := ?_))
  refine XO_dv dv_alloc (hk := ?_)
  rintro _ _ ⟨rb, rfl, rfl⟩
  repeat (first | refine Zq ?_ | refine Zs ?_ | refine ZT ?_ | refine ZF ?_ | refine Zc ?_ | refine XO_gU (hk := ?_))
  refine XO_call (tliveO b t hT h h0 h1 a1 c1 a2 t.free.length c2) (hk := ?_)
  rintro _ _ ⟨rfl, rfl⟩
  cases hs : t.spot h with
  | none =>
    rw [show slotA a1 (eSlt eTO).sz none = none from by cases a1 <;> rfl, show t.get h = none from by unfold Tb.get; rw [hs]; rfl]
    repeat (first | refine Zq ?_ | refine Zs ?_ | refine ZT ?_ | refine ZF ?_ | refine Zc ?_ | refine XO_gU (hk := ?_))
    (refine X_cond rfl (fun _ => ?_) (fun h => by cases h))
    repeat (first | refine Zq ?_ | refine Zs ?_ | refine ZT ?_ | refine ZF ?_ | refine Zc ?_ | refine XO_gU (hk := ?_))
    refine XO_dv dv_alloc (hk := ?_)
    rintro _ _ ⟨nb, rfl, rfl⟩
    repeat (first | refine Zq ?_ | refine Zs ?_ | refine ZT ?_ | refine ZF ?_ | refine Zc ?_ | refine XO_gU (hk := ?_))
    refine XO_dv0 dv_storeW (hk := ?_)
    rintro _ _ rfl
    repeat (first | refine Zq ?_ | refine Zs ?_ | refine ZT ?_ | refine ZF ?_ | refine Zc ?_ | refine XO_gU (hk := ?_))
    refine XE_fold (by repeat (first | exact FindAll.nil | exact Find.here | apply Find.there | apply FindAll.cons)) (Tbl.fold (eV := eTO) (t := t) (a1 := a1) (n1 := t.slots.length) (c1 := c1) (a2 := a2) (n2 := t.free.length) (c2 := c2) rfl rfl) ?_
    refine XE_ret (.inl rfl) (tells_many (vs := [tvalO (0, 0, 0), .bool false]) rfl ⟨told_cell, told_tmp, trivial⟩) ⟨_, ⟨rfl, rfl⟩, by ((try simp only [List.cons_append, List.nil_append]); repeat (first | exact ent_refl | refine ent_take (by repeat (first | exact Find.here | apply Find.there)) ?_ | refine ent_drop ?_))⟩
  | some i =>
    obtain ⟨_, hu, _, _, _, hi⟩ := Tb.spot_some hs
    have hget : t.slots[i]? = some t.slots[i] := List.getElem?_eq_getElem hi
    have hg2 : t.get h = some t.slots[i].1 := by unfold Tb.get; rw [hs]; show Option.map _ _ = _; rw [hget]; rfl
    rw [hg2]
    refine XO_slopen (E' := eSlt eTO) (a := a1) (c := c1) (xs := t.slots) (by (repeat (first | exact Find.here | apply Find.there))) (by omega) ?_
    rintro qb o rfl
    rw [show slotA (some ⟨qb, o, none⟩) (eSlt eTO).sz (some i) = some ⟨qb, o + i * (eSlt eTO).sz, none⟩ from rfl]
    repeat (first | refine Zq ?_ | refine Zs ?_ | refine ZT ?_ | refine ZF ?_ | refine Zc ?_ | refine XO_gU (hk := ?_))
    (refine X_cond rfl (fun h => by cases h) (fun _ => ?_))
    repeat (first | refine Zq ?_ | refine Zs ?_ | refine ZT ?_ | refine ZF ?_ | refine Zc ?_ | refine XO_gU (hk := ?_))
    refine XO_rv (rv_elS (E' := eSlt eTO) (xs := t.slots) i 0 (vs := eTO.cells t.slots[i].1)) (hk := ?_)
    repeat (first | refine Zq ?_ | refine Zs ?_ | refine ZT ?_ | refine ZF ?_ | refine Zc ?_ | refine XO_gU (hk := ?_))
    refine XO_dv0 dv_storeW (hk := ?_)
    rintro _ _ rfl
    repeat (first | refine Zq ?_ | refine Zs ?_ | refine ZT ?_ | refine ZF ?_ | refine Zc ?_ | refine XO_gU (hk := ?_))
    trace_state
    refine XE_fold (by repeat (first | exact FindAll.nil | exact Find.here | apply Find.there | apply FindAll.cons)) (Tbl.fold (eV := eTO) (t := t) (a1 := some ⟨qb, o, none⟩) (n1 := t.slots.length) (c1 := c1) (a2 := a2) (n2 := t.free.length) (c2 := c2) rfl rfl) ?_
    refine XE_ret (.inl rfl) (tells_many (vs := [tvalO t.slots[i].1, .bool true]) rfl ⟨told_cell, told_tmp, trivial⟩) ⟨_, ⟨rfl, rfl⟩, by ((try simp only [List.cons_append, List.nil_append]); repeat (first | exact ent_refl | refine ent_take (by repeat (first | exact Find.here | apply Find.there)) ?_ | refine ent_drop ?_))⟩
/-- One thing more. -/
theorem taddO (b : Nat) (t : Tb (Int × Int × Int)) {N : Nat} (hT : TbOk N t) (hN : N + 1 ≤ 1000000) (v : Int × Int × Int) : Spec Tryz.prog 95 [.pointer (some ⟨b, 0, none⟩), tvalO v] [TblO b t]
    (fun u L => u = .int .u64 t.addH ∧ L = [TblO b (t.add v)]) := by
  have hlen := hT.len
  have hkd := hT.kd
  have hnx := hT.nx_le
  refine Spec.intro (IsEnt.out) Tryz.func95 rfl Tryz.ntmps95 (by simp) (fun w0 F => ?_)
  simp only [envOf, List.zipIdx, List.map, List.cons_append, List.nil_append, Nat.zero_add, Nat.reduceAdd]
  refine X_open (A := TblO b t) (by (repeat (first | exact Find.here | apply Find.there))) Tbl.open ?_
  rintro ⟨⟨a1, c1⟩, a2, c2⟩ -
  dsimp only [List.cons_append, List.nil_append]
  repeat (first | refine Zq ?_ | refine Zs ?_ | refine ZT ?_ | refine ZF ?_ | refine Zc ?_ | refine XO_gU (hk := ?_))
  refine XO_dv (dv_box (row := eTO.cells v)) (hk := ?_)
  rintro _ _ ⟨vb, rfl, rfl⟩
  repeat (first | refine Zq ?_ | refine Zs ?_ | refine ZT ?_ | refine ZF ?_ | refine Zc ?_ | refine XO_gU (hk := ?_))
  refine XO_call (pack_spec t.kind 0 0 ⟨by omega, by omega⟩ ⟨by omega, by omega⟩ ⟨by omega, by omega⟩) (hk := ?_)
  rintro _ _ ⟨rfl, rfl⟩
  have hpk : (packI t.kind 0 0 == 0) = false := by rw [beq_eq_false_iff_ne]; exact pack_ne ⟨hkd.1, hkd.2, by decide, by decide⟩
  repeat (first | refine Zq ?_ | refine Zs ?_ | refine ZT ?_ | refine ZF ?_ | refine Zc ?_ | refine XO_gU (hk := ?_))
  refine X_cond rfl (fun hh => by rw [hpk] at hh; cases hh) (fun _ => ?_)
  refine X_skip ?_
  refine XE_code ?_
  refine X_seq ?_
  refine X_region ?_
  (repeat (first | refine Zq ?_ | refine Zs ?_ | refine ZT ?_ | refine ZF ?_ | refine XO_gU (hk := ?_)))
  have hfl2 := hT.fl
  have hrl := Tb.room_lt hT ((0, 0, 0) : Int × Int × Int)
  have hrg := Tb.room_gen hT ((0, 0, 0) : Int × Int × Int) hrl
  have hae := Tb.add_eq hT ((0, 0, 0) : Int × Int × Int) v
  have hTa := hT.add hN v
  have hag : (t.add v).hAt t.nx = t.addH := by unfold Tb.addH Tb.hAt; rw [Tb.add_gen hT v, show (t.add v).kind = t.kind from by rw [hae]]
  refine XO_nil ?_
  refine XE_code ?_
  refine X_seq ?_
  refine X_join (ι := (Option Addr × Nat) × (Option Addr × Nat)) (fun _ => True) (fun _ => [(0, .pointer (some ⟨b, 0, none⟩)),
 (3, .pointer (some ⟨vb, 0, none⟩)),
    (5, .int .i64 (t.nx : Int))]) (fun y => [
  pt vb (.cells (eTO.cells v).toArray 156 (0, 0)),
    pt b (.cells (tbRow t.kind y.1.1 (t.room ((0, 0, 0) : Int × Int × Int)).slots.length y.1.2 y.2.1 (t.room ((0, 0, 0) : Int × Int × Int)).free.length y.2.2).toArray 227 (0, 0)), Sl (eSlt eTO) y.1.1 y.1.2 (t.room ((0, 0, 0) : Int × Int × Int)).slots, Sl (eI .i64) y.2.1 y.2.2 (t.room ((0, 0, 0) : Int × Int × Int)).free] ++ F) ?_ ?_
  · repeat (first | refine Zq ?_ | refine Zs ?_ | refine ZT ?_ | refine ZF ?_ | refine Zc ?_ | refine XO_gU (hk := ?_))
    cases hl : t.free.getLast? with
    | none =>
      have hf0 : t.free = [] := List.getLast?_eq_none_iff.1 hl
      have hf1 : t.free.length = 0 := by rw [hf0]; rfl
      have hrm : t.room ((0, 0, 0) : Int × Int × Int) = ⟨t.kind, t.slots ++ [((0, 0, 0), false, 0)], t.free⟩ := by unfold Tb.room; rw [hl]
      have hn0 : t.nx = t.slots.length := by unfold Tb.nx; rw [hl]
      refine X_cond rfl (fun hh => by simp at hh; omega) (fun _ => ?_)
      repeat (first | refine Zq ?_ | refine Zs ?_ | refine ZT ?_ | refine ZF ?_ | refine Zc ?_ | refine XO_gU (hk := ?_))
      refine XO_lit (E' := eSlt eTO) [(((0, 0, 0) : Int × Int × Int), false, (0 : Int))] (hk := ?_)
      intro lb
      repeat (first | refine Zq ?_ | refine Zs ?_ | refine ZT ?_ | refine ZF ?_ | refine Zc ?_ | refine XO_gU (hk := ?_))
      refine XO_dv (dv_append (E' := eSlt eTO) (xs := t.slots) (ys := [(((0, 0, 0) : Int × Int × Int), false, (0 : Int))]) (hv := Sl.view) (hb := by simp; omega)) (hk := ?_)
      rintro _ _ ⟨a', c', rfl, rfl⟩
      repeat (first | refine Zq ?_ | refine Zs ?_ | refine ZT ?_ | refine ZF ?_ | refine Zc ?_ | refine XO_gU (hk := ?_))
      refine XO_dv0 dv_store (hk := ?_)
      rintro _ _ rfl
      repeat (first | refine Zq ?_ | refine Zs ?_ | refine ZT ?_ | refine ZF ?_ | refine Zc ?_ | refine XO_gU (hk := ?_))
      rw [hrm, hn0]
      exact X_meet ((a', c'), (a2, c2)) trivial (by (repeat (first | exact Env.sub_nil _ | refine Env.sub_cons rfl ?_))) (by ((try simp only [List.cons_append, List.nil_append]); repeat (first | exact ent_nil | exact ent_refl | refine ent_take (by repeat (first | exact Find.here | apply Find.there)) ?_ | refine ent_drop ?_)))
    | some i =>
      have hne : t.free ≠ [] := fun e => by rw [e] at hl; cases hl
      have hfl : 0 < t.free.length := List.length_pos_iff.2 hne
      have hi := hT.free i (List.mem_of_getLast? hl)
      have hrm : t.room ((0, 0, 0) : Int × Int × Int) = ⟨t.kind, t.slots, t.free.dropLast⟩ := by unfold Tb.room; rw [hl]
      have hn0 : t.nx = i.toNat := by unfold Tb.nx; rw [hl]
      have hgl : t.free[((t.free.length : Int) - 1).toNat]? = some i := by
        rw [show ((t.free.length : Int) - 1).toNat = t.free.length - 1 from by omega]
        rw [List.getLast?_eq_getElem?] at hl; exact hl
      refine X_cond rfl (fun _ => ?_) (fun hh => by rw [decide_eq_true (by omega)] at hh; cases hh)
      refine X_slopen (E' := eI .i64) (a := a2) (c := c2) (xs := t.free) (by (repeat (first | exact Find.here | apply Find.there))) hfl ?_
      rintro fb fo rfl
      refine X_fact (A := Sl (eI .i64) (some ⟨fb, fo, none⟩) c2 t.free) (by (repeat (first | exact Find.here | apply Find.there))) Sl.cap (fun hcap => ?_)
      repeat (first | refine Zq ?_ | refine Zs ?_ | refine ZT ?_ | refine ZF ?_ | refine Zc ?_ | refine XO_gU (hk := ?_))
      refine XO_dv0 dv_store (hk := ?_)
      rintro _ _ rfl
      repeat (first | refine Zq ?_ | refine Zs ?_ | refine ZT ?_ | refine ZF ?_ | refine Zc ?_ | refine XO_gU (hk := ?_))
      rw [show ((t.free.length : Int) - 1).toNat = t.free.dropLast.length from by rw [List.length_dropLast]; omega]
      refine XE_conv (fun _ => SL_take (E' := eI .i64) (a := some ⟨fb, fo, none⟩) (c := c2) (xs := t.free) (t.free.length - 1) (by (repeat (first | exact Find.here | apply Find.there)))) ?_
      rw [← List.dropLast_eq_take, hrm, hn0, show (i.toNat : Int) = i from by omega]
      exact X_meet ((a1, c1), (some ⟨fb, fo, none⟩, c2)) trivial (by (repeat (first | exact Env.sub_nil _ | refine Env.sub_cons rfl ?_))) (by ((try simp only [List.cons_append, List.nil_append]); repeat (first | exact ent_nil | exact ent_refl | refine ent_take (by repeat (first | exact Find.here | apply Find.there)) ?_ | refine ent_drop ?_)))
  rintro ⟨⟨a1, c1⟩, a2, c2⟩ -
  dsimp only
  generalize hxs : (t.room ((0, 0, 0) : Int × Int × Int)).slots = xs at hrl hrg hae ⊢
  have hgx : xs[t.nx]? = some xs[t.nx] := List.getElem?_eq_getElem hrl
  refine X_slopen (E' := eSlt eTO) (a := a1) (c := c1) (xs := xs) (by (repeat (first | exact Find.here | apply Find.there))) (by omega) ?_
  rintro qb o rfl
  repeat (first | refine Zq ?_ | refine Zs ?_ | refine ZT ?_ | refine ZF ?_ | refine Zc ?_ | refine XO_gU (hk := ?_))
  repeat (first | refine XD_pick (h := ?_) | refine Dq ?_ | refine Ds ?_ | refine XDi_gF (h := ?_) | refine XDi_gU (h := ?_) | refine X_draws (h := ?_))
  refine XD_one (h := ?_)
  refine XDa_dvk0 (dv_putEl (E' := eSlt eTO) (i := t.nx) (s := (eSlt eTO).sz) (f := 0) (xs := xs) (vs := eTO.cells v) (v, xs[t.nx].2.1, xs[t.nx].2.2) (by (repeat (first | exact Find.here | apply Find.there))) rfl rfl rfl (eTO.one v) rfl rfl hrl (by rw [eTO.len]; decide) rfl) (K := _) (hk := ?_)
  rintro _ _ rfl
  refine ⟨by (repeat (first | exact keeps_nil | exact keeps_fnil | refine keeps_skip (h := ?_) | refine keeps_takeQ (h := ?_))), ?_⟩
  have hrl2 : t.nx < (xs.set t.nx (v, xs[t.nx].2.1, xs[t.nx].2.2)).length := by rw [List.length_set]; exact hrl
  repeat (first | refine XD_pick (h := ?_) | refine Dq ?_ | refine Ds ?_ | refine XDi_gF (h := ?_) | refine XDi_gU (h := ?_) | refine X_draws (h := ?_))
  refine XD_one (h := ?_)
  refine XDa_dvk0 (dv_putEl (E' := eSlt eTO) (i := t.nx) (s := (eSlt eTO).sz) (f := eTO.sz) (xs := xs.set t.nx (v, xs[t.nx].2.1, xs[t.nx].2.2)) (vs := [.bool true]) (v, true, xs[t.nx].2.2) (by (repeat (first | exact Find.here | apply Find.there))) rfl rfl rfl (fun u hu => by simp at hu; subst hu; rfl) rfl rfl hrl2 (by decide) (by rw [List.getElem_set_self]; rfl)) (K := _) (hk := ?_)
  rintro _ _ rfl
  refine ⟨by (repeat (first | exact keeps_nil | exact keeps_fnil | refine keeps_skip (h := ?_) | refine keeps_takeQ (h := ?_))), ?_⟩
  (refine XD_end (h := ?_); repeat (first | refine Zq ?_ | refine Zs ?_ | refine ZT ?_ | refine ZF ?_ | refine Zc ?_ | refine XO_gU (hk := ?_)))
  rw [List.set_set, hrg]
  have hc := thandleO b (t.add v) hTa t.nx (by rw [hae]; show t.nx < (xs.set _ _).length; rw [List.length_set]; exact hrl) (some ⟨qb, o, none⟩) c1 a2 (t.room ((0, 0, 0) : Int × Int × Int)).free.length c2
  rw [hag, hae] at hc
  dsimp only at hc
  rw [List.length_set] at hc
  repeat (first | refine Zq ?_ | refine Zs ?_ | refine ZT ?_ | refine ZF ?_ | refine Zc ?_ | refine XO_gU (hk := ?_))
  refine XO_call hc (hk := ?_)
  rintro _ _ ⟨rfl, rfl⟩
  repeat (first | refine Zq ?_ | refine Zs ?_ | refine ZT ?_ | refine ZF ?_ | refine Zc ?_ | refine XO_gU (hk := ?_))
  rw [hae]
  refine XE_fold (by repeat (first | exact FindAll.nil | exact Find.here | apply Find.there | apply FindAll.cons)) (Tbl.fold (eV := eTO) (T := 227) (b := b) (t := ⟨t.kind, xs.set t.nx (v, true, t.genAt t.nx), (t.room ((0, 0, 0) : Int × Int × Int)).free⟩) (a1 := some ⟨qb, o, none⟩) (n1 := xs.length) (c1 := c1) (a2 := a2) (n2 := (t.room ((0, 0, 0) : Int × Int × Int)).free.length) (c2 := c2) (by show _ = (xs.set _ _).length; rw [List.length_set]) rfl) ?_
  refine XE_ret (.inl rfl) (tells_tmps rfl rfl) ⟨_, ⟨rfl, rfl⟩, by ((try simp only [List.cons_append, List.nil_append]); repeat (first | exact ent_refl | refine ent_take (by repeat (first | exact Find.here | apply Find.there)) ?_ | refine ent_drop ?_))⟩
/-- A thing is taken away. -/
theorem tdropO (b : Nat) (t : Tb (Int × Int × Int)) {N : Nat} (hT : TbOk N t) (h : Int) (h0 : 0 ≤ h) (h1 : h ≤ 18446744073709551615) : Spec Tryz.prog 144 [.pointer (some ⟨b, 0, none⟩), .int .u64 h] [TblO b t]
    (fun u L => u = .bool (t.spot h).isSome ∧ L = [TblO b (t.drop (0, 0, 0) h)]) := by
  have hlen := hT.len
  have hkd := hT.kd
  have hfl2 := hT.fl
  have hN := hT.hN
  refine Spec.intro (IsEnt.out) Tryz.func144 rfl Tryz.ntmps144 (by simp) (fun w0 F => ?_)
  simp only [envOf, List.zipIdx, List.map, List.cons_append, List.nil_append, Nat.zero_add, Nat.reduceAdd]
  refine X_open (A := TblO b t) (by (repeat (first | exact Find.here | apply Find.there))) Tbl.open ?_
  rintro ⟨⟨a1, c1⟩, a2, c2⟩ -
  dsimp only [List.cons_append, List.nil_append]
  repeat (first | refine Zq ?_ | refine Zs ?_ | refine ZT ?_ | refine ZF ?_ | refine Zc ?_ | refine XO_gU (hk := ?_))
  refine XO_call (tliveO b t hT h h0 h1 a1 c1 a2 t.free.length c2) (hk := ?_)
  rintro _ _ ⟨rfl, rfl⟩
  cases hs : t.spot h with
  | none =>
    rw [show slotA a1 (eSlt eTO).sz none = none from by cases a1 <;> rfl, show t.drop (0, 0, 0) h = t from by unfold Tb.drop; rw [hs]]
    repeat (first | refine Zq ?_ | refine Zs ?_ | refine ZT ?_ | refine ZF ?_ | refine Zc ?_ | refine XO_gU (hk := ?_))
    (refine X_cond rfl (fun _ => ?_) (fun h => by cases h))
    repeat (first | refine Zq ?_ | refine Zs ?_ | refine ZT ?_ | refine ZF ?_ | refine Zc ?_ | refine XO_gU (hk := ?_))
    refine XE_fold (by repeat (first | exact FindAll.nil | exact Find.here | apply Find.there | apply FindAll.cons)) (Tbl.fold (eV := eTO) (t := t) (a1 := a1) (n1 := t.slots.length) (c1 := c1) (a2 := a2) (n2 := t.free.length) (c2 := c2) rfl rfl) ?_
    refine XE_ret (.inl rfl) (tells_tmps rfl rfl) ⟨_, ⟨rfl, rfl⟩, by ((try simp only [List.cons_append, List.nil_append]); repeat (first | exact ent_refl | refine ent_take (by repeat (first | exact Find.here | apply Find.there)) ?_ | refine ent_drop ?_))⟩
  | some i =>
    obtain ⟨hk0, hu, hkk, hgg, hsl, hi⟩ := Tb.spot_some hs
    have hgn := hT.gen i
    have hgi : t.slots[i].2.2 = t.genAt i := by unfold Tb.genAt; rw [List.getElem?_eq_getElem hi]
    have hget : t.slots[i]? = some t.slots[i] := List.getElem?_eq_getElem hi
    have hde : t.drop (0, 0, 0) h = ⟨t.kind, t.slots.set i ((0, 0, 0), false, nextI (t.genAt i)), t.free ++ [(i : Int)]⟩ := by unfold Tb.drop; rw [hs]
    refine XO_slopen (E' := eSlt eTO) (a := a1) (c := c1) (xs := t.slots) (by (repeat (first | exact Find.here | apply Find.there))) (by omega) ?_
    rintro qb o rfl
    rw [show slotA (some ⟨qb, o, none⟩) (eSlt eTO).sz (some i) = some ⟨qb, o + i * (eSlt eTO).sz, none⟩ from rfl]
    repeat (first | refine Zq ?_ | refine Zs ?_ | refine ZT ?_ | refine ZF ?_ | refine Zc ?_ | refine XO_gU (hk := ?_))
    (refine X_cond rfl (fun h => by cases h) (fun _ => ?_))
    repeat (first | refine Zq ?_ | refine Zs ?_ | refine ZT ?_ | refine ZF ?_ | refine Zc ?_ | refine XO_gU (hk := ?_))
    refine XO_call (unpack_spec h h0 h1) (hk := ?_)
    rintro _ _ ⟨rfl, rfl⟩
    unfold unpV
    rw [if_neg hk0, show hSlot h = (i : Int) from by have h2 : 0 ≤ hSlot h := Int.emod_nonneg _ (by decide); omega]
    repeat (first | refine Zq ?_ | refine Zs ?_ | refine ZT ?_ | refine ZF ?_ | refine Zc ?_ | refine XO_gU (hk := ?_))
    rw [hgi]
    refine XO_call (next_spec (t.genAt i) (by omega) (by omega)) (hk := ?_)
    rintro _ _ ⟨rfl, rfl⟩
    refine XO_pv (pv_buildG (eTO.cells (0, 0, 0) ++ [.bool false, .int .i64 (nextI (t.genAt i))])) (hk := ?_)
    repeat (first | refine Zq ?_ | refine Zs ?_ | refine ZT ?_ | refine ZF ?_ | refine Zc ?_ | refine XO_gU (hk := ?_))
    refine XO_dv0 (dv_putElW (E' := eSlt eTO) (i := i) (xs := t.slots) (s := (eSlt eTO).sz) ((0, 0, 0), false, nextI (t.genAt i))) (hk := ?_)
    rintro _ _ rfl
    repeat (first | refine Zq ?_ | refine Zs ?_ | refine ZT ?_ | refine ZF ?_ | refine Zc ?_ | refine XO_gU (hk := ?_))
    refine XO_lit (E' := eI .i64) [(i : Int)] (hk := ?_)
    intro lb
    repeat (first | refine Zq ?_ | refine Zs ?_ | refine ZT ?_ | refine ZF ?_ | refine Zc ?_ | refine XO_gU (hk := ?_))
    refine XO_dv (dv_append (E' := eI .i64) (xs := t.free) (ys := [(i : Int)]) (hv := Sl.view) (hb := by simp; omega)) (hk := ?_)
    rintro _ _ ⟨a', c', rfl, rfl⟩
    repeat (first | refine Zq ?_ | refine Zs ?_ | refine ZT ?_ | refine ZF ?_ | refine Zc ?_ | refine XO_gU (hk := ?_))
    refine XO_dv0 dv_store (hk := ?_)
    rintro _ _ rfl
    repeat (first | refine Zq ?_ | refine Zs ?_ | refine ZT ?_ | refine ZF ?_ | refine Zc ?_ | refine XO_gU (hk := ?_))
    rw [hde]
    refine XE_fold (by repeat (first | exact FindAll.nil | exact Find.here | apply Find.there | apply FindAll.cons)) (Tbl.fold (eV := eTO) (T := 227) (b := b) (t := ⟨t.kind, t.slots.set i ((0, 0, 0), false, nextI (t.genAt i)), t.free ++ [(i : Int)]⟩) (a1 := some ⟨qb, o, none⟩) (n1 := t.slots.length) (c1 := c1) (a2 := a') (n2 := (t.free ++ [(i : Int)]).length) (c2 := c') (by show _ = (t.slots.set _ _).length; rw [List.length_set]) rfl) ?_
    refine XE_ret (.inl rfl) (tells_tmps rfl rfl) ⟨_, ⟨rfl, rfl⟩, by ((try simp only [List.cons_append, List.nil_append]); repeat (first | exact ent_refl | refine ent_take (by repeat (first | exact Find.here | apply Find.there)) ?_ | refine ent_drop ?_))⟩
end Go.Proofs.YtamecmklcnohjaaGreat.Sep
namespace Go.Proofs.YtamecmklcnohjaaGreat.Sep
open Go.RowKit
set_option linter.unusedSimpArgs false
set_option linter.unusedVariables false
/-! tables of arena.mark: contracts (printed by gentb.py) -/
structure MkT where
  mc : Int
  ml : Int
  at_ : Int
  ob : Int
  pd : Int
  of_ : Int
  tr : Int
abbrev mkRow (v : MkT) : List Value := [.int .i64 v.mc, .int .i64 v.ml, .int .u64 v.at_, .int .u64 v.ob, .int .u64 v.pd, .int .u64 v.of_, .int .i64 v.tr]
def eTM : E MkT := ⟨7, true, fun v => mkRow v, fun _ => rfl, fun _ _ h => by simp at h; rcases h with rfl | rfl | rfl | rfl | rfl | rfl | rfl <;> rfl, by decide, fun h => by cases h⟩
abbrev tvalM (v : MkT) : Value := (.agg (mkRow v).toArray)
abbrev TblM (b : Nat) (t : Tb (MkT)) : HP := Tbl eTM 230 b t
set_option maxHeartbeats 8000000
attribute [local irreducible] X XE XO XD XDi XDa PV RV DV pt base Spec Sl Mp Keeps
attribute [local irreducible] Tbl
instance teq_tmM : TEq Tryz.prog 282 [.i64, .i64] := ⟨_, Tryz.underlying282, by kernel_rfl, by kernel_rfl, ⟨by decide, rfl, Tryz.underlying3, by decide, rfl, Tryz.underlying3, trivial⟩⟩
theorem tnewM (k : Int) : Spec Tryz.prog 87 [.int .i64 k] [] (fun v L => ∃ b, v = .pointer (some ⟨b, 0, none⟩) ∧ L = [TblM b ⟨k, [], []⟩]) := by
  refine Spec.intro (IsEnt.out) Tryz.func87 rfl Tryz.ntmps87 (by simp) (fun w0 F => ?_)
  simp only [envOf, List.zipIdx, List.map, List.cons_append, List.nil_append, Nat.zero_add, Nat.reduceAdd]
  repeat (first | refine Zq ?_ | refine Zs ?_ | refine ZT ?_ | refine ZF ?_ | refine Zc ?_ | refine XO_gU (hk := ?_))
  refine XO_pv (pv_buildG [.int .i64 k, .slice none 0 0, .slice none 0 0]) (hk := ?_)
  repeat (first | refine Zq ?_ | refine Zs ?_ | refine ZT ?_ | refine ZF ?_ | refine Zc ?_ | refine XO_gU (hk := ?_))
  refine XO_dv dv_box (hk := ?_)
  rintro _ _ ⟨b, rfl, rfl⟩
  repeat (first | refine Zq ?_ | refine Zs ?_ | refine ZT ?_ | refine ZF ?_ | refine Zc ?_ | refine XO_gU (hk := ?_))
  refine XE_conv (fun _ h => SL_nilSl (eSlt eTM) h) ?_
  refine XE_conv (fun _ h => SL_nilSl (eI .i64) h) ?_
  refine XE_ret (.inl rfl) (tells_tmps rfl rfl) ⟨_, ⟨b, rfl, rfl⟩, ?_⟩
  simp only [List.cons_append, List.nil_append]
  refine ent_fold (by repeat (first | exact FindAll.nil | exact Find.here | apply Find.there | apply FindAll.cons)) (Tbl.fold (eV := eTM) (t := ⟨k, [], []⟩) (a1 := none) (n1 := 0) (c1 := 0) (a2 := none) (n2 := 0) (c2 := 0) rfl rfl) ?_
  ((try simp only [List.cons_append, List.nil_append]); repeat (first | exact ent_refl | refine ent_take (by repeat (first | exact Find.here | apply Find.there)) ?_ | refine ent_drop ?_))
/-- A slot's handle. -/
theorem thandleM (b : Nat) (t : Tb (MkT)) {N : Nat} (hT : TbOk N t) (i : Nat) (hi : i < t.slots.length) (a1 : Option Addr) (c1 : Nat) (a2 : Option Addr) (n2 c2 : Nat) : Spec Tryz.prog 152 [.pointer (some ⟨b, 0, none⟩), .int .i64 i] [pt b (.cells (tbRow t.kind a1 t.slots.length c1 a2 n2 c2).toArray 230 (0, 0)), Sl (eSlt eTM) a1 c1 t.slots]
    (fun v L => v = .int .u64 (t.hAt i) ∧ L = [pt b (.cells (tbRow t.kind a1 t.slots.length c1 a2 n2 c2).toArray 230 (0, 0)), Sl (eSlt eTM) a1 c1 t.slots]) := by
  have hlen := hT.len
  have hN := hT.hN
  have hgn := hT.gen i
  have hkd := hT.kd
  refine Spec.intro (IsEnt.out) Tryz.func152 rfl Tryz.ntmps152 (by simp) (fun w0 F => ?_)
  simp only [envOf, List.zipIdx, List.map, List.cons_append, List.nil_append, Nat.zero_add, Nat.reduceAdd]
  have hget : t.slots[i]? = some t.slots[i] := List.getElem?_eq_getElem hi
  have hgg : t.genAt i = t.slots[i].2.2 := by unfold Tb.genAt; rw [hget]
  unfold Tb.hAt
  rw [hgg] at hgn ⊢
  generalize t.slots[i] = q at hget hgg hgn ⊢
  refine X_slopen (E' := eSlt eTM) (a := a1) (c := c1) (xs := t.slots) (by (repeat (first | exact Find.here | apply Find.there))) (by omega) ?_
  rintro qb o rfl
  repeat (first | refine Zq ?_ | refine Zs ?_ | refine ZT ?_ | refine ZF ?_ | refine Zc ?_ | refine XO_gU (hk := ?_))
  repeat (first | refine XD_pick (h := ?_) | refine Dq ?_ | refine Ds ?_ | refine XDi_gF (h := ?_) | refine XDi_gU (h := ?_) | refine X_draws (h := ?_))
  refine XD_one (h := ?_)
  refine XDa_dvA (dv_call (pack_spec t.kind i q.2.2 ⟨by omega, by omega⟩ ⟨by omega, by omega⟩ ⟨by omega, by omega⟩)) (hk := ?_)
  (rintro _ _ ⟨_, ⟨rfl, rfl⟩, rfl⟩; refine ⟨by (repeat (first | exact keeps_nil | exact keeps_fnil | refine keeps_skip (h := ?_) | refine keeps_takeQ (h := ?_))), ?_⟩)
  repeat (first | refine XD_pick (h := ?_) | refine Dq ?_ | refine Ds ?_ | refine XDi_gF (h := ?_) | refine XDi_gU (h := ?_) | refine X_draws (h := ?_))
  (refine XD_one (h := ?_); refine XDa_dvA (dv_of_rv (rv_of_pv pv_assign)) (hk := ?_); rintro _ _ ⟨rfl, rfl⟩; refine ⟨by (repeat (first | exact keeps_nil | exact keeps_fnil | refine keeps_skip (h := ?_) | refine keeps_takeQ (h := ?_))), ?_⟩)
  (refine XD_end (h := ?_); repeat (first | refine Zq ?_ | refine Zs ?_ | refine ZT ?_ | refine ZF ?_ | refine Zc ?_ | refine XO_gU (hk := ?_)))
  refine XE_ret (.inl rfl) (tells_tmps rfl rfl) ⟨_, ⟨rfl, rfl⟩, by ((try simp only [List.cons_append, List.nil_append]); repeat (first | exact ent_refl | refine ent_take (by repeat (first | exact Find.here | apply Find.there)) ?_ | refine ent_drop ?_))⟩
/-- Where a live handle's slot lies. -/
theorem tliveM (b : Nat) (t : Tb (MkT)) {N : Nat} (hT : TbOk N t) (h : Int) (h0 : 0 ≤ h) (h1 : h ≤ 18446744073709551615) (a1 : Option Addr) (c1 : Nat) (a2 : Option Addr) (n2 c2 : Nat) : Spec Tryz.prog 153 [.pointer (some ⟨b, 0, none⟩), .int .u64 h] [pt b (.cells (tbRow t.kind a1 t.slots.length c1 a2 n2 c2).toArray 230 (0, 0)), Sl (eSlt eTM) a1 c1 t.slots]
    (fun v L => v = .pointer (slotA a1 (eSlt eTM).sz (t.spot h)) ∧ L = [pt b (.cells (tbRow t.kind a1 t.slots.length c1 a2 n2 c2).toArray 230 (0, 0)), Sl (eSlt eTM) a1 c1 t.slots]) := by
  have hlen := hT.len
  have hN := hT.hN
  have hs0 : 0 ≤ hSlot h := Int.emod_nonneg _ (by decide)
  have hs1 : hSlot h < 4294967296 := Int.emod_lt_of_pos _ (by decide)
  refine Spec.intro (IsEnt.out) Tryz.func153 rfl Tryz.ntmps153 (by simp) (fun w0 F => ?_)
  simp only [envOf, List.zipIdx, List.map, List.cons_append, List.nil_append, Nat.zero_add, Nat.reduceAdd]
  repeat (first | refine Zq ?_ | refine Zs ?_ | refine ZT ?_ | refine ZF ?_ | refine Zc ?_ | refine XO_gU (hk := ?_))
  refine XO_call (unpack_spec h h0 h1) (hk := ?_)
  rintro _ _ ⟨rfl, rfl⟩
  unfold unpV
  by_cases hk : hKind h = 0
  · rw [if_pos hk, show t.spot h = none from if_neg (fun hh => hh.1 hk), show slotA a1 (eSlt eTM).sz none = none from by cases a1 <;> rfl]
    repeat (first | refine Zq ?_ | refine Zs ?_ | refine ZT ?_ | refine ZF ?_ | refine Zc ?_ | refine XO_gU (hk := ?_))
    repeat (first | refine XD_pick (h := ?_) | refine Dq ?_ | refine Ds ?_ | refine XDi_gF (h := ?_) | refine XDi_gU (h := ?_) | refine X_draws (h := ?_))
    (refine XD_end (h := ?_); repeat (first | refine Zq ?_ | refine Zs ?_ | refine ZT ?_ | refine ZF ?_ | refine Zc ?_ | refine XO_gU (hk := ?_)))
    (refine X_cond rfl (fun _ => ?_) (fun h => by cases h))
    repeat (first | refine Zq ?_ | refine Zs ?_ | refine ZT ?_ | refine ZF ?_ | refine Zc ?_ | refine XO_gU (hk := ?_))
    refine XE_ret (.inl rfl) (tells_tmps rfl rfl) ⟨_, ⟨rfl, rfl⟩, by ((try simp only [List.cons_append, List.nil_append]); repeat (first | exact ent_refl | refine ent_take (by repeat (first | exact Find.here | apply Find.there)) ?_ | refine ent_drop ?_))⟩
  rw [if_neg hk]
  repeat (first | refine Zq ?_ | refine Zs ?_ | refine ZT ?_ | refine ZF ?_ | refine Zc ?_ | refine XO_gU (hk := ?_))
  repeat (first | refine XD_pick (h := ?_) | refine Dq ?_ | refine Ds ?_ | refine XDi_gF (h := ?_) | refine XDi_gU (h := ?_) | refine X_draws (h := ?_))
  by_cases hi : (hSlot h).toNat < t.slots.length
  case neg =>
    rw [show decide ((t.slots.length : Int) ≤ hSlot h) = true from decide_eq_true (by omega), show t.spot h = none from if_neg (fun hh => hi (Tb.usedAt_lt hh.2.1)), show slotA a1 (eSlt eTM).sz none = none from by cases a1 <;> rfl]
    repeat (first | refine XD_pick (h := ?_) | refine Dq ?_ | refine Ds ?_ | refine XDi_gF (h := ?_) | refine XDi_gU (h := ?_) | refine X_draws (h := ?_))
    (refine XD_end (h := ?_); repeat (first | refine Zq ?_ | refine Zs ?_ | refine ZT ?_ | refine ZF ?_ | refine Zc ?_ | refine XO_gU (hk := ?_)))
    (refine X_cond rfl (fun _ => ?_) (fun h => by cases h))
    repeat (first | refine Zq ?_ | refine Zs ?_ | refine ZT ?_ | refine ZF ?_ | refine Zc ?_ | refine XO_gU (hk := ?_))
    refine XE_ret (.inl rfl) (tells_tmps rfl rfl) ⟨_, ⟨rfl, rfl⟩, by ((try simp only [List.cons_append, List.nil_append]); repeat (first | exact ent_refl | refine ent_take (by repeat (first | exact Find.here | apply Find.there)) ?_ | refine ent_drop ?_))⟩
  rw [show decide ((t.slots.length : Int) ≤ hSlot h) = false from decide_eq_false (by omega)]
  have hget : t.slots[(hSlot h).toNat]? = some t.slots[(hSlot h).toNat] := List.getElem?_eq_getElem hi
  have hsp : t.spot h = if t.slots[(hSlot h).toNat].2.1 = true ∧ hKind h = t.kind ∧ hGen h = t.slots[(hSlot h).toNat].2.2 then some (hSlot h).toNat else none := by
    unfold Tb.spot Tb.usedAt Tb.genAt
    rw [hget]
    simp only [ne_eq, hk, not_false_eq_true, true_and]
  rw [hsp]
  generalize t.slots[(hSlot h).toNat] = q at hget ⊢
  refine XDi_view (E' := eSlt eTM) (a := a1) (xs := t.slots) (hV := Sl.view) (hp := by omega) (h := ?_)
  rintro qb o rfl
  repeat (first | refine XD_pick (h := ?_) | refine Dq ?_ | refine Ds ?_ | refine XDi_gF (h := ?_) | refine XDi_gU (h := ?_) | refine X_draws (h := ?_))
  obtain ⟨v, u, g⟩ := q
  dsimp only at hget ⊢
  cases u with
  | false =>
    rw [if_neg (fun hh => by cases hh.1), show slotA (some ⟨qb, o, none⟩) (eSlt eTM).sz none = none from rfl]
    repeat (first | refine XD_pick (h := ?_) | refine Dq ?_ | refine Ds ?_ | refine XDi_gF (h := ?_) | refine XDi_gU (h := ?_) | refine X_draws (h := ?_))
    (refine XD_end (h := ?_); repeat (first | refine Zq ?_ | refine Zs ?_ | refine ZT ?_ | refine ZF ?_ | refine Zc ?_ | refine XO_gU (hk := ?_)))
    (refine X_cond rfl (fun _ => ?_) (fun h => by cases h))
    repeat (first | refine Zq ?_ | refine Zs ?_ | refine ZT ?_ | refine ZF ?_ | refine Zc ?_ | refine XO_gU (hk := ?_))
    refine XE_ret (.inl rfl) (tells_tmps rfl rfl) ⟨_, ⟨rfl, rfl⟩, by ((try simp only [List.cons_append, List.nil_append]); repeat (first | exact ent_refl | refine ent_take (by repeat (first | exact Find.here | apply Find.there)) ?_ | refine ent_drop ?_))⟩
  | true =>
    repeat (first | refine XD_pick (h := ?_) | refine Dq ?_ | refine Ds ?_ | refine XDi_gF (h := ?_) | refine XDi_gU (h := ?_) | refine X_draws (h := ?_))
    refine Dp (pv_neRec [hKind h, hGen h] [t.kind, g]) ?_
    repeat (first | refine XD_pick (h := ?_) | refine Dq ?_ | refine Ds ?_ | refine XDi_gF (h := ?_) | refine XDi_gU (h := ?_) | refine X_draws (h := ?_))
    (refine XD_end (h := ?_); repeat (first | refine Zq ?_ | refine Zs ?_ | refine ZT ?_ | refine ZF ?_ | refine Zc ?_ | refine XO_gU (hk := ?_)))
    by_cases he : hKind h = t.kind ∧ hGen h = g
    · rw [if_pos ⟨rfl, he⟩]
      refine X_cond rfl (fun hh => by simp [he.1, he.2] at hh) (fun _ => ?_)
      repeat (first | refine Zq ?_ | refine Zs ?_ | refine ZT ?_ | refine ZF ?_ | refine Zc ?_ | refine XO_gU (hk := ?_))
      refine XE_ret (.inl rfl) (tells_tmps rfl rfl) ⟨_, ⟨rfl, rfl⟩, by ((try simp only [List.cons_append, List.nil_append]); repeat (first | exact ent_refl | refine ent_take (by repeat (first | exact Find.here | apply Find.there)) ?_ | refine ent_drop ?_))⟩
    · rw [if_neg (fun hh => he hh.2), show slotA (some ⟨qb, o, none⟩) (eSlt eTM).sz none = none from rfl]
      refine X_cond rfl (fun _ => ?_) (fun hh => by simp at hh; exact absurd hh he)
      repeat (first | refine Zq ?_ | refine Zs ?_ | refine ZT ?_ | refine ZF ?_ | refine Zc ?_ | refine XO_gU (hk := ?_))
      refine XE_ret (.inl rfl) (tells_tmps rfl rfl) ⟨_, ⟨rfl, rfl⟩, by ((try simp only [List.cons_append, List.nil_append]); repeat (first | exact ent_refl | refine ent_take (by repeat (first | exact Find.here | apply Find.there)) ?_ | refine ent_drop ?_))⟩
/-- The thing of a handle. -/
theorem tgetM (b : Nat) (t : Tb (MkT)) {N : Nat} (hT : TbOk N t) (h : Int) (h0 : 0 ≤ h) (h1 : h ≤ 18446744073709551615) : Spec Tryz.prog 106 [.pointer (some ⟨b, 0, none⟩), .int .u64 h] [TblM b t]
    (fun v L => v = .tuple #[tvalM ((t.get h).getD ⟨0, 0, 0, 0, 0, 0, 0⟩), .bool (t.get h).isSome] ∧ L = [TblM b t]) := by
  refine Spec.intro (IsEnt.out) Tryz.func106 rfl Tryz.ntmps106 (by simp) (fun w0 F => ?_)
  simp only [envOf, List.zipIdx, List.map, List.cons_append, List.nil_append, Nat.zero_add, Nat.reduceAdd]
  refine X_open (A := TblM b t) (by (repeat (first | exact Find.here | apply Find.there))) Tbl.open ?_
  rintro ⟨⟨a1, c1⟩, a2, c2⟩ -
  dsimp only [List.cons_append, List.nil_append]
  repeat (first | refine Zq ?_ | refine Zs ?_ | refine ZT ?_ | refine ZF ?_ | refine Zc ?_ | refine XO_gU (hk := ?_))
  refine XO_dv dv_alloc (hk := ?_)
  rintro _ _ ⟨rb, rfl, rfl⟩
  repeat (first | refine Zq ?_ | refine Zs ?_ | refine ZT ?_ | refine ZF ?_ | refine Zc ?_ | refine XO_gU (hk := ?_))
  refine XO_call (tliveM b t hT h h0 h1 a1 c1 a2 t.free.length c2) (hk := ?_)
  rintro _ _ ⟨rfl, rfl⟩
  cases hs : t.spot h with
  | none =>
    rw [show slotA a1 (eSlt eTM).sz none = none from by cases a1 <;> rfl, show t.get h = none from by unfold Tb.get; rw [hs]; rfl]
    repeat (first | refine Zq ?_ | refine Zs ?_ | refine ZT ?_ | refine ZF ?_ | refine Zc ?_ | refine XO_gU (hk := ?_))
    (refine X_cond rfl (fun _ => ?_) (fun h => by cases h))
    repeat (first | refine Zq ?_ | refine Zs ?_ | refine ZT ?_ | refine ZF ?_ | refine Zc ?_ | refine XO_gU (hk := ?_))
    refine XO_dv dv_alloc (hk := ?_)
    rintro _ _ ⟨nb, rfl, rfl⟩
    repeat (first | refine Zq ?_ | refine Zs ?_ | refine ZT ?_ | refine ZF ?_ | refine Zc ?_ | refine XO_gU (hk := ?_))
    refine XO_dv0 dv_storeW (hk := ?_)
    rintro _ _ rfl
    repeat (first | refine Zq ?_ | refine Zs ?_ | refine ZT ?_ | refine ZF ?_ | refine Zc ?_ | refine XO_gU (hk := ?_))
    refine XE_fold (by repeat (first | exact FindAll.nil | exact Find.here | apply Find.there | apply FindAll.cons)) (Tbl.fold (eV := eTM) (t := t) (a1 := a1) (n1 := t.slots.length) (c1 := c1) (a2 := a2) (n2 := t.free.length) (c2 := c2) rfl rfl) ?_
    refine XE_ret (.inl rfl) (tells_many (vs := [tvalM ⟨0, 0, 0, 0, 0, 0, 0⟩, .bool false]) rfl ⟨told_cell, told_tmp, trivial⟩) ⟨_, ⟨rfl, rfl⟩, by ((try simp only [List.cons_append, List.nil_append]); repeat (first | exact ent_refl | refine ent_take (by repeat (first | exact Find.here | apply Find.there)) ?_ | refine ent_drop ?_))⟩
  | some i =>
    obtain ⟨_, hu, _, _, _, hi⟩ := Tb.spot_some hs
    have hget : t.slots[i]? = some t.slots[i] := List.getElem?_eq_getElem hi
    have hg2 : t.get h = some t.slots[i].1 := by unfold Tb.get; rw [hs]; show Option.map _ _ = _; rw [hget]; rfl
    rw [hg2]
    refine XO_slopen (E' := eSlt eTM) (a := a1) (c := c1) (xs := t.slots) (by (repeat (first | exact Find.here | apply Find.there))) (by omega) ?_
    rintro qb o rfl
    rw [show slotA (some ⟨qb, o, none⟩) (eSlt eTM).sz (some i) = some ⟨qb, o + i * (eSlt eTM).sz, none⟩ from rfl]
    repeat (first | refine Zq ?_ | refine Zs ?_ | refine ZT ?_ | refine ZF ?_ | refine Zc ?_ | refine XO_gU (hk := ?_))
    (refine X_cond rfl (fun h => by cases h) (fun _ => ?_))
    repeat (first | refine Zq ?_ | refine Zs ?_ | refine ZT ?_ | refine ZF ?_ | refine Zc ?_ | refine XO_gU (hk := ?_))
    refine XO_rv (rv_elS (E' := eSlt eTM) (xs := t.slots) i 0 (vs := eTM.cells t.slots[i].1)) (hk := ?_)
    repeat (first | refine Zq ?_ | refine Zs ?_ | refine ZT ?_ | refine ZF ?_ | refine Zc ?_ | refine XO_gU (hk := ?_))
    refine XO_dv0 dv_storeW (hk := ?_)
    rintro _ _ rfl
    repeat (first | refine Zq ?_ | refine Zs ?_ | refine ZT ?_ | refine ZF ?_ | refine Zc ?_ | refine XO_gU (hk := ?_))
    trace_state
    refine XE_fold (by repeat (first | exact FindAll.nil | exact Find.here | apply Find.there | apply FindAll.cons)) (Tbl.fold (eV := eTM) (t := t) (a1 := some ⟨qb, o, none⟩) (n1 := t.slots.length) (c1 := c1) (a2 := a2) (n2 := t.free.length) (c2 := c2) rfl rfl) ?_
    refine XE_ret (.inl rfl) (tells_many (vs := [tvalM t.slots[i].1, .bool true]) rfl ⟨told_cell, told_tmp, trivial⟩) ⟨_, ⟨rfl, rfl⟩, by ((try simp only [List.cons_append, List.nil_append]); repeat (first | exact ent_refl | refine ent_take (by repeat (first | exact Find.here | apply Find.there)) ?_ | refine ent_drop ?_))⟩
/-- One thing more. -/
theorem taddM (b : Nat) (t : Tb (MkT)) {N : Nat} (hT : TbOk N t) (hN : N + 1 ≤ 1000000) (v : MkT) : Spec Tryz.prog 104 [.pointer (some ⟨b, 0, none⟩), tvalM v] [TblM b t]
    (fun u L => u = .int .u64 t.addH ∧ L = [TblM b (t.add v)]) := by
  have hlen := hT.len
  have hkd := hT.kd
  have hnx := hT.nx_le
  refine Spec.intro (IsEnt.out) Tryz.func104 rfl Tryz.ntmps104 (by simp) (fun w0 F => ?_)
  simp only [envOf, List.zipIdx, List.map, List.cons_append, List.nil_append, Nat.zero_add, Nat.reduceAdd]
  refine X_open (A := TblM b t) (by (repeat (first | exact Find.here | apply Find.there))) Tbl.open ?_
  rintro ⟨⟨a1, c1⟩, a2, c2⟩ -
  dsimp only [List.cons_append, List.nil_append]
  repeat (first | refine Zq ?_ | refine Zs ?_ | refine ZT ?_ | refine ZF ?_ | refine Zc ?_ | refine XO_gU (hk := ?_))
  refine XO_dv (dv_box (row := eTM.cells v)) (hk := ?_)
  rintro _ _ ⟨vb, rfl, rfl⟩
  repeat (first | refine Zq ?_ | refine Zs ?_ | refine ZT ?_ | refine ZF ?_ | refine Zc ?_ | refine XO_gU (hk := ?_))
  refine XO_call (pack_spec t.kind 0 0 ⟨by omega, by omega⟩ ⟨by omega, by omega⟩ ⟨by omega, by omega⟩) (hk := ?_)
  rintro _ _ ⟨rfl, rfl⟩
  have hpk : (packI t.kind 0 0 == 0) = false := by rw [beq_eq_false_iff_ne]; exact pack_ne ⟨hkd.1, hkd.2, by decide, by decide⟩
  repeat (first | refine Zq ?_ | refine Zs ?_ | refine ZT ?_ | refine ZF ?_ | refine Zc ?_ | refine XO_gU (hk := ?_))
  refine X_cond rfl (fun hh => by rw [hpk] at hh; cases hh) (fun _ => ?_)
  refine X_skip ?_
  refine XE_code ?_
  refine X_seq ?_
  refine X_region ?_
  (repeat (first | refine Zq ?_ | refine Zs ?_ | refine ZT ?_ | refine ZF ?_ | refine XO_gU (hk := ?_)))
  have hfl2 := hT.fl
  have hrl := Tb.room_lt hT (⟨0, 0, 0, 0, 0, 0, 0⟩ : MkT)
  have hrg := Tb.room_gen hT (⟨0, 0, 0, 0, 0, 0, 0⟩ : MkT) hrl
  have hae := Tb.add_eq hT (⟨0, 0, 0, 0, 0, 0, 0⟩ : MkT) v
  have hTa := hT.add hN v
  have hag : (t.add v).hAt t.nx = t.addH := by unfold Tb.addH Tb.hAt; rw [Tb.add_gen hT v, show (t.add v).kind = t.kind from by rw [hae]]
  refine XO_nil ?_
  refine XE_code ?_
  refine X_seq ?_
  refine X_join (ι := (Option Addr × Nat) × (Option Addr × Nat)) (fun _ => True) (fun _ => [(0, .pointer (some ⟨b, 0, none⟩)),
 (3, .pointer (some ⟨vb, 0, none⟩)),
    (5, .int .i64 (t.nx : Int))]) (fun y => [
  pt vb (.cells (eTM.cells v).toArray 160 (0, 0)),
    pt b (.cells (tbRow t.kind y.1.1 (t.room (⟨0, 0, 0, 0, 0, 0, 0⟩ : MkT)).slots.length y.1.2 y.2.1 (t.room (⟨0, 0, 0, 0, 0, 0, 0⟩ : MkT)).free.length y.2.2).toArray 230 (0, 0)), Sl (eSlt eTM) y.1.1 y.1.2 (t.room (⟨0, 0, 0, 0, 0, 0, 0⟩ : MkT)).slots, Sl (eI .i64) y.2.1 y.2.2 (t.room (⟨0, 0, 0, 0, 0, 0, 0⟩ : MkT)).free] ++ F) ?_ ?_
  · repeat (first | refine Zq ?_ | refine Zs ?_ | refine ZT ?_ | refine ZF ?_ | refine Zc ?_ | refine XO_gU (hk := ?_))
    cases hl : t.free.getLast? with
    | none =>
      have hf0 : t.free = [] := List.getLast?_eq_none_iff.1 hl
      have hf1 : t.free.length = 0 := by rw [hf0]; rfl
      have hrm : t.room (⟨0, 0, 0, 0, 0, 0, 0⟩ : MkT) = ⟨t.kind, t.slots ++ [(⟨0, 0, 0, 0, 0, 0, 0⟩, false, 0)], t.free⟩ := by unfold Tb.room; rw [hl]
      have hn0 : t.nx = t.slots.length := by unfold Tb.nx; rw [hl]
      refine X_cond rfl (fun hh => by simp at hh; omega) (fun _ => ?_)
      repeat (first | refine Zq ?_ | refine Zs ?_ | refine ZT ?_ | refine ZF ?_ | refine Zc ?_ | refine XO_gU (hk := ?_))
      refine XO_lit (E' := eSlt eTM) [((⟨0, 0, 0, 0, 0, 0, 0⟩ : MkT), false, (0 : Int))] (hk := ?_)
      intro lb
      repeat (first | refine Zq ?_ | refine Zs ?_ | refine ZT ?_ | refine ZF ?_ | refine Zc ?_ | refine XO_gU (hk := ?_))
      refine XO_dv (dv_append (E' := eSlt eTM) (xs := t.slots) (ys := [((⟨0, 0, 0, 0, 0, 0, 0⟩ : MkT), false, (0 : Int))]) (hv := Sl.view) (hb := by simp; omega)) (hk := ?_)
      rintro _ _ ⟨a', c', rfl, rfl⟩
      repeat (first | refine Zq ?_ | refine Zs ?_ | refine ZT ?_ | refine ZF ?_ | refine Zc ?_ | refine XO_gU (hk := ?_))
      refine XO_dv0 dv_store (hk := ?_)
      rintro _ _ rfl
      repeat (first | refine Zq ?_ | refine Zs ?_ | refine ZT ?_ | refine ZF ?_ | refine Zc ?_ | refine XO_gU (hk := ?_))
      rw [hrm, hn0]
      exact X_meet ((a', c'), (a2, c2)) trivial (by (repeat (first | exact Env.sub_nil _ | refine Env.sub_cons rfl ?_))) (by ((try simp only [List.cons_append, List.nil_append]); repeat (first | exact ent_nil | exact ent_refl | refine ent_take (by repeat (first | exact Find.here | apply Find.there)) ?_ | refine ent_drop ?_)))
    | some i =>
      have hne : t.free ≠ [] := fun e => by rw [e] at hl; cases hl
      have hfl : 0 < t.free.length := List.length_pos_iff.2 hne
      have hi := hT.free i (List.mem_of_getLast? hl)
      have hrm : t.room (⟨0, 0, 0, 0, 0, 0, 0⟩ : MkT) = ⟨t.kind, t.slots, t.free.dropLast⟩ := by unfold Tb.room; rw [hl]
      have hn0 : t.nx = i.toNat := by unfold Tb.nx; rw [hl]
      have hgl : t.free[((t.free.length : Int) - 1).toNat]? = some i := by
        rw [show ((t.free.length : Int) - 1).toNat = t.free.length - 1 from by omega]
        rw [List.getLast?_eq_getElem?] at hl; exact hl
      refine X_cond rfl (fun _ => ?_) (fun hh => by rw [decide_eq_true (by omega)] at hh; cases hh)
      refine X_slopen (E' := eI .i64) (a := a2) (c := c2) (xs := t.free) (by (repeat (first | exact Find.here | apply Find.there))) hfl ?_
      rintro fb fo rfl
      refine X_fact (A := Sl (eI .i64) (some ⟨fb, fo, none⟩) c2 t.free) (by (repeat (first | exact Find.here | apply Find.there))) Sl.cap (fun hcap => ?_)
      repeat (first | refine Zq ?_ | refine Zs ?_ | refine ZT ?_ | refine ZF ?_ | refine Zc ?_ | refine XO_gU (hk := ?_))
      refine XO_dv0 dv_store (hk := ?_)
      rintro _ _ rfl
      repeat (first | refine Zq ?_ | refine Zs ?_ | refine ZT ?_ | refine ZF ?_ | refine Zc ?_ | refine XO_gU (hk := ?_))
      rw [show ((t.free.length : Int) - 1).toNat = t.free.dropLast.length from by rw [List.length_dropLast]; omega]
      refine XE_conv (fun _ => SL_take (E' := eI .i64) (a := some ⟨fb, fo, none⟩) (c := c2) (xs := t.free) (t.free.length - 1) (by (repeat (first | exact Find.here | apply Find.there)))) ?_
      rw [← List.dropLast_eq_take, hrm, hn0, show (i.toNat : Int) = i from by omega]
      exact X_meet ((a1, c1), (some ⟨fb, fo, none⟩, c2)) trivial (by (repeat (first | exact Env.sub_nil _ | refine Env.sub_cons rfl ?_))) (by ((try simp only [List.cons_append, List.nil_append]); repeat (first | exact ent_nil | exact ent_refl | refine ent_take (by repeat (first | exact Find.here | apply Find.there)) ?_ | refine ent_drop ?_)))
  rintro ⟨⟨a1, c1⟩, a2, c2⟩ -
  dsimp only
  generalize hxs : (t.room (⟨0, 0, 0, 0, 0, 0, 0⟩ : MkT)).slots = xs at hrl hrg hae ⊢
  have hgx : xs[t.nx]? = some xs[t.nx] := List.getElem?_eq_getElem hrl
  refine X_slopen (E' := eSlt eTM) (a := a1) (c := c1) (xs := xs) (by (repeat (first | exact Find.here | apply Find.there))) (by omega) ?_
  rintro qb o rfl
  repeat (first | refine Zq ?_ | refine Zs ?_ | refine ZT ?_ | refine ZF ?_ | refine Zc ?_ | refine XO_gU (hk := ?_))
  repeat (first | refine XD_pick (h := ?_) | refine Dq ?_ | refine Ds ?_ | refine XDi_gF (h := ?_) | refine XDi_gU (h := ?_) | refine X_draws (h := ?_))
  refine XD_one (h := ?_)
  refine XDa_dvk0 (dv_putEl (E' := eSlt eTM) (i := t.nx) (s := (eSlt eTM).sz) (f := 0) (xs := xs) (vs := eTM.cells v) (v, xs[t.nx].2.1, xs[t.nx].2.2) (by (repeat (first | exact Find.here | apply Find.there))) rfl rfl rfl (eTM.one v) rfl rfl hrl (by rw [eTM.len]; decide) rfl) (K := _) (hk := ?_)
  rintro _ _ rfl
  refine ⟨by (repeat (first | exact keeps_nil | exact keeps_fnil | refine keeps_skip (h := ?_) | refine keeps_takeQ (h := ?_))), ?_⟩
  have hrl2 : t.nx < (xs.set t.nx (v, xs[t.nx].2.1, xs[t.nx].2.2)).length := by rw [List.length_set]; exact hrl
  repeat (first | refine XD_pick (h := ?_) | refine Dq ?_ | refine Ds ?_ | refine XDi_gF (h := ?_) | refine XDi_gU (h := ?_) | refine X_draws (h := ?_))
  refine XD_one (h := ?_)
  refine XDa_dvk0 (dv_putEl (E' := eSlt eTM) (i := t.nx) (s := (eSlt eTM).sz) (f := eTM.sz) (xs := xs.set t.nx (v, xs[t.nx].2.1, xs[t.nx].2.2)) (vs := [.bool true]) (v, true, xs[t.nx].2.2) (by (repeat (first | exact Find.here | apply Find.there))) rfl rfl rfl (fun u hu => by simp at hu; subst hu; rfl) rfl rfl hrl2 (by decide) (by rw [List.getElem_set_self]; rfl)) (K := _) (hk := ?_)
  rintro _ _ rfl
  refine ⟨by (repeat (first | exact keeps_nil | exact keeps_fnil | refine keeps_skip (h := ?_) | refine keeps_takeQ (h := ?_))), ?_⟩
  (refine XD_end (h := ?_); repeat (first | refine Zq ?_ | refine Zs ?_ | refine ZT ?_ | refine ZF ?_ | refine Zc ?_ | refine XO_gU (hk := ?_)))
  rw [List.set_set, hrg]
  have hc := thandleM b (t.add v) hTa t.nx (by rw [hae]; show t.nx < (xs.set _ _).length; rw [List.length_set]; exact hrl) (some ⟨qb, o, none⟩) c1 a2 (t.room (⟨0, 0, 0, 0, 0, 0, 0⟩ : MkT)).free.length c2
  rw [hag, hae] at hc
  dsimp only at hc
  rw [List.length_set] at hc
  repeat (first | refine Zq ?_ | refine Zs ?_ | refine ZT ?_ | refine ZF ?_ | refine Zc ?_ | refine XO_gU (hk := ?_))
  refine XO_call hc (hk := ?_)
  rintro _ _ ⟨rfl, rfl⟩
  repeat (first | refine Zq ?_ | refine Zs ?_ | refine ZT ?_ | refine ZF ?_ | refine Zc ?_ | refine XO_gU (hk := ?_))
  rw [hae]
  refine XE_fold (by repeat (first | exact FindAll.nil | exact Find.here | apply Find.there | apply FindAll.cons)) (Tbl.fold (eV := eTM) (T := 230) (b := b) (t := ⟨t.kind, xs.set t.nx (v, true, t.genAt t.nx), (t.room (⟨0, 0, 0, 0, 0, 0, 0⟩ : MkT)).free⟩) (a1 := some ⟨qb, o, none⟩) (n1 := xs.length) (c1 := c1) (a2 := a2) (n2 := (t.room (⟨0, 0, 0, 0, 0, 0, 0⟩ : MkT)).free.length) (c2 := c2) (by show _ = (xs.set _ _).length; rw [List.length_set]) rfl) ?_
  refine XE_ret (.inl rfl) (tells_tmps rfl rfl) ⟨_, ⟨rfl, rfl⟩, by ((try simp only [List.cons_append, List.nil_append]); repeat (first | exact ent_refl | refine ent_take (by repeat (first | exact Find.here | apply Find.there)) ?_ | refine ent_drop ?_))⟩
/-- A thing is taken away. -/
theorem tdropM (b : Nat) (t : Tb (MkT)) {N : Nat} (hT : TbOk N t) (h : Int) (h0 : 0 ≤ h) (h1 : h ≤ 18446744073709551615) : Spec Tryz.prog 145 [.pointer (some ⟨b, 0, none⟩), .int .u64 h] [TblM b t]
    (fun u L => u = .bool (t.spot h).isSome ∧ L = [TblM b (t.drop ⟨0, 0, 0, 0, 0, 0, 0⟩ h)]) := by
  have hlen := hT.len
  have hkd := hT.kd
  have hfl2 := hT.fl
  have hN := hT.hN
  refine Spec.intro (IsEnt.out) Tryz.func145 rfl Tryz.ntmps145 (by simp) (fun w0 F => ?_)
  simp only [envOf, List.zipIdx, List.map, List.cons_append, List.nil_append, Nat.zero_add, Nat.reduceAdd]
  refine X_open (A := TblM b t) (by (repeat (first | exact Find.here | apply Find.there))) Tbl.open ?_
  rintro ⟨⟨a1, c1⟩, a2, c2⟩ -
  dsimp only [List.cons_append, List.nil_append]
  repeat (first | refine Zq ?_ | refine Zs ?_ | refine ZT ?_ | refine ZF ?_ | refine Zc ?_ | refine XO_gU (hk := ?_))
  refine XO_call (tliveM b t hT h h0 h1 a1 c1 a2 t.free.length c2) (hk := ?_)
  rintro _ _ ⟨rfl, rfl⟩
  cases hs : t.spot h with
  | none =>
    rw [show slotA a1 (eSlt eTM).sz none = none from by cases a1 <;> rfl, show t.drop ⟨0, 0, 0, 0, 0, 0, 0⟩ h = t from by unfold Tb.drop; rw [hs]]
    repeat (first | refine Zq ?_ | refine Zs ?_ | refine ZT ?_ | refine ZF ?_ | refine Zc ?_ | refine XO_gU (hk := ?_))
    (refine X_cond rfl (fun _ => ?_) (fun h => by cases h))
    repeat (first | refine Zq ?_ | refine Zs ?_ | refine ZT ?_ | refine ZF ?_ | refine Zc ?_ | refine XO_gU (hk := ?_))
    refine XE_fold (by repeat (first | exact FindAll.nil | exact Find.here | apply Find.there | apply FindAll.cons)) (Tbl.fold (eV := eTM) (t := t) (a1 := a1) (n1 := t.slots.length) (c1 := c1) (a2 := a2) (n2 := t.free.length) (c2 := c2) rfl rfl) ?_
    refine XE_ret (.inl rfl) (tells_tmps rfl rfl) ⟨_, ⟨rfl, rfl⟩, by ((try simp only [List.cons_append, List.nil_append]); repeat (first | exact ent_refl | refine ent_take (by repeat (first | exact Find.here | apply Find.there)) ?_ | refine ent_drop ?_))⟩
  | some i =>
    obtain ⟨hk0, hu, hkk, hgg, hsl, hi⟩ := Tb.spot_some hs
    have hgn := hT.gen i
    have hgi : t.slots[i].2.2 = t.genAt i := by unfold Tb.genAt; rw [List.getElem?_eq_getElem hi]
    have hget : t.slots[i]? = some t.slots[i] := List.getElem?_eq_getElem hi
    have hde : t.drop ⟨0, 0, 0, 0, 0, 0, 0⟩ h = ⟨t.kind, t.slots.set i (⟨0, 0, 0, 0, 0, 0, 0⟩, false, nextI (t.genAt i)), t.free ++ [(i : Int)]⟩ := by unfold Tb.drop; rw [hs]
    refine XO_slopen (E' := eSlt eTM) (a := a1) (c := c1) (xs := t.slots) (by (repeat (first | exact Find.here | apply Find.there))) (by omega) ?_
    rintro qb o rfl
    rw [show slotA (some ⟨qb, o, none⟩) (eSlt eTM).sz (some i) = some ⟨qb, o + i * (eSlt eTM).sz, none⟩ from rfl]
    repeat (first | refine Zq ?_ | refine Zs ?_ | refine ZT ?_ | refine ZF ?_ | refine Zc ?_ | refine XO_gU (hk := ?_))
    (refine X_cond rfl (fun h => by cases h) (fun _ => ?_))
    repeat (first | refine Zq ?_ | refine Zs ?_ | refine ZT ?_ | refine ZF ?_ | refine Zc ?_ | refine XO_gU (hk := ?_))
    refine XO_call (unpack_spec h h0 h1) (hk := ?_)
    rintro _ _ ⟨rfl, rfl⟩
    unfold unpV
    rw [if_neg hk0, show hSlot h = (i : Int) from by have h2 : 0 ≤ hSlot h := Int.emod_nonneg _ (by decide); omega]
    repeat (first | refine Zq ?_ | refine Zs ?_ | refine ZT ?_ | refine ZF ?_ | refine Zc ?_ | refine XO_gU (hk := ?_))
    rw [hgi]
    refine XO_call (next_spec (t.genAt i) (by omega) (by omega)) (hk := ?_)
    rintro _ _ ⟨rfl, rfl⟩
    refine XO_pv (pv_buildG (eTM.cells ⟨0, 0, 0, 0, 0, 0, 0⟩ ++ [.bool false, .int .i64 (nextI (t.genAt i))])) (hk := ?_)
    repeat (first | refine Zq ?_ | refine Zs ?_ | refine ZT ?_ | refine ZF ?_ | refine Zc ?_ | refine XO_gU (hk := ?_))
    refine XO_dv0 (dv_putElW (E' := eSlt eTM) (i := i) (xs := t.slots) (s := (eSlt eTM).sz) (⟨0, 0, 0, 0, 0, 0, 0⟩, false, nextI (t.genAt i))) (hk := ?_)
    rintro _ _ rfl
    repeat (first | refine Zq ?_ | refine Zs ?_ | refine ZT ?_ | refine ZF ?_ | refine Zc ?_ | refine XO_gU (hk := ?_))
    refine XO_lit (E' := eI .i64) [(i : Int)] (hk := ?_)
    intro lb
    repeat (first | refine Zq ?_ | refine Zs ?_ | refine ZT ?_ | refine ZF ?_ | refine Zc ?_ | refine XO_gU (hk := ?_))
    refine XO_dv (dv_append (E' := eI .i64) (xs := t.free) (ys := [(i : Int)]) (hv := Sl.view) (hb := by simp; omega)) (hk := ?_)
    rintro _ _ ⟨a', c', rfl, rfl⟩
    repeat (first | refine Zq ?_ | refine Zs ?_ | refine ZT ?_ | refine ZF ?_ | refine Zc ?_ | refine XO_gU (hk := ?_))
    refine XO_dv0 dv_store (hk := ?_)
    rintro _ _ rfl
    repeat (first | refine Zq ?_ | refine Zs ?_ | refine ZT ?_ | refine ZF ?_ | refine Zc ?_ | refine XO_gU (hk := ?_))
    rw [hde]
    refine XE_fold (by repeat (first | exact FindAll.nil | exact Find.here | apply Find.there | apply FindAll.cons)) (Tbl.fold (eV := eTM) (T := 230) (b := b) (t := ⟨t.kind, t.slots.set i (⟨0, 0, 0, 0, 0, 0, 0⟩, false, nextI (t.genAt i)), t.free ++ [(i : Int)]⟩) (a1 := some ⟨qb, o, none⟩) (n1 := t.slots.length) (c1 := c1) (a2 := a') (n2 := (t.free ++ [(i : Int)]).length) (c2 := c') (by show _ = (t.slots.set _ _).length; rw [List.length_set]) rfl) ?_
    refine XE_ret (.inl rfl) (tells_tmps rfl rfl) ⟨_, ⟨rfl, rfl⟩, by ((try simp only [List.cons_append, List.nil_append]); repeat (first | exact ent_refl | refine ent_take (by repeat (first | exact Find.here | apply Find.there)) ?_ | refine ent_drop ?_))⟩
end Go.Proofs.YtamecmklcnohjaaGreat.Sep
