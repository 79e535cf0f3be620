import Derived.Test.YtamecmklcnohjaaGreatBn10
import Derived.Test.YtamecmklcnohjaaGreatBn11
import Derived.Test.YtamecmklcnohjaaGreatBn6
/- What the laws share: a separation logic over the model, and what the program's functions do, by it. Part 12 of 15: ArDef TabL LdSt ArA ArB ArM ArInv Awake18. -/
namespace Go.Proofs.YtamecmklcnohjaaGreat.Sep
open Go.RowKit
set_option linter.unusedSimpArgs false
set_option linter.unusedVariables false
structure ABl where
  a : Nat
  s : Nat
  sb : Nat
  rt : Nat
  ot : Nat
  mt : Nat
  tt : Nat
  rr : Nat
structure Ar where
  C : Co
  m : Mm
  P : Int
  reg : Tb (Option Nat)
  M : List RgT
  obj : Tb (Int × Int × Int)
  mar : Tb MkT
  tr : List (Int × Int)
  rs : List (Int × Int)
abbrev arRow (x : ABl) : List Value := [.pointer (some ⟨x.s, 0, none⟩), .pointer (some ⟨x.rt, 0, none⟩), .pointer (some ⟨x.ot, 0, none⟩), .pointer (some ⟨x.mt, 0, none⟩), .pointer (some ⟨x.tt, 0, none⟩), .pointer (some ⟨x.rr, 0, none⟩)]
abbrev arL (x : ABl) (z : Ar) : List HP := [pt x.a (.cells (arRow x).toArray 166 (0, 0)), Ck x.s x.sb z.C, Spc x.sb z.P z.m, TblR x.rt z.reg, TblO x.ot z.obj, TblM x.mt z.mar, Tre x.tt z.tr, Ros x.rr z.rs, Star (RgOf x.s) z.M]
def Arn (x : ABl) (z : Ar) : HP := SLA (arL x z)
theorem Arn.open {x : ABl} {z : Ar} : ∀ H, Arn x z H → ∃ u : Unit, True ∧ SL (arL x z) H := fun H h => ⟨(), trivial, h⟩
theorem Arn.fold {x : ABl} {z : Ar} : ∀ H, SL (arL x z) H → Arn x z H := fun H h => h
structure AOk (N : Nat) (z : Ar) : Prop where
  hN : N ≤ 100000
  R : RAll z.P N z.C z.m.f z.M
  rg : TbOk N z.reg
  ob : TbOk N z.obj
  mr : TbOk N z.mar
  k1 : z.reg.kind = 1
  k2 : z.obj.kind = 2
  k3 : z.mar.kind = 3
  T : TWf z.tr
  tl : z.tr.length ≤ N
  rl : z.rs.length ≤ N
  live : ∀ h v, z.reg.get h = some v → ∃ (i b : Nat) (S : Sh), v = some b ∧ z.M[i]? = some (b, h, S)
  own : ∀ q ∈ z.M, z.reg.get q.2.1 = some (some q.1)
  hb : ∀ q ∈ z.M, 0 ≤ q.2.1 ∧ q.2.1 ≤ 18446744073709551615
  nd : (z.M.map (·.2.1)).Nodup
  tk : ∀ h, h ∈ z.tr.map (·.1) ↔ (z.reg.get h).isSome
  pl : ∀ h o, z.obj.get h = some o → 0 ≤ o.1 ∧ 0 ≤ o.2.1 ∧ o.1 + o.2.1 ≤ z.P * 4096
  rb : ∀ q ∈ z.rs, 0 ≤ q.2 ∧ q.2 ≤ 18446744073709551615
theorem AOk.P {N : Nat} {z : Ar} (h : AOk N z) : 1 ≤ z.P ∧ z.P ≤ 1048576 := by
  have h1 := h.R.K.ci.ok.p1
  have h2 := h.R.K.ci.ok.p2
  have h3 := h.R.hP
  omega
def AOw (N : Nat) (z : Ar) : Prop := ∃ T0, AOk N { z with tr := T0 }
theorem AOk.w {N : Nat} {z : Ar} (h : AOk N z) : AOw N z := ⟨z.tr, h⟩
theorem AOw.hN {N : Nat} {z : Ar} (h : AOw N z) : N ≤ 100000 := by obtain ⟨_, h⟩ := h; exact h.hN
theorem AOw.R {N : Nat} {z : Ar} (h : AOw N z) : RAll z.P N z.C z.m.f z.M := by obtain ⟨_, h⟩ := h; exact h.R
theorem AOw.rg {N : Nat} {z : Ar} (h : AOw N z) : TbOk N z.reg := by obtain ⟨_, h⟩ := h; exact h.rg
theorem AOw.ob {N : Nat} {z : Ar} (h : AOw N z) : TbOk N z.obj := by obtain ⟨_, h⟩ := h; exact h.ob
theorem AOw.mr {N : Nat} {z : Ar} (h : AOw N z) : TbOk N z.mar := by obtain ⟨_, h⟩ := h; exact h.mr
theorem AOw.rl {N : Nat} {z : Ar} (h : AOw N z) : z.rs.length ≤ N := by obtain ⟨_, h⟩ := h; exact h.rl
theorem AOw.live {N : Nat} {z : Ar} (h : AOw N z) : ∀ h v, z.reg.get h = some v → ∃ (i b : Nat) (S : Sh), v = some b ∧ z.M[i]? = some (b, h, S) := by obtain ⟨_, h⟩ := h; exact h.live
theorem AOw.own {N : Nat} {z : Ar} (h : AOw N z) : ∀ q ∈ z.M, z.reg.get q.2.1 = some (some q.1) := by obtain ⟨_, h⟩ := h; exact h.own
theorem AOw.hb {N : Nat} {z : Ar} (h : AOw N z) : ∀ q ∈ z.M, 0 ≤ q.2.1 ∧ q.2.1 ≤ 18446744073709551615 := by obtain ⟨_, h⟩ := h; exact h.hb
theorem AOw.nd {N : Nat} {z : Ar} (h : AOw N z) : (z.M.map (·.2.1)).Nodup := by obtain ⟨_, h⟩ := h; exact h.nd
theorem AOw.rb {N : Nat} {z : Ar} (h : AOw N z) : ∀ q ∈ z.rs, 0 ≤ q.2 ∧ q.2 ≤ 18446744073709551615 := by obtain ⟨_, h⟩ := h; exact h.rb
set_option maxHeartbeats 8000000
attribute [local irreducible] X XE XO XD XDi XDa PV RV DV pt base Spec Sl Mp Keeps Pg Kc
attribute [local irreducible] Pgs Spc Ck XL XLi Pl Rs Rg View Tbl Tre Ros Star RgOf Arn
theorem ar_new (p : Int) : Spec Tryz.prog 30 [.int .i64 p] [] (fun v L => ∃ x : ABl, v = .pointer (some ⟨x.a, 0, none⟩) ∧ L = [Arn x ⟨⟨min (max p 1) 1048576, [(0, min (max p 1) 1048576)], fun _ => [], 0⟩, ⟨fun _ => 0, 0⟩, min (max p 1) 1048576, ⟨1, [], []⟩, [], ⟨2, [], []⟩, ⟨3, [], []⟩, [], []⟩]) := by
  refine Spec.intro (IsEnt.out) Tryz.func30 rfl Tryz.ntmps30 (by simp) (fun w0 F => ?_)
  simp only [envOf, List.zipIdx, List.map, List.cons_append, List.nil_append, Nat.zero_add, Nat.reduceAdd]
  (repeat refine Z ?_)
  refine XO_call (knew_spec p) (hk := ?_)
  rintro _ _ ⟨s, sb, rfl, rfl⟩
  (repeat refine Z ?_)
  refine XO_call (tnewR 1) (hk := ?_)
  rintro _ _ ⟨rt, rfl, rfl⟩
  (repeat refine Z ?_)
  refine XO_call (tnewO 2) (hk := ?_)
  rintro _ _ ⟨ot, rfl, rfl⟩
  (repeat refine Z ?_)
  refine XO_call (tnewM 3) (hk := ?_)
  rintro _ _ ⟨mt, rfl, rfl⟩
  (repeat refine Z ?_)
  refine XO_call tr_new (hk := ?_)
  rintro _ _ ⟨tt, rfl, rfl⟩
  (repeat refine Z ?_)
  refine XO_call ros_new (hk := ?_)
  rintro _ _ ⟨rr, rfl, rfl⟩
  (repeat refine Z ?_)
  refine XO_dv dv_box (hk := ?_)
  rintro _ _ ⟨a, rfl, rfl⟩
  (repeat refine Z ?_)
  refine XE_conv (fun _ h => Star.nil (f := RgOf s) h) ?_
  refine XE_fold (by exact FAs) (Arn.fold (x := ⟨a, s, sb, rt, ot, mt, tt, rr⟩) (z := ⟨⟨min (max p 1) 1048576, [(0, min (max p 1) 1048576)], fun _ => [], 0⟩, ⟨fun _ => 0, 0⟩, min (max p 1) 1048576, ⟨1, [], []⟩, [], ⟨2, [], []⟩, ⟨3, [], []⟩, [], []⟩)) ?_
  refine XE_ret (.inl rfl) (tells_tmps rfl rfl) ⟨_, ⟨⟨a, s, sb, rt, ot, mt, tt, rr⟩, rfl, rfl⟩, by exact EN⟩
theorem ar_region (x : ABl) (z : Ar) {N : Nat} (hA : AOw N z) (h : Int) (h0 : 0 ≤ h) (h1 : h ≤ 18446744073709551615) : Spec Tryz.prog 90 [.pointer (some ⟨x.a, 0, none⟩), .int .u64 h] [Arn x z] (fun v L => v = .tuple #[npV ((z.reg.get h).getD none), .bool (z.reg.get h).isSome] ∧ L = [Arn x z]) := by
  refine Spec.intro (IsEnt.out) Tryz.func90 rfl Tryz.ntmps90 (by simp) (fun w0 F => ?_)
  simp only [envOf, List.zipIdx, List.map, List.cons_append, List.nil_append, Nat.zero_add, Nat.reduceAdd]
  refine X_open (A := Arn x z) (by exact FDs) Arn.open ?_
  rintro ⟨⟩ -
  dsimp only [List.cons_append, List.nil_append]
  (repeat refine Z ?_)
  refine X_cond rfl (fun h => by cases h) (fun _ => ?_)
  (repeat refine Z ?_)
  refine XO_call (tgetR x.rt z.reg hA.rg h h0 h1) (hk := ?_)
  rintro _ _ ⟨rfl, rfl⟩
  (repeat refine Z ?_)
  refine XE_fold (by exact FAs) (Arn.fold (x := x) (z := z)) ?_
  refine XE_ret (.inl rfl) (tells_tmps rfl rfl) ⟨_, ⟨rfl, rfl⟩, by exact EN⟩
theorem ar_object (x : ABl) (z : Ar) {N : Nat} (hA : AOk N z) (h : Int) (h0 : 0 ≤ h) (h1 : h ≤ 18446744073709551615) : Spec Tryz.prog 101 [.pointer (some ⟨x.a, 0, none⟩), .int .u64 h] [Arn x z] (fun v L => v = .tuple #[tvalO ((z.obj.get h).getD (0, 0, 0)), .bool (z.obj.get h).isSome] ∧ L = [Arn x z]) := by
  refine Spec.intro (IsEnt.out) Tryz.func101 rfl Tryz.ntmps101 (by simp) (fun w0 F => ?_)
  simp only [envOf, List.zipIdx, List.map, List.cons_append, List.nil_append, Nat.zero_add, Nat.reduceAdd]
  refine X_open (A := Arn x z) (by exact FDs) Arn.open ?_
  rintro ⟨⟩ -
  dsimp only [List.cons_append, List.nil_append]
  (repeat refine Z ?_)
  refine XO_dv dv_alloc (hk := ?_)
  rintro _ _ ⟨rb, rfl, rfl⟩
  (repeat refine Z ?_)
  refine X_cond rfl (fun h => by cases h) (fun _ => ?_)
  (repeat refine Z ?_)
  refine XO_call (tgetO x.ot z.obj hA.ob h h0 h1) (hk := ?_)
  rintro _ _ ⟨rfl, rfl⟩
  (repeat refine Z ?_)
  refine XO_dv0 (dv_storeW (vs := eTO.cells ((z.obj.get h).getD (0, 0, 0)))) (hk := ?_)
  rintro _ _ rfl
  (repeat refine Z ?_)
  refine XE_fold (by exact FAs) (Arn.fold (x := x) (z := z)) ?_
  refine XE_ret (.inl rfl) (tells_many (vs := [tvalO ((z.obj.get h).getD (0, 0, 0)), .bool (z.obj.get h).isSome]) rfl ⟨told_cell, told_tmp, trivial⟩) ⟨_, ⟨rfl, rfl⟩, by exact EN⟩
theorem ar_store (x : ABl) (z : Ar) : Spec Tryz.prog 45 [.pointer (some ⟨x.a, 0, none⟩)] [Arn x z] (fun v L => v = .pointer (some ⟨x.s, 0, none⟩) ∧ L = [Arn x z]) := by
  refine Spec.intro (IsEnt.out) Tryz.func45 rfl Tryz.ntmps45 (by simp) (fun w0 F => ?_)
  simp only [envOf, List.zipIdx, List.map, List.cons_append, List.nil_append, Nat.zero_add, Nat.reduceAdd]
  refine X_open (A := Arn x z) (by exact FDs) Arn.open ?_
  rintro ⟨⟩ -
  dsimp only [List.cons_append, List.nil_append]
  (repeat refine Z ?_)
  refine X_cond rfl (fun h => by cases h) (fun _ => ?_)
  (repeat refine Z ?_)
  refine XE_fold (by exact FAs) (Arn.fold (x := x) (z := z)) ?_
  refine XE_ret (.inl rfl) (tells_tmps rfl rfl) ⟨_, ⟨rfl, rfl⟩, by exact EN⟩
theorem ar_trim (x : ABl) (z : Ar) (hC : CoOk z.C) : Spec Tryz.prog 48 [.pointer (some ⟨x.a, 0, none⟩)] [Arn x z] (fun v L => v = .int .i64 (trimN z.C) ∧ L = [Arn x { z with C := trimC z.C }]) := by
  refine Spec.intro (IsEnt.out) Tryz.func48 rfl Tryz.ntmps48 (by simp) (fun w0 F => ?_)
  simp only [envOf, List.zipIdx, List.map, List.cons_append, List.nil_append, Nat.zero_add, Nat.reduceAdd]
  (repeat refine Z ?_)
  refine XO_call (ar_store x z) (hk := ?_)
  rintro _ _ ⟨rfl, rfl⟩
  refine XO_open (A := Arn x z) (by exact FDs) Arn.open ?_
  rintro ⟨⟩ -
  dsimp only [List.cons_append, List.nil_append]
  refine XO_call (ctrim_spec x.s x.sb z.C hC) (hk := ?_)
  rintro _ _ ⟨rfl, rfl⟩
  (repeat refine Z ?_)
  refine XE_fold (by exact FAs) (Arn.fold (x := x) (z := { z with C := trimC z.C })) ?_
  refine XE_ret (.inl rfl) (tells_tmps rfl rfl) ⟨_, ⟨rfl, rfl⟩, by exact EN⟩
end Go.Proofs.YtamecmklcnohjaaGreat.Sep
namespace Go.Proofs.YtamecmklcnohjaaGreat.Sep
open Go.RowKit
set_option linter.unusedSimpArgs false
set_option linter.unusedVariables false
section
variable {α : Type}
theorem Tb.nx_unused {N : Nat} {t : Tb α} (h : TbOk N t) : t.usedAt t.nx = false := by
  unfold Tb.nx
  cases hl : t.free.getLast? with
  | none => unfold Tb.usedAt; rw [List.getElem?_eq_none (Nat.le_refl _)]
  | some i => exact (h.free i (List.mem_of_getLast? hl)).2.2
theorem Tb.addH_ok {N : Nat} {t : Tb α} (h : TbOk N t) : HOk t.kind t.nx (t.genAt t.nx) := h.hok (Nat.le_trans h.nx_le h.len)
theorem Tb.addH_bd {N : Nat} {t : Tb α} (h : TbOk N t) : 0 ≤ t.addH ∧ t.addH ≤ 18446744073709551615 := pack_bd
theorem Tb.addH_ne {N : Nat} {t : Tb α} (h : TbOk N t) : t.addH ≠ 0 := pack_ne (Tb.addH_ok h)
theorem Tb.addH_parts {N : Nat} {t : Tb α} (h : TbOk N t) : hKind t.addH = t.kind ∧ (hSlot t.addH).toNat = t.nx ∧ hGen t.addH = t.genAt t.nx := by
  have ho := Tb.addH_ok h
  refine ⟨pack_kind ho, ?_, pack_gen ho⟩
  show (hSlot (packI _ _ _)).toNat = _
  rw [pack_slot ho]; omega
theorem Tb.addH_new {N : Nat} {t : Tb α} (h : TbOk N t) : t.get t.addH = none := by
  have hp := Tb.addH_parts h
  unfold Tb.get
  rw [show t.spot t.addH = none from if_neg (fun hh => by rw [hp.2.1, Tb.nx_unused h] at hh; cases hh.2.1)]
  rfl
theorem same_handle {x y : Int} (x0 : 0 ≤ x) (x1 : x ≤ 18446744073709551615) (y0 : 0 ≤ y) (y1 : y ≤ 18446744073709551615) (h1 : hKind x = hKind y) (h2 : (hSlot x).toNat = (hSlot y).toNat) (h3 : hGen x = hGen y) : x = y := by
  unfold hKind hSlot hGen at *; omega
theorem Tb.get_some {t : Tb α} {x : Int} {v : α} (h : t.get x = some v) : ∃ i, t.spot x = some i ∧ t.slots[i]?.map (·.1) = some v := by
  unfold Tb.get at h
  cases hs : t.spot x with
  | none => rw [hs] at h; cases h
  | some i => rw [hs] at h; exact ⟨i, rfl, h⟩
theorem Tb.spot_get {t : Tb α} {x : Int} {i : Nat} (h : t.spot x = some i) : ∃ v, t.get x = some v ∧ t.slots[i]?.map (·.1) = some v := by
  obtain ⟨_, hu, _, _, _, hi⟩ := Tb.spot_some h
  refine ⟨t.slots[i].1, ?_, by rw [List.getElem?_eq_getElem hi]; rfl⟩
  unfold Tb.get; rw [h]; show Option.map _ _ = _; rw [List.getElem?_eq_getElem hi]; rfl
theorem Tb.get_hok {N : Nat} {t : Tb α} (h : TbOk N t) {x : Int} {i : Nat} (hs : t.spot x = some i) : t.hAt i = x ∨ x < 0 ∨ 18446744073709551615 < x := by
  by_cases hb : 0 ≤ x ∧ x ≤ 18446744073709551615
  · left
    obtain ⟨hk, hu, hkk, hg, hsl, hi⟩ := Tb.spot_some hs
    have := unpack_pack hb.1 hb.2 hk
    unfold Tb.hAt
    rw [← hkk, ← hg, ← hsl]
    have hs0 : 0 ≤ hSlot x := Int.emod_nonneg _ (by decide)
    rw [show (((hSlot x).toNat : Nat) : Int) = hSlot x from by omega]
    exact this.2
  · omega
theorem Tb.kind_add (t : Tb α) (v : α) : (t.add v).kind = t.kind := by unfold Tb.add; cases t.free.getLast? <;> rfl
theorem Tb.spot_add {N : Nat} {t : Tb α} (h : TbOk N t) (v : α) {x : Int} (x0 : 0 ≤ x) (x1 : x ≤ 18446744073709551615) : (t.add v).spot x = if x = t.addH then some t.nx else t.spot x := by
  have hp := Tb.addH_parts h
  have hb := Tb.addH_bd h
  by_cases he : x = t.addH
  · subst he
    rw [if_pos rfl]
    unfold Tb.spot
    rw [hp.2.1, Tb.add_used h, if_pos rfl, Tb.add_gen h, Tb.kind_add, if_pos ⟨by rw [hp.1]; have := h.kd; omega, rfl, hp.1, hp.2.2⟩]
  · rw [if_neg he]
    unfold Tb.spot
    rw [Tb.add_used h, Tb.add_gen h, Tb.kind_add]
    by_cases hs : (hSlot x).toNat = t.nx
    · rw [if_pos hs, hs, Tb.nx_unused h]
      rw [if_neg (fun hh => he (same_handle x0 x1 hb.1 hb.2 (by rw [hp.1]; exact hh.2.2.1) (by rw [hp.2.1]; exact hs) (by rw [hp.2.2]; exact hh.2.2.2))), if_neg (fun hh => by cases hh.2.1)]
    · rw [if_neg hs]
theorem Tb.slots_add {N : Nat} {t : Tb α} (h : TbOk N t) (v : α) (i : Nat) : (t.add v).slots[i]?.map (·.1) = if i = t.nx then some v else t.slots[i]?.map (·.1) := by
  unfold Tb.add Tb.nx
  cases hl : t.free.getLast? with
  | none =>
    simp only
    rcases Nat.lt_trichotomy i t.slots.length with h1 | h1 | h1
    · rw [List.getElem?_append_left h1, if_neg (by omega)]
    · subst h1; simp
    · rw [List.getElem?_eq_none (by simp; omega), List.getElem?_eq_none (by omega), if_neg (by omega)]
  | some j =>
    have hj := (h.free j (List.mem_of_getLast? hl)).2.1
    simp only
    rw [List.getElem?_set]
    by_cases h1 : j.toNat = i
    · subst h1; simp [hj]
    · rw [if_neg h1, if_neg (fun e => h1 e.symm)]
theorem Tb.get_add {N : Nat} {t : Tb α} (h : TbOk N t) (v : α) {x : Int} (x0 : 0 ≤ x) (x1 : x ≤ 18446744073709551615) : (t.add v).get x = if x = t.addH then some v else t.get x := by
  have hs := Tb.spot_add h v x0 x1
  by_cases he : x = t.addH
  · rw [if_pos he] at hs ⊢
    unfold Tb.get; rw [hs]
    show Option.map _ _ = _
    have := Tb.slots_add h v t.nx
    rw [if_pos rfl] at this; exact this
  · rw [if_neg he] at hs ⊢
    unfold Tb.get; rw [hs]
    cases hsp : t.spot x with
    | none => rfl
    | some i =>
      have hu := (Tb.spot_some hsp).2.1
      have hne : i ≠ t.nx := fun e => by rw [e, Tb.nx_unused h] at hu; cases hu
      show Option.map _ _ = Option.map _ _
      have := Tb.slots_add h v i
      rw [if_neg hne] at this; exact this
theorem Tb.put_parts {t : Tb α} {y : Int} {v : α} (j : Nat) : (t.put y v).usedAt j = t.usedAt j ∧ (t.put y v).genAt j = t.genAt j ∧ (t.put y v).kind = t.kind ∧ (t.put y v).slots.length = t.slots.length ∧ (t.put y v).free = t.free := by
  unfold Tb.put
  cases hs : t.spot y with
  | none => exact ⟨rfl, rfl, rfl, rfl, rfl⟩
  | some i =>
    obtain ⟨_, hu, _, _, _, hi⟩ := Tb.spot_some hs
    refine ⟨?_, ?_, rfl, by simp, rfl⟩
    · unfold Tb.usedAt
      simp only
      rw [List.getElem?_set]
      by_cases h1 : i = j
      · subst h1; rw [if_pos rfl]; simp only [hi, if_true]; unfold Tb.usedAt at hu; exact hu.symm
      · rw [if_neg h1]
    · unfold Tb.genAt
      simp only
      rw [List.getElem?_set]
      by_cases h1 : i = j
      · subst h1; rw [if_pos rfl]; simp only [hi, if_true]
      · rw [if_neg h1]
theorem Tb.spot_put (t : Tb α) (y : Int) (v : α) (x : Int) : (t.put y v).spot x = t.spot x := by
  unfold Tb.spot
  have hp := Tb.put_parts (t := t) (y := y) (v := v) (hSlot x).toNat
  rw [hp.1, hp.2.1, hp.2.2.1]
theorem Tb.get_put {N : Nat} {t : Tb α} (h : TbOk N t) {y : Int} (v : α) {x : Int} (x0 : 0 ≤ x) (x1 : x ≤ 18446744073709551615) (y0 : 0 ≤ y) (y1 : y ≤ 18446744073709551615) : (t.put y v).get x = if x = y ∧ (t.get y).isSome = true then some v else t.get x := by
  unfold Tb.get
  rw [Tb.spot_put]
  cases hy : t.spot y with
  | none =>
    rw [if_neg (fun hh => by cases hh.2)]
    unfold Tb.put; rw [hy]
  | some j =>
    obtain ⟨hk, hu, hkk, hg, hsl, hj⟩ := Tb.spot_some hy
    have hsm : ((some j).bind fun i => t.slots[i]?.map (·.1)).isSome = true := by
      show (Option.map _ _).isSome = true
      rw [List.getElem?_eq_getElem hj]; rfl
    cases hx : t.spot x with
    | none =>
      rw [if_neg (fun hh => by rw [hh.1, hy] at hx; cases hx)]
      rfl
    | some i =>
      obtain ⟨hk2, hu2, hkk2, hg2, hsl2, hi⟩ := Tb.spot_some hx
      show Option.map _ _ = _
      unfold Tb.put
      rw [hy]
      simp only
      rw [List.getElem?_set]
      by_cases h1 : j = i
      · subst h1
        have hxy : x = y := same_handle x0 x1 y0 y1 (by rw [hkk, hkk2]) (by rw [hsl, hsl2]) (by rw [hg, hg2])
        rw [if_pos (And.intro hxy hsm)]; simp [hj]
      · rw [if_neg h1, if_neg (fun hh => h1 (by have := hh.1; subst this; rw [hx] at hy; exact (Option.some.inj hy).symm))]
        rfl
theorem TbOk.put {N : Nat} {t : Tb α} (h : TbOk N t) (y : Int) (v : α) : TbOk N (t.put y v) := by
  have hp := fun j => Tb.put_parts (t := t) (y := y) (v := v) j
  refine ⟨h.hN, by rw [(hp 0).2.2.1]; exact h.kd, by rw [(hp 0).2.2.2.1]; exact h.len, fun q hq => ?_, fun i hi => ?_, by rw [(hp 0).2.2.2.2]; exact h.nd⟩
  · obtain ⟨j, hj, he⟩ := List.mem_iff_getElem.1 hq
    have := (hp j).2.1
    have hg := h.gen j
    rw [← this] at hg
    unfold Tb.genAt at hg
    rw [List.getElem?_eq_getElem hj, he] at hg
    exact hg
  · rw [(hp 0).2.2.2.2] at hi
    rw [(hp i.toNat).1, (hp 0).2.2.2.1]
    exact h.free i hi
theorem TbOk.le {N N' : Nat} {t : Tb α} (h : TbOk N t) (hl : N ≤ N') (hN : N' ≤ 1000000) : TbOk N' t := ⟨hN, h.kd, Nat.le_trans h.len hl, fun q hq => ⟨(h.gens q hq).1, by have := (h.gens q hq).2; omega⟩, h.free, h.nd⟩
theorem Tb.drop_parts {d : α} {t : Tb α} {y : Int} {i : Nat} (hs : t.spot y = some i) (j : Nat) : (t.drop d y).usedAt j = (if j = i then false else t.usedAt j) ∧ (t.drop d y).genAt j = (if j = i then nextI (t.genAt i) else t.genAt j) ∧ (t.drop d y).kind = t.kind ∧ (t.drop d y).slots.length = t.slots.length ∧ (t.drop d y).free = t.free ++ [(i : Int)] := by
  obtain ⟨_, hu, _, _, _, hi⟩ := Tb.spot_some hs
  unfold Tb.drop
  rw [hs]
  refine ⟨?_, ?_, rfl, by simp, rfl⟩
  · unfold Tb.usedAt
    simp only
    rw [List.getElem?_set]
    by_cases h1 : i = j
    · subst h1; simp [hi]
    · rw [if_neg h1, if_neg (fun e => h1 e.symm)]
  · conv => lhs; unfold Tb.genAt
    simp only
    rw [List.getElem?_set]
    by_cases h1 : i = j
    · subst h1
      have hge : t.genAt i = t.slots[i].2.2 := by unfold Tb.genAt; rw [List.getElem?_eq_getElem hi]
      simp [hi, hge]
    · rw [if_neg h1, if_neg (fun e => h1 e.symm)]; rfl
theorem TbOk.drop {N : Nat} {t : Tb α} (h : TbOk N t) (hN : N + 1 ≤ 1000000) (d : α) (y : Int) : TbOk (N + 1) (t.drop d y) := by
  cases hs : t.spot y with
  | none => have : t.drop d y = t := by unfold Tb.drop; rw [hs]
            rw [this]; exact h.le (Nat.le_succ _) hN
  | some i =>
    have hp := fun j => Tb.drop_parts (d := d) hs j
    obtain ⟨_, hu, _, _, _, hi⟩ := Tb.spot_some hs
    refine ⟨hN, by rw [(hp 0).2.2.1]; exact h.kd, by rw [(hp 0).2.2.2.1]; have := h.len; omega, fun q hq => ?_, fun k hk => ?_, ?_⟩
    · obtain ⟨j, hj, he⟩ := List.mem_iff_getElem.1 hq
      have hg : (t.drop d y).genAt j = q.2.2 := by unfold Tb.genAt; rw [List.getElem?_eq_getElem hj, he]
      rw [← hg, (hp j).2.1]
      have h1 := h.gen i
      have h2 := h.gen j
      split
      · unfold nextI; split <;> omega
      · omega
    · rw [(hp 0).2.2.2.2] at hk
      rw [(hp k.toNat).1, (hp 0).2.2.2.1]
      rcases List.mem_append.1 hk with h1 | h1
      · have h2 := h.free k h1
        exact ⟨h2.1, h2.2.1, by split <;> first | rfl | exact h2.2.2⟩
      · simp at h1; subst h1
        exact ⟨Int.natCast_nonneg _, by simpa using hi, by simp⟩
    · rw [(hp 0).2.2.2.2, List.nodup_append]
      refine ⟨h.nd, by simp, fun a ha b hb e => ?_⟩
      simp at hb
      subst hb; subst e
      have := (h.free _ ha).2.2
      rw [show ((i : Int)).toNat = i from rfl, hu] at this
      cases this
theorem Tb.get_drop {N : Nat} {t : Tb α} (h : TbOk N t) (d : α) {x y : Int} (x0 : 0 ≤ x) (x1 : x ≤ 18446744073709551615) (y0 : 0 ≤ y) (y1 : y ≤ 18446744073709551615) : (t.drop d y).get x = if x = y then none else t.get x := by
  cases hs : t.spot y with
  | none =>
    have h1 : t.drop d y = t := by unfold Tb.drop; rw [hs]
    rw [h1]
    by_cases he : x = y
    · subst he; rw [if_pos rfl]; unfold Tb.get; rw [hs]; rfl
    · rw [if_neg he]
  | some i =>
    obtain ⟨hk, hu, hkk, hg, hsl, hi⟩ := Tb.spot_some hs
    have hp := Tb.drop_parts (d := d) hs (hSlot x).toNat
    have hsp : (t.drop d y).spot x = if x = y then none else t.spot x := by
      unfold Tb.spot
      rw [hp.1, hp.2.1, hp.2.2.1]
      by_cases he : x = y
      · subst he; rw [if_pos rfl, hsl, if_pos rfl, if_neg (fun hh => by cases hh.2.1)]
      · rw [if_neg he]
        by_cases hse : (hSlot x).toNat = i
        · rw [if_pos hse, if_pos hse, if_neg (fun hh => by cases hh.2.1), if_neg (fun hh => ?_)]
          exact he (same_handle x0 x1 y0 y1 (by rw [hkk]; exact hh.2.2.1) (by rw [hsl]; exact hse) (by rw [hg, ← hse]; exact hh.2.2.2))
        · rw [if_neg hse, if_neg hse]
    by_cases he : x = y
    · rw [if_pos he] at hsp ⊢
      unfold Tb.get; rw [hsp]; rfl
    · rw [if_neg he] at hsp ⊢
      unfold Tb.get; rw [hsp]
      cases hx : t.spot x with
      | none => rfl
      | some j =>
        obtain ⟨hk2, hu2, hkk2, hg2, hsl2, hj⟩ := Tb.spot_some hx
        have hji : i ≠ j := fun e => by
          subst e
          exact he (same_handle x0 x1 y0 y1 (by rw [hkk, hkk2]) (by rw [hsl, hsl2]) (by rw [hg, hg2]))
        show Option.map _ _ = Option.map _ _
        unfold Tb.drop; rw [hs]; simp only
        rw [List.getElem?_set, if_neg hji]
end
end Go.Proofs.YtamecmklcnohjaaGreat.Sep
namespace Go.Proofs.YtamecmklcnohjaaGreat.Sep
open Go.RowKit
set_option linter.unusedSimpArgs false
set_option linter.unusedVariables false
set_option maxHeartbeats 8000000
attribute [local irreducible] X XE XO XD XDi XDa PV RV DV pt base Spec Sl Mp Keeps Pgs Spc
theorem load_ok (sb : Nat) {P : Int} {m : Mm} {at_ n : Int} (hP0 : 0 ≤ P) (hP : P ≤ 1048576) (h0 : 0 ≤ at_) (h1 : 0 ≤ n) (h2 : at_ + n ≤ P * 4096) (h3 : n ≤ 1048576) :
    Spec Tryz.prog 108 [.pointer (some ⟨sb, 0, none⟩), .int .u64 at_, .int .u64 n] [Spc sb P m] (fun v L => ∃ ob, v = .tuple #[.slice (some ⟨ob, 0, none⟩) n.toNat n.toNat, .int .i64 0] ∧ L = [Spc sb P (ldM m at_ n), Sl (eI .u8) (some ⟨ob, 0, none⟩) n.toNat (rdM m.f at_ n.toNat)]) := by
  have h := Load_spec sb P m at_ n hP0 hP h0 (by omega) h1 (by omega)
  unfold loadV at h
  rwa [if_pos (by unfold fitsI; rw [if_pos (by omega), if_neg (by omega)])] at h
theorem store_ok (A : HP) (sb c : Nat) (a : Option Addr) {P : Int} {m : Mm} {at_ : Int} {bs : List Int} (hV : View A (eI .u8) a bs) (hB : Byt bs) (hc : bs.length ≤ c) (hP0 : 0 ≤ P) (hP : P ≤ 1048576) (h0 : 0 ≤ at_) (h2 : at_ + bs.length ≤ P * 4096) (h3 : bs.length ≤ 1048576) :
    Spec Tryz.prog 111 [.pointer (some ⟨sb, 0, none⟩), .int .u64 at_, .slice a bs.length c] [Spc sb P m, A] (fun v L => v = .int .i64 0 ∧ L = [Spc sb P (stM m at_ bs), A]) := by
  have h := Store_spec A sb c a P m at_ bs hV hB hc (by omega) hP0 hP h0 (by omega)
  unfold storeV at h
  rwa [if_pos (by unfold fitsI; rw [if_pos (by omega), if_neg (by omega)])] at h
end Go.Proofs.YtamecmklcnohjaaGreat.Sep
namespace Go.Proofs.YtamecmklcnohjaaGreat.Sep
open Go.RowKit
set_option linter.unusedSimpArgs false
set_option linter.unusedVariables false
def Ar.created (z : Ar) (p : Int) (r : Nat) : Ar := { z with reg := (z.reg.add none).put z.reg.addH (some r), M := z.M ++ [(r, z.reg.addH, emptySh)], tr := z.tr ++ [(z.reg.addH, p)], rs := if p = 0 then z.rs else z.rs ++ [(p, z.reg.addH)] }
def Ar.alloced (z : Ar) (i : Nat) (b : Nat) (of_ size : Int) (C' : Co) (m' : Mm) (S' : Sh) (at_ e : Int) : Ar := { z with C := C', m := m', M := z.M.set i (b, of_, S'), obj := if e = 0 then z.obj.add (at_, size, of_) else z.obj, rs := if e = 0 then z.rs ++ [(of_, z.obj.addH)] else z.rs }
def mkOf (z : Ar) (of_ : Int) (S : Sh) : MkT := ⟨(S.parts.length : Int), (S.larges.length : Int), topAt S, S.obj, S.pad, of_, ((ofL z.rs of_).length : Int) + 1⟩
def Ar.marked (z : Ar) (of_ : Int) (S : Sh) : Ar := { z with mar := z.mar.add (mkOf z of_ S), rs := z.rs ++ [(of_, z.mar.addH)] }
def inH (z : Ar) (h at_ n : Int) : Int × Int := match z.obj.get h with
  | none => (0, 2)
  | some o => if at_ + n ≤ o.2.1 then (o.1 + at_, 0) else (0, 3)
set_option maxHeartbeats 8000000
attribute [local irreducible] X XE XO XD XDi XDa PV RV DV pt base Spec Sl Mp Keeps Pg Kc
attribute [local irreducible] Pgs Spc Ck XL XLi Pl Rs Rg View Tbl Tre Ros Star RgOf Arn
theorem ar_create_no (x : ABl) (z : Ar) {N : Nat} (hA : AOk N z) (p : Int) (h0 : 0 ≤ p) (h1 : p ≤ 18446744073709551615) (hp : p ≠ 0) (hg : z.reg.get p = none) : Spec Tryz.prog 31 [.pointer (some ⟨x.a, 0, none⟩), .int .u64 p] [Arn x z] (fun v L => v = .tuple #[.int .u64 0, .int .i64 2] ∧ L = [Arn x z]) := by
  refine Spec.intro (IsEnt.out) Tryz.func31 rfl Tryz.ntmps31 (by simp) (fun w0 F => ?_)
  simp only [envOf, List.zipIdx, List.map, List.cons_append, List.nil_append, Nat.zero_add, Nat.reduceAdd]
  (repeat refine Z ?_)
  refine XO_call (ar_region x z hA.w p h0 h1) (hk := ?_)
  rintro _ _ ⟨rfl, rfl⟩
  rw [hg]
  (repeat refine Z ?_)
  rw [show (p != 0) = true from by simp [hp]]
  (repeat refine Z ?_)
  refine X_cond rfl (fun _ => ?_) (fun h => by cases h)
  (repeat refine Z ?_)
  refine XE_ret (.inl rfl) (tells_tmps rfl rfl) ⟨_, ⟨rfl, rfl⟩, by exact EN⟩
theorem ar_create (x : ABl) (z : Ar) {N : Nat} (hA : AOk N z) (hN : N + 1 ≤ 100000) (p : Int) (h0 : 0 ≤ p) (h1 : p ≤ 18446744073709551615) (hp : p = 0 ∨ (z.reg.get p).isSome = true) : Spec Tryz.prog 31 [.pointer (some ⟨x.a, 0, none⟩), .int .u64 p] [Arn x z] (fun v L => ∃ r, v = .tuple #[.int .u64 z.reg.addH, .int .i64 0] ∧ L = [Arn x (z.created p r)]) := by
  have hab := Tb.addH_bd hA.rg
  have hane := Tb.addH_ne hA.rg
  have hanw := Tb.addH_new hA.rg
  have hTa := hA.rg.add (by omega) none
  have hni : z.reg.addH ∉ z.tr.map (·.1) := fun h => by have := (hA.tk _).1 h; rw [hanw] at this; cases this
  have hpi : p = 0 ∨ p ∈ z.tr.map (·.1) := by
    rcases hp with h | h
    · exact .inl h
    · exact .inr ((hA.tk p).2 h)
  have htl := hA.tl
  have hrl := hA.rl
  refine Spec.intro (IsEnt.out) Tryz.func31 rfl Tryz.ntmps31 (by simp) (fun w0 F => ?_)
  simp only [envOf, List.zipIdx, List.map, List.cons_append, List.nil_append, Nat.zero_add, Nat.reduceAdd]
  (repeat refine Z ?_)
  refine XO_call (ar_region x z hA.w p h0 h1) (hk := ?_)
  rintro _ _ ⟨rfl, rfl⟩
  (repeat (first | refine Zq ?_ | refine Zs ?_ | refine ZT ?_ | refine ZF ?_ | refine XO_gU (hk := ?_)))
  refine XO_nil ?_
  refine XE_code ?_
  refine X_seq ?_
  refine X_join (ι := Unit) (fun _ => True) (fun _ => [(0, .pointer (some ⟨x.a, 0, none⟩)), (1, .int .u64 p)]) (fun _ => [Arn x z] ++ F) ?_ ?_
  · (repeat refine Z ?_)
    cases hgp : (z.reg.get p).isSome with
    | true =>
      (repeat refine Z ?_)
      refine X_cond rfl (fun h => by cases h) (fun _ => ?_)
      (repeat refine Z ?_)
      exact X_meet () trivial (by exact SBs) (by exact EN)
    | false =>
      have hp0 : p = 0 := by
        rcases hp with h | h
        · exact h
        · rw [hgp] at h; cases h
      (repeat refine Z ?_)
      rw [show (p != 0) = false from by simp [hp0]]
      (repeat refine Z ?_)
      refine X_cond rfl (fun h => by cases h) (fun _ => ?_)
      (repeat refine Z ?_)
      exact X_meet () trivial (by exact SBs) (by exact EN)
  rintro ⟨⟩ -
  refine X_open (A := Arn x z) (by exact FDs) Arn.open ?_
  rintro ⟨⟩ -
  dsimp only [List.cons_append, List.nil_append]
  (repeat refine Z ?_)
  refine XO_call (taddR x.rt z.reg hA.rg (by omega) none) (hk := ?_)
  rintro _ _ ⟨rfl, rfl⟩
  (repeat refine Z ?_)
  (repeat refine ZD ?_)
  refine XD_one (h := ?_)
  refine XDa_dvA (dv_call (rnew_spec x.s z.reg.addH)) (hk := ?_)
  rintro _ _ ⟨_, ⟨r, rfl, rfl⟩, rfl⟩
  refine ⟨by exact KP, ?_⟩
  refine XD_one (h := ?_)
  refine XDa_dvA (dv_call (tsetR x.rt (z.reg.add none) hTa z.reg.addH hab.1 hab.2 (some r))) (hk := ?_)
  (rintro _ _ ⟨_, ⟨rfl, rfl⟩, rfl⟩; refine ⟨by exact KP, ?_⟩)
  (refine XD_end (h := ?_); (repeat refine Z ?_))
  refine XO_call (tr_add x.tt z.tr hA.T z.reg.addH p hane hni hpi (by omega)) (hk := ?_)
  rintro _ _ ⟨rfl, rfl⟩
  (repeat refine Z ?_)
  by_cases hp0 : p = 0
  · refine X_cond rfl (fun h => by simp [hp0] at h) (fun _ => ?_)
    (repeat refine Z ?_)
    refine XE_fold (S := [Rg r x.s z.reg.addH emptySh, Star (RgOf x.s) z.M]) (by exact FAs) Rgs.snoc ?_
    have hz : z.created p r = { z with reg := (z.reg.add none).put z.reg.addH (some r), M := z.M ++ [(r, z.reg.addH, emptySh)], tr := z.tr ++ [(z.reg.addH, p)] } := by unfold Ar.created; rw [if_pos hp0]
    refine XE_fold (by exact FAs) (Arn.fold (x := x) (z := { z with reg := (z.reg.add none).put z.reg.addH (some r), M := z.M ++ [(r, z.reg.addH, emptySh)], tr := z.tr ++ [(z.reg.addH, p)] })) ?_
    refine XE_ret (.inl rfl) (tells_tmps rfl rfl) ⟨_, ⟨r, rfl, by rw [hz]⟩, by exact EN⟩
  · refine X_cond rfl (fun _ => ?_) (fun h => by simp [hp0] at h)
    (repeat refine Z ?_)
    refine XO_call (ros_add x.rr z.rs p z.reg.addH (by omega)) (hk := ?_)
    rintro _ _ ⟨rfl, rfl⟩
    (repeat refine Z ?_)
    refine XE_fold (S := [Rg r x.s z.reg.addH emptySh, Star (RgOf x.s) z.M]) (by exact FAs) Rgs.snoc ?_
    have hz : z.created p r = { z with reg := (z.reg.add none).put z.reg.addH (some r), M := z.M ++ [(r, z.reg.addH, emptySh)], tr := z.tr ++ [(z.reg.addH, p)], rs := z.rs ++ [(p, z.reg.addH)] } := by unfold Ar.created; rw [if_neg hp0]
    refine XE_fold (by exact FAs) (Arn.fold (x := x) (z := { z with reg := (z.reg.add none).put z.reg.addH (some r), M := z.M ++ [(r, z.reg.addH, emptySh)], tr := z.tr ++ [(z.reg.addH, p)], rs := z.rs ++ [(p, z.reg.addH)] })) ?_
    refine XE_ret (.inl rfl) (tells_tmps rfl rfl) ⟨_, ⟨r, rfl, by rw [hz]⟩, by exact EN⟩
theorem ar_alloc (x : ABl) (z : Ar) {N : Nat} (hA : AOk N z) (hN : N + 1 ≤ 100000) {i b : Nat} {of_ : Int} {S : Sh} (hq : z.M[i]? = some (b, of_, S)) (size align : Int) (h0 : 0 ≤ size) (h1 : size ≤ 18446744073709551615) (h2 : 0 ≤ align) (h3 : align ≤ 18446744073709551615) {C' : Co} {m' : Mm} {S' : Sh} {at_ e : Int} (har : AR z.P z.C z.m S of_ size align C' m' S' at_ e) :
    Spec Tryz.prog 32 [.pointer (some ⟨x.a, 0, none⟩), .int .u64 of_, .int .u64 size, .int .u64 align] [Arn x z] (fun v L => v = .tuple #[.int .u64 (if e = 0 then z.obj.addH else 0), .int .i64 e] ∧ L = [Arn x (z.alloced i b of_ size C' m' S' at_ e)]) := by
  have hqm := List.mem_of_getElem? hq
  have hob := hA.hb _ hqm
  have hgo := hA.own _ hqm
  have hR := hA.R.one hq
  have hil : i < z.M.length := (List.getElem?_eq_some_iff.1 hq).1
  have hrl := hA.rl
  dsimp only at hob hgo hR
  refine Spec.intro (IsEnt.out) Tryz.func32 rfl Tryz.ntmps32 (by simp) (fun w0 F => ?_)
  simp only [envOf, List.zipIdx, List.map, List.cons_append, List.nil_append, Nat.zero_add, Nat.reduceAdd]
  (repeat refine Z ?_)
  refine XO_call (ar_region x z hA.w of_ hob.1 hob.2) (hk := ?_)
  rintro _ _ ⟨rfl, rfl⟩
  rw [hgo]
  (repeat refine Z ?_)
  refine X_cond rfl (fun h => by cases h) (fun _ => ?_)
  refine X_open (A := Arn x z) (by exact FDs) Arn.open ?_
  rintro ⟨⟩ -
  refine X_open (A := Star (RgOf x.s) z.M) (by exact FDs) (Rgs.out hq) ?_
  rintro ⟨⟩ -
  dsimp only [List.cons_append, List.nil_append]
  (repeat refine Z ?_)
  refine XO_call (ralloc_spec b x.s x.sb hR (by omega) h0 h1 h2 h3 har) (hk := ?_)
  rintro _ _ ⟨rfl, rfl⟩
  (repeat refine Z ?_)
  by_cases he : e = 0
  · refine X_cond rfl (fun h => by simp [he] at h) (fun _ => ?_)
    have hz : z.alloced i b of_ size C' m' S' at_ e = { z with C := C', m := m', M := z.M.set i (b, of_, S'), obj := z.obj.add (at_, size, of_), rs := z.rs ++ [(of_, z.obj.addH)] } := by unfold Ar.alloced; rw [if_pos he, if_pos he]
    rw [hz, if_pos he]
    (repeat refine Z ?_)
    refine XO_call (taddO x.ot z.obj hA.ob (by omega) (at_, size, of_)) (hk := ?_)
    rintro _ _ ⟨rfl, rfl⟩
    (repeat refine Z ?_)
    refine XO_call (ros_add x.rr z.rs of_ z.obj.addH (by omega)) (hk := ?_)
    rintro _ _ ⟨rfl, rfl⟩
    (repeat refine Z ?_)
    refine XE_fold (S := [Rg b x.s of_ S', Star (RgOf x.s) (z.M.eraseIdx i)]) (by exact FAs) (Rgs.back hil) ?_
    refine XE_fold (by exact FAs) (Arn.fold (x := x) (z := { z with C := C', m := m', M := z.M.set i (b, of_, S'), obj := z.obj.add (at_, size, of_), rs := z.rs ++ [(of_, z.obj.addH)] })) ?_
    rw [he]
    refine XE_ret (.inl rfl) (tells_tmps rfl rfl) ⟨_, ⟨rfl, rfl⟩, by exact EN⟩
  · refine X_cond rfl (fun _ => ?_) (fun h => by simp [he] at h)
    have hz : z.alloced i b of_ size C' m' S' at_ e = { z with C := C', m := m', M := z.M.set i (b, of_, S') } := by unfold Ar.alloced; rw [if_neg he, if_neg he]
    rw [hz, if_neg he]
    (repeat refine Z ?_)
    refine XE_fold (S := [Rg b x.s of_ S', Star (RgOf x.s) (z.M.eraseIdx i)]) (by exact FAs) (Rgs.back hil) ?_
    refine XE_fold (by exact FAs) (Arn.fold (x := x) (z := { z with C := C', m := m', M := z.M.set i (b, of_, S') })) ?_
    refine XE_ret (.inl rfl) (tells_tmps rfl rfl) ⟨_, ⟨rfl, rfl⟩, by exact EN⟩
theorem ar_alloc_no (x : ABl) (z : Ar) {N : Nat} (hA : AOk N z) (of_ size align : Int) (h0 : 0 ≤ of_) (h1 : of_ ≤ 18446744073709551615) (hg : z.reg.get of_ = none) :
    Spec Tryz.prog 32 [.pointer (some ⟨x.a, 0, none⟩), .int .u64 of_, .int .u64 size, .int .u64 align] [Arn x z] (fun v L => v = .tuple #[.int .u64 0, .int .i64 2] ∧ L = [Arn x z]) := by
  refine Spec.intro (IsEnt.out) Tryz.func32 rfl Tryz.ntmps32 (by simp) (fun w0 F => ?_)
  simp only [envOf, List.zipIdx, List.map, List.cons_append, List.nil_append, Nat.zero_add, Nat.reduceAdd]
  (repeat refine Z ?_)
  refine XO_call (ar_region x z hA.w of_ h0 h1) (hk := ?_)
  rintro _ _ ⟨rfl, rfl⟩
  rw [hg]
  (repeat refine Z ?_)
  refine X_cond rfl (fun _ => ?_) (fun h => by cases h)
  (repeat refine Z ?_)
  refine XE_ret (.inl rfl) (tells_tmps rfl rfl) ⟨_, ⟨rfl, rfl⟩, by exact EN⟩
theorem ar_mark_no (x : ABl) (z : Ar) {N : Nat} (hA : AOk N z) (of_ : Int) (h0 : 0 ≤ of_) (h1 : of_ ≤ 18446744073709551615) (hg : z.reg.get of_ = none) :
    Spec Tryz.prog 36 [.pointer (some ⟨x.a, 0, none⟩), .int .u64 of_] [Arn x z] (fun v L => v = .tuple #[.int .u64 0, .int .i64 2] ∧ L = [Arn x z]) := by
  refine Spec.intro (IsEnt.out) Tryz.func36 rfl Tryz.ntmps36 (by simp) (fun w0 F => ?_)
  simp only [envOf, List.zipIdx, List.map, List.cons_append, List.nil_append, Nat.zero_add, Nat.reduceAdd]
  (repeat refine Z ?_)
  refine XO_call (ar_region x z hA.w of_ h0 h1) (hk := ?_)
  rintro _ _ ⟨rfl, rfl⟩
  rw [hg]
  (repeat refine Z ?_)
  refine X_cond rfl (fun _ => ?_) (fun h => by cases h)
  (repeat refine Z ?_)
  refine XE_ret (.inl rfl) (tells_tmps rfl rfl) ⟨_, ⟨rfl, rfl⟩, by exact EN⟩
theorem ar_mark (x : ABl) (z : Ar) {N : Nat} (hA : AOk N z) (hN : N + 1 ≤ 100000) {i b : Nat} {of_ : Int} {S : Sh} (hq : z.M[i]? = some (b, of_, S)) :
    Spec Tryz.prog 36 [.pointer (some ⟨x.a, 0, none⟩), .int .u64 of_] [Arn x z] (fun v L => v = .tuple #[.int .u64 z.mar.addH, .int .i64 0] ∧ L = [Arn x (z.marked of_ S)]) := by
  have hqm := List.mem_of_getElem? hq
  have hob := hA.hb _ hqm
  have hgo := hA.own _ hqm
  have hR := hA.R.one hq
  have hlen := hR.len
  have hrl := hA.rl
  have hol := length_ofL_le z.rs of_
  dsimp only at hob hgo hR hlen
  refine Spec.intro (IsEnt.out) Tryz.func36 rfl Tryz.ntmps36 (by simp) (fun w0 F => ?_)
  simp only [envOf, List.zipIdx, List.map, List.cons_append, List.nil_append, Nat.zero_add, Nat.reduceAdd]
  (repeat refine Z ?_)
  refine XO_call (ar_region x z hA.w of_ hob.1 hob.2) (hk := ?_)
  rintro _ _ ⟨rfl, rfl⟩
  rw [hgo]
  (repeat refine Z ?_)
  refine X_cond rfl (fun h => by cases h) (fun _ => ?_)
  refine X_open (A := Arn x z) (by exact FDs) Arn.open ?_
  rintro ⟨⟩ -
  refine X_open (A := Star (RgOf x.s) z.M) (by exact FDs) (Rgs.out hq) ?_
  rintro ⟨⟩ -
  dsimp only [List.cons_append, List.nil_append]
  (repeat refine Z ?_)
  (repeat refine ZD ?_)
  refine XD_one (h := ?_)
  refine XDa_dvA (dv_call (rmark_spec b x.s of_ S hlen.1 hlen.2)) (hk := ?_)
  (rintro _ _ ⟨_, ⟨rfl, rfl⟩, rfl⟩; refine ⟨by exact KP, ?_⟩)
  (repeat refine ZD ?_)
  refine XD_one (h := ?_)
  refine XDa_dvA (dv_call (ros_len x.rr z.rs of_)) (hk := ?_)
  (rintro _ _ ⟨_, ⟨rfl, rfl⟩, rfl⟩; refine ⟨by exact KP, ?_⟩)
  (repeat refine ZD ?_)
  refine Dp (pv_buildG (mkRow (mkOf z of_ S))) ?_
  (repeat refine ZD ?_)
  refine XD_one (h := ?_)
  refine XDa_dvA (dv_call (taddM x.mt z.mar hA.mr (by omega) (mkOf z of_ S))) (hk := ?_)
  (rintro _ _ ⟨_, ⟨rfl, rfl⟩, rfl⟩; refine ⟨by exact KP, ?_⟩)
  (repeat refine ZD ?_)
  (refine XD_one (h := ?_); refine XDa_dvA (dv_of_rv (rv_of_pv pv_assign)) (hk := ?_); rintro _ _ ⟨rfl, rfl⟩; refine ⟨by exact KP, ?_⟩)
  (refine XD_end (h := ?_); (repeat refine Z ?_))
  refine XO_call (ros_add x.rr z.rs of_ z.mar.addH (by omega)) (hk := ?_)
  rintro _ _ ⟨rfl, rfl⟩
  (repeat refine Z ?_)
  refine XE_fold (S := [Rg b x.s of_ S, Star (RgOf x.s) (z.M.eraseIdx i)]) (by exact FAs) (Rgs.same hq) ?_
  refine XE_fold (by exact FAs) (Arn.fold (x := x) (z := z.marked of_ S)) ?_
  refine XE_ret (.inl rfl) (tells_tmps rfl rfl) ⟨_, ⟨rfl, rfl⟩, by exact EN⟩
theorem ar_within (x : ABl) (z : Ar) {N : Nat} (hA : AOk N z) (h at_ n : Int) (h0 : 0 ≤ h) (h1 : h ≤ 18446744073709551615) (a0 : 0 ≤ at_) (a1 : at_ ≤ 18446744073709551615) (n0 : 0 ≤ n) (n1 : n ≤ 18446744073709551615) : Spec Tryz.prog 107 [.pointer (some ⟨x.a, 0, none⟩), .int .u64 h, .int .u64 at_, .int .u64 n] [Arn x z] (fun v L => v = .tuple #[.int .u64 (inH z h at_ n).1, .int .i64 (inH z h at_ n).2] ∧ L = [Arn x z]) := by
  have hP := hA.P
  refine Spec.intro (IsEnt.out) Tryz.func107 rfl Tryz.ntmps107 (by simp) (fun w0 F => ?_)
  simp only [envOf, List.zipIdx, List.map, List.cons_append, List.nil_append, Nat.zero_add, Nat.reduceAdd]
  (repeat refine Z ?_)
  refine XO_call (ar_object x z hA h h0 h1) (hk := ?_)
  rintro _ _ ⟨rfl, rfl⟩
  have hpl := hA.pl h
  unfold inH
  cases hg : z.obj.get h with
  | none =>
    rw [Option.getD_none]
    dsimp only [Option.isSome]
    (repeat refine Z ?_)
    refine XO_dv dv_alloc (hk := ?_)
    rintro _ _ ⟨rb, rfl, rfl⟩
    refine XO_dv0 (dv_storeW (vs := eTO.cells (0, 0, 0))) (hk := ?_)
    rintro _ _ rfl
    (repeat refine Z ?_)
    refine X_cond rfl (fun _ => ?_) (fun h => by cases h)
    (repeat refine Z ?_)
    refine XE_ret (.inl rfl) (tells_tmps rfl rfl) ⟨_, ⟨rfl, rfl⟩, by exact EN⟩
  | some o =>
    have hpo := hpl o hg
    rw [Option.getD_some]
    dsimp only [Option.isSome]
    (repeat refine Z ?_)
    refine XO_dv dv_alloc (hk := ?_)
    rintro _ _ ⟨rb, rfl, rfl⟩
    refine XO_dv0 (dv_storeW (vs := eTO.cells o)) (hk := ?_)
    rintro _ _ rfl
    (repeat refine Z ?_)
    refine X_cond rfl (fun h => by cases h) (fun _ => ?_)
    (repeat refine Z ?_)
    refine XO_call (in_spec at_ n o.2.1 a0 a1 n0 n1 (by omega) (by omega)) (hk := ?_)
    rintro _ _ ⟨rfl, rfl⟩
    by_cases hin : at_ + n ≤ o.2.1
    · rw [if_pos hin, decide_eq_true hin]
      (repeat refine Z ?_)
      refine X_cond rfl (fun h => by cases h) (fun _ => ?_)
      (repeat refine Z ?_)
      refine XE_ret (.inl rfl) (tells_tmps rfl rfl) ⟨_, ⟨rfl, rfl⟩, by exact EN⟩
    · rw [if_neg hin, decide_eq_false hin]
      (repeat refine Z ?_)
      refine X_cond rfl (fun _ => ?_) (fun h => by cases h)
      (repeat refine Z ?_)
      refine XE_ret (.inl rfl) (tells_tmps rfl rfl) ⟨_, ⟨rfl, rfl⟩, by exact EN⟩
def rdE (z : Ar) (h at_ n : Int) : Int := if (inH z h at_ n).2 = 0 then (if 1048576 < n then 1 else 0) else (inH z h at_ n).2
theorem inH_some {z : Ar} {h at_ n : Int} (h0 : (inH z h at_ n).2 = 0) : ∃ o, z.obj.get h = some o ∧ at_ + n ≤ o.2.1 ∧ (inH z h at_ n).1 = o.1 + at_ := by
  unfold inH at h0 ⊢
  cases hg : z.obj.get h with
  | none => rw [hg] at h0; simp at h0
  | some o =>
    rw [hg] at h0
    by_cases hin : at_ + n ≤ o.2.1
    · exact ⟨o, rfl, hin, by simp [hin]⟩
    · simp [hin] at h0
theorem ar_read_ok (x : ABl) (z : Ar) {N : Nat} (hA : AOk N z) (h at_ n : Int) (h0 : 0 ≤ h) (h1 : h ≤ 18446744073709551615) (a0 : 0 ≤ at_) (a1 : at_ ≤ 18446744073709551615) (n0 : 0 ≤ n) (n1 : n ≤ 18446744073709551615) (he : rdE z h at_ n = 0) :
    Spec Tryz.prog 41 [.pointer (some ⟨x.a, 0, none⟩), .int .u64 h, .int .u64 at_, .int .u64 n] [Arn x z] (fun v L => ∃ ob, v = .tuple #[.slice (some ⟨ob, 0, none⟩) n.toNat n.toNat, .int .i64 0] ∧ L = [Arn x { z with m := ldM z.m (inH z h at_ n).1 n }, Sl (eI .u8) (some ⟨ob, 0, none⟩) n.toNat (rdM z.m.f (inH z h at_ n).1 n.toNat)]) := by
  have hP := hA.P
  have hi0 : (inH z h at_ n).2 = 0 := by unfold rdE at he; split at he <;> first | assumption | (rename_i hh; exact absurd he hh)
  have hn : n ≤ 1048576 := by unfold rdE at he; rw [if_pos hi0] at he; split at he <;> omega
  obtain ⟨o, hgo, hin, hi1⟩ := inH_some hi0
  have hpo := hA.pl h o hgo
  refine Spec.intro (IsEnt.out) Tryz.func41 rfl Tryz.ntmps41 (by simp) (fun w0 F => ?_)
  simp only [envOf, List.zipIdx, List.map, List.cons_append, List.nil_append, Nat.zero_add, Nat.reduceAdd]
  (repeat refine Z ?_)
  refine XO_call (ar_within x z hA h at_ n h0 h1 a0 a1 n0 n1) (hk := ?_)
  rintro _ _ ⟨rfl, rfl⟩
  rw [hi0, hi1]
  (repeat refine Z ?_)
  refine X_cond rfl (fun h => by cases h) (fun _ => ?_)
  refine X_open (A := Arn x z) (by exact FDs) Arn.open ?_
  rintro ⟨⟩ -
  dsimp only [List.cons_append, List.nil_append]
  (repeat refine Z ?_)
  refine XO_call (kspace_spec x.s x.sb z.C) (hk := ?_)
  rintro _ _ ⟨rfl, rfl⟩
  (repeat refine Z ?_)
  refine XO_call (load_ok x.sb (P := z.P) (m := z.m) (at_ := o.1 + at_) (n := n) (by omega) hP.2 (by omega) n0 (by omega) hn) (hk := ?_)
  rintro _ _ ⟨ob, rfl, rfl⟩
  (repeat refine Z ?_)
  refine XE_fold (by exact FAs) (Arn.fold (x := x) (z := { z with m := ldM z.m (o.1 + at_) n })) ?_
  refine XE_ret (.inl rfl) (tells_tmps rfl rfl) ⟨_, ⟨ob, rfl, rfl⟩, by exact EN⟩
theorem ar_read_no (x : ABl) (z : Ar) {N : Nat} (hA : AOk N z) (h at_ n : Int) (h0 : 0 ≤ h) (h1 : h ≤ 18446744073709551615) (a0 : 0 ≤ at_) (a1 : at_ ≤ 18446744073709551615) (n0 : 0 ≤ n) (n1 : n ≤ 18446744073709551615) (he : rdE z h at_ n ≠ 0) :
    Spec Tryz.prog 41 [.pointer (some ⟨x.a, 0, none⟩), .int .u64 h, .int .u64 at_, .int .u64 n] [Arn x z] (fun v L => v = .tuple #[.slice none 0 0, .int .i64 (rdE z h at_ n)] ∧ L = [Arn x z]) := by
  have hP := hA.P
  refine Spec.intro (IsEnt.out) Tryz.func41 rfl Tryz.ntmps41 (by simp) (fun w0 F => ?_)
  simp only [envOf, List.zipIdx, List.map, List.cons_append, List.nil_append, Nat.zero_add, Nat.reduceAdd]
  (repeat refine Z ?_)
  refine XO_call (ar_within x z hA h at_ n h0 h1 a0 a1 n0 n1) (hk := ?_)
  rintro _ _ ⟨rfl, rfl⟩
  (repeat refine Z ?_)
  by_cases hi0 : (inH z h at_ n).2 = 0
  · have hre : rdE z h at_ n = if 1048576 < n then 1 else 0 := by unfold rdE; rw [if_pos hi0]
    have hn : 1048576 < n := by rw [hre] at he; split at he <;> first | assumption | (exact absurd rfl he)
    obtain ⟨o, hgo, hin, hi1⟩ := inH_some hi0
    have hpo := hA.pl h o hgo
    rw [hre, if_pos hn, hi0, hi1]
    refine X_cond rfl (fun h => by cases h) (fun _ => ?_)
    refine X_open (A := Arn x z) (by exact FDs) Arn.open ?_
    rintro ⟨⟩ -
    dsimp only [List.cons_append, List.nil_append]
    (repeat refine Z ?_)
    refine XO_call (kspace_spec x.s x.sb z.C) (hk := ?_)
    rintro _ _ ⟨rfl, rfl⟩
    (repeat refine Z ?_)
    have hld := Load_spec x.sb z.P z.m (o.1 + at_) n (by omega) hP.2 (by omega) (by omega) n0 n1
    have hf : fitsI z.P (o.1 + at_) n 1048576 = 1 := by unfold fitsI; rw [if_pos (by omega), if_pos hn]
    unfold loadV at hld
    rw [if_neg (by rw [hf]; decide), hf] at hld
    refine XO_call hld (hk := ?_)
    rintro _ _ ⟨rfl, rfl⟩
    (repeat refine Z ?_)
    refine XE_fold (by exact FAs) (Arn.fold (x := x) (z := z)) ?_
    refine XE_ret (.inl rfl) (tells_tmps rfl rfl) ⟨_, ⟨rfl, rfl⟩, by exact EN⟩
  · have hre : rdE z h at_ n = (inH z h at_ n).2 := by unfold rdE; rw [if_neg hi0]
    rw [hre]
    refine X_cond rfl (fun _ => ?_) (fun h => by simp [hi0] at h)
    (repeat refine Z ?_)
    refine XE_ret (.inl rfl) (tells_tmps rfl rfl) ⟨_, ⟨rfl, rfl⟩, by exact EN⟩
theorem ar_write_ok (A : HP) (x : ABl) (z : Ar) {N : Nat} (hA : AOk N z) (h at_ : Int) (a : Option Addr) (c : Nat) {bs : List Int} (hV : View A (eI .u8) a bs) (hB : Byt bs) (hc : bs.length ≤ c) (h0 : 0 ≤ h) (h1 : h ≤ 18446744073709551615) (a0 : 0 ≤ at_) (a1 : at_ ≤ 18446744073709551615) (hl : bs.length ≤ 1048576) (he : (inH z h at_ bs.length).2 = 0) :
    Spec Tryz.prog 43 [.pointer (some ⟨x.a, 0, none⟩), .int .u64 h, .int .u64 at_, .slice a bs.length c] [Arn x z, A] (fun v L => v = .int .i64 0 ∧ L = [Arn x { z with m := stM z.m (inH z h at_ bs.length).1 bs }, A]) := by
  have hP := hA.P
  obtain ⟨o, hgo, hin, hi1⟩ := inH_some he
  have hpo := hA.pl h o hgo
  refine Spec.intro (IsEnt.out) Tryz.func43 rfl Tryz.ntmps43 (by simp) (fun w0 F => ?_)
  simp only [envOf, List.zipIdx, List.map, List.cons_append, List.nil_append, Nat.zero_add, Nat.reduceAdd]
  (repeat refine Z ?_)
  refine XO_call (ar_within x z hA h at_ bs.length h0 h1 a0 a1 (by omega) (by omega)) (hk := ?_)
  rintro _ _ ⟨rfl, rfl⟩
  rw [he, hi1]
  (repeat refine Z ?_)
  refine X_cond rfl (fun h => by cases h) (fun _ => ?_)
  refine X_open (A := Arn x z) (by exact FDs) Arn.open ?_
  rintro ⟨⟩ -
  dsimp only [List.cons_append, List.nil_append]
  (repeat refine Z ?_)
  refine XO_call (kspace_spec x.s x.sb z.C) (hk := ?_)
  rintro _ _ ⟨rfl, rfl⟩
  (repeat refine Z ?_)
  refine XO_call (store_ok A x.sb c a (P := z.P) (m := z.m) (at_ := o.1 + at_) hV hB hc (by omega) hP.2 (by omega) (by omega) hl) (hk := ?_)
  rintro _ _ ⟨rfl, rfl⟩
  (repeat refine Z ?_)
  refine XE_fold (by exact FAs) (Arn.fold (x := x) (z := { z with m := stM z.m (o.1 + at_) bs })) ?_
  refine XE_ret (.inl rfl) (tells_tmps rfl rfl) ⟨_, ⟨rfl, rfl⟩, by exact EN⟩
theorem ar_write_no (A : HP) (x : ABl) (z : Ar) {N : Nat} (hA : AOk N z) (h at_ : Int) (a : Option Addr) (n c : Nat) (hn : n ≤ 1048576) (h0 : 0 ≤ h) (h1 : h ≤ 18446744073709551615) (a0 : 0 ≤ at_) (a1 : at_ ≤ 18446744073709551615) (he : (inH z h at_ n).2 ≠ 0) :
    Spec Tryz.prog 43 [.pointer (some ⟨x.a, 0, none⟩), .int .u64 h, .int .u64 at_, .slice a n c] [Arn x z, A] (fun v L => v = .int .i64 (inH z h at_ n).2 ∧ L = [Arn x z, A]) := by
  refine Spec.intro (IsEnt.out) Tryz.func43 rfl Tryz.ntmps43 (by simp) (fun w0 F => ?_)
  simp only [envOf, List.zipIdx, List.map, List.cons_append, List.nil_append, Nat.zero_add, Nat.reduceAdd]
  (repeat refine Z ?_)
  refine XO_call (ar_within x z hA h at_ n h0 h1 a0 a1 (by omega) (by omega)) (hk := ?_)
  rintro _ _ ⟨rfl, rfl⟩
  (repeat refine Z ?_)
  refine X_cond rfl (fun _ => ?_) (fun h => by simp [he] at h)
  (repeat refine Z ?_)
  refine XE_ret (.inl rfl) (tells_tmps rfl rfl) ⟨_, ⟨rfl, rfl⟩, by exact EN⟩
end Go.Proofs.YtamecmklcnohjaaGreat.Sep
namespace Go.Proofs.YtamecmklcnohjaaGreat.Sep
open Go.RowKit
set_option linter.unusedSimpArgs false
set_option linter.unusedVariables false
def Ar.giveH (z : Ar) (h : Int) : Ar := if hKind h = 1 then z else if hKind h = 2 then { z with obj := z.obj.drop (0, 0, 0) h } else { z with mar := z.mar.drop ⟨0, 0, 0, 0, 0, 0, 0⟩ h }
def Ar.give0 (z : Ar) (of_ : Int) (n : Nat) : Ar := ((ofL z.rs of_).drop n).reverse.foldl Ar.giveH { z with rs := cutW z.rs of_ n }
theorem AOk.le {N N' : Nat} {z : Ar} (h : AOk N z) (hl : N ≤ N') (hN : N' ≤ 100000) : AOk N' z :=
  ⟨hN, h.R.le hl, h.rg.le hl (by omega), h.ob.le hl (by omega), h.mr.le hl (by omega), h.k1, h.k2, h.k3, h.T, Nat.le_trans h.tl hl, Nat.le_trans h.rl hl, h.live, h.own, h.hb, h.nd, h.tk, h.pl, h.rb⟩
theorem AOk.giveH {N : Nat} {z : Ar} (h : AOk N z) (hN : N + 1 ≤ 100000) {x : Int} (x0 : 0 ≤ x) (x1 : x ≤ 18446744073709551615) : AOk (N + 1) (z.giveH x) := by
  unfold Ar.giveH
  split
  · exact h.le (Nat.le_succ _) hN
  · split
    · have hd := h.ob.drop (by omega) (0, 0, 0) x
      have hk : (z.obj.drop (0, 0, 0) x).kind = 2 := by
        cases hs : z.obj.spot x with
        | none => unfold Tb.drop; rw [hs]; exact h.k2
        | some i => rw [(Tb.drop_parts (d := (0, 0, 0)) hs 0).2.2.1]; exact h.k2
      refine ⟨hN, h.R.le (Nat.le_succ _), h.rg.le (Nat.le_succ _) (by omega), hd, h.mr.le (Nat.le_succ _) (by omega), h.k1, hk, h.k3, h.T, Nat.le_succ_of_le h.tl, Nat.le_succ_of_le h.rl, h.live, h.own, h.hb, h.nd, h.tk, fun y o hy => ?_, h.rb⟩
      obtain ⟨i, hsi, hoi⟩ := Tb.get_some hy
      obtain ⟨_, hu, hkk, hg, hsl, hi⟩ := Tb.spot_some hsi
      -- what is found was found before
      cases hs : z.obj.spot x with
      | none =>
        have e1 : z.obj.drop (0, 0, 0) x = z.obj := by unfold Tb.drop; rw [hs]
        have hy' : (z.obj.drop (0, 0, 0) x).get y = some o := hy
        rw [e1] at hy'; exact h.pl y o hy'
      | some j =>
        have hp := Tb.drop_parts (d := ((0 : Int), (0 : Int), (0 : Int))) hs i
        have hu' : (z.obj.drop (0, 0, 0) x).usedAt i = true := hu
        rw [hp.1] at hu'
        have hij : i ≠ j := fun e => by rw [if_pos e] at hu'; cases hu'
        rw [if_neg hij] at hu'
        have hg' : hGen y = (z.obj.drop (0, 0, 0) x).genAt i := hg
        rw [hp.2.1, if_neg hij] at hg'
        have hkk' : hKind y = (z.obj.drop (0, 0, 0) x).kind := hkk
        rw [hp.2.2.1] at hkk'
        have hsp : z.obj.spot y = some i := by
          unfold Tb.spot
          rw [hsl, if_pos ⟨by rw [hkk', h.k2]; decide, hu', hkk', hg'⟩]
        obtain ⟨v, hv, hv2⟩ := Tb.spot_get hsp
        have hoi' : (z.obj.drop (0, 0, 0) x).slots[i]?.map (·.1) = some o := hoi
        have : (z.obj.drop (0, 0, 0) x).slots[i]? = z.obj.slots[i]? := by
          unfold Tb.drop; rw [hs]; simp only; rw [List.getElem?_set, if_neg (fun e => hij e.symm)]
        rw [this, hv2] at hoi'
        obtain rfl : v = o := Option.some.inj hoi'
        exact h.pl y v hv
    · have hd := h.mr.drop (by omega) ⟨0, 0, 0, 0, 0, 0, 0⟩ x
      have hk : (z.mar.drop ⟨0, 0, 0, 0, 0, 0, 0⟩ x).kind = 3 := by
        cases hs : z.mar.spot x with
        | none => unfold Tb.drop; rw [hs]; exact h.k3
        | some i => rw [(Tb.drop_parts (d := (⟨0, 0, 0, 0, 0, 0, 0⟩ : MkT)) hs 0).2.2.1]; exact h.k3
      exact ⟨hN, h.R.le (Nat.le_succ _), h.rg.le (Nat.le_succ _) (by omega), h.ob.le (Nat.le_succ _) (by omega), hd, h.k1, h.k2, hk, h.T, Nat.le_succ_of_le h.tl, Nat.le_succ_of_le h.rl, h.live, h.own, h.hb, h.nd, h.tk, h.pl, h.rb⟩
theorem cutW_sub : ∀ (w : List (Int × Int)) (o : Int) (k : Nat), ∀ q ∈ cutW w o k, q ∈ w
  | [], _, _, q, h => by cases h
  | (a, v) :: w, o, k, q, h => by
    unfold cutW at h
    split at h
    · cases k with
      | zero => exact List.mem_cons.2 (.inr (cutW_sub w o 0 q h))
      | succ k =>
        rcases List.mem_cons.1 h with h1 | h1
        · subst h1; exact List.mem_cons.2 (.inl rfl)
        · exact List.mem_cons.2 (.inr (cutW_sub w o k q h1))
    · rcases List.mem_cons.1 h with h1 | h1
      · subst h1; exact List.mem_cons.2 (.inl rfl)
      · exact List.mem_cons.2 (.inr (cutW_sub w o k q h1))
theorem ofL_val : ∀ (w : List (Int × Int)) (o : Int), ∀ v ∈ ofL w o, (o, v) ∈ w
  | [], _, v, h => by cases h
  | (a, u) :: w, o, v, h => by
    unfold ofL at h
    split at h
    · rename_i e
      rcases List.mem_cons.1 h with h1 | h1
      · subst h1; subst e; exact List.mem_cons.2 (.inl rfl)
      · exact List.mem_cons.2 (.inr (ofL_val w o v h1))
    · exact List.mem_cons.2 (.inr (ofL_val w o v h))
theorem AOk.cut {N : Nat} {z : Ar} (h : AOk N z) (of_ : Int) (n : Nat) : AOk N { z with rs := cutW z.rs of_ n } :=
  ⟨h.hN, h.R, h.rg, h.ob, h.mr, h.k1, h.k2, h.k3, h.T, h.tl, by have h1 := length_cutW z.rs of_ n; have h2 := h.rl; show (cutW z.rs of_ n).length ≤ N; omega, h.live, h.own, h.hb, h.nd, h.tk, h.pl, fun q hq => h.rb q (cutW_sub _ _ _ q hq)⟩
theorem AOk.fold {l : List Int} (hb : ∀ x ∈ l, 0 ≤ x ∧ x ≤ 18446744073709551615) : ∀ {N : Nat} {z : Ar}, AOk N z → N + l.length ≤ 100000 → AOk (N + l.length) (l.foldl Ar.giveH z) := by
  induction l with
  | nil => intro N z h _; exact h
  | cons x l ih =>
    intro N z h hN
    simp only [List.length_cons] at hN
    have h1 := h.giveH (by omega) (hb x (by simp)).1 (hb x (by simp)).2
    have := ih (fun y hy => hb y (by simp [hy])) h1 (by omega)
    simp only [List.foldl_cons, List.length_cons]
    rw [show N + (l.length + 1) = N + 1 + l.length from by omega]
    exact this
theorem giveH_reg (z : Ar) (x : Int) : (z.giveH x).reg = z.reg ∧ (z.giveH x).M = z.M ∧ (z.giveH x).C = z.C ∧ (z.giveH x).m = z.m ∧ (z.giveH x).P = z.P ∧ (z.giveH x).tr = z.tr ∧ (z.giveH x).rs = z.rs := by
  unfold Ar.giveH; split
  · exact ⟨rfl, rfl, rfl, rfl, rfl, rfl, rfl⟩
  · split <;> exact ⟨rfl, rfl, rfl, rfl, rfl, rfl, rfl⟩
theorem fold_reg : ∀ (l : List Int) (z : Ar), (l.foldl Ar.giveH z).reg = z.reg ∧ (l.foldl Ar.giveH z).M = z.M ∧ (l.foldl Ar.giveH z).C = z.C ∧ (l.foldl Ar.giveH z).m = z.m ∧ (l.foldl Ar.giveH z).P = z.P ∧ (l.foldl Ar.giveH z).tr = z.tr ∧ (l.foldl Ar.giveH z).rs = z.rs
  | [], z => ⟨rfl, rfl, rfl, rfl, rfl, rfl, rfl⟩
  | x :: l, z => by
    have h1 := giveH_reg z x
    have h2 := fold_reg l (z.giveH x)
    simp only [List.foldl_cons]
    exact ⟨h2.1.trans h1.1, h2.2.1.trans h1.2.1, h2.2.2.1.trans h1.2.2.1, h2.2.2.2.1.trans h1.2.2.2.1, h2.2.2.2.2.1.trans h1.2.2.2.2.1, h2.2.2.2.2.2.1.trans h1.2.2.2.2.2.1, h2.2.2.2.2.2.2.trans h1.2.2.2.2.2.2⟩
theorem giveH_tr (z : Ar) (T : List (Int × Int)) (x : Int) : ({ z with tr := T } : Ar).giveH x = { z.giveH x with tr := T } := by
  unfold Ar.giveH
  dsimp only
  split
  · rfl
  · split <;> rfl
theorem AOw.le {N N' : Nat} {z : Ar} (h : AOw N z) (hl : N ≤ N') (hN : N' ≤ 100000) : AOw N' z := by obtain ⟨T, h⟩ := h; exact ⟨T, h.le hl hN⟩
theorem AOw.giveH {N : Nat} {z : Ar} (h : AOw N z) (hN : N + 1 ≤ 100000) {x : Int} (x0 : 0 ≤ x) (x1 : x ≤ 18446744073709551615) : AOw (N + 1) (z.giveH x) := by
  obtain ⟨T, h⟩ := h
  have := h.giveH hN x0 x1
  rw [giveH_tr] at this
  exact ⟨T, this⟩
theorem AOw.cut {N : Nat} {z : Ar} (h : AOw N z) (of_ : Int) (n : Nat) : AOw N { z with rs := cutW z.rs of_ n } := by obtain ⟨T, h⟩ := h; exact ⟨T, h.cut of_ n⟩
theorem AOw.fold {l : List Int} (hb : ∀ x ∈ l, 0 ≤ x ∧ x ≤ 18446744073709551615) : ∀ {N : Nat} {z : Ar}, AOw N z → N + l.length ≤ 100000 → AOw (N + l.length) (l.foldl Ar.giveH z) := by
  induction l with
  | nil => intro N z h _; exact h
  | cons x l ih =>
    intro N z h hN
    simp only [List.length_cons] at hN
    have h1 := h.giveH (by omega) (hb x (by simp)).1 (hb x (by simp)).2
    have := ih (fun y hy => hb y (by simp [hy])) h1 (by omega)
    simp only [List.foldl_cons, List.length_cons]
    rw [show N + (l.length + 1) = N + 1 + l.length from by omega]
    exact this
set_option maxHeartbeats 8000000
attribute [local irreducible] X XE XO XD XDi XDa PV RV DV pt base Spec Sl Mp Keeps Pg Kc
attribute [local irreducible] Pgs Spc Ck XL XLi Pl Rs Rg View Tbl Tre Ros Star RgOf Arn
theorem ar_free_no (x : ABl) (z : Ar) {N : Nat} (hA : AOw N z) (h : Int) (h0 : 0 ≤ h) (h1 : h ≤ 18446744073709551615) (hg : z.reg.get h = none) : Spec Tryz.prog 33 [.pointer (some ⟨x.a, 0, none⟩), .int .u64 h] [Arn x z] (fun v L => v = .int .i64 2 ∧ L = [Arn x z]) := by
  refine Spec.intro (IsEnt.out) Tryz.func33 rfl Tryz.ntmps33 (by simp) (fun w0 F => ?_)
  simp only [envOf, List.zipIdx, List.map, List.cons_append, List.nil_append, Nat.zero_add, Nat.reduceAdd]
  (repeat refine Z ?_)
  refine XO_dv dv_box1 (hk := ?_)
  rintro _ _ ⟨cb, rfl, rfl⟩
  (repeat refine Z ?_)
  refine XO_call (ar_region x z hA h h0 h1) (hk := ?_)
  rintro _ _ ⟨rfl, rfl⟩
  rw [hg]
  (repeat refine Z ?_)
  refine X_cond rfl (fun _ => ?_) (fun h => by cases h)
  (repeat refine Z ?_)
  refine XE_ret (.inl rfl) (tells_tmps rfl rfl) ⟨_, ⟨rfl, rfl⟩, by exact EN⟩
theorem ar_give0 (x : ABl) (z : Ar) {N : Nat} (hA : AOw N z) (hN : N + N ≤ 100000) (of_ : Int) (n : Nat) (hr : ∀ h ∈ (ofL z.rs of_).drop n, hKind h = 1 → z.reg.get h = none) : Spec Tryz.prog 97 [.pointer (some ⟨x.a, 0, none⟩), .int .u64 of_, .int .i64 n] [Arn x z] (fun v L => v = .tuple #[] ∧ L = [Arn x (z.give0 of_ n)]) := by
  have hrl := hA.rl
  have hol := length_ofL_le z.rs of_
  have hll : ((ofL z.rs of_).drop n).reverse.length ≤ N := by rw [List.length_reverse, List.length_drop]; omega
  have hbl : ∀ y ∈ ((ofL z.rs of_).drop n).reverse, 0 ≤ y ∧ y ≤ 18446744073709551615 := fun y hy => hA.rb _ (ofL_val _ _ _ (List.mem_of_mem_drop (List.mem_reverse.1 hy)))
  have hrl2 : ∀ y ∈ ((ofL z.rs of_).drop n).reverse, hKind y = 1 → z.reg.get y = none := fun y hy => hr y (List.mem_reverse.1 hy)
  have hAc := hA.cut of_ n
  refine Spec.intro (IsEnt.out) Tryz.func97 rfl Tryz.ntmps97 (by simp) (fun w0 F => ?_)
  simp only [envOf, List.zipIdx, List.map, List.cons_append, List.nil_append, Nat.zero_add, Nat.reduceAdd]
  refine X_open (A := Arn x z) (by exact FDs) Arn.open ?_
  rintro ⟨⟩ -
  dsimp only [List.cons_append, List.nil_append]
  (repeat refine Z ?_)
  refine XO_call (ros_cut x.rr z.rs of_ n (by omega) (by omega)) (hk := ?_)
  rintro _ _ ⟨ca, cc, rfl, rfl⟩
  rw [Int.toNat_natCast]
  unfold Ar.give0
  generalize ((ofL z.rs of_).drop n).reverse = l at hll hbl hrl2 ⊢
  refine XO_fold (by exact FAs) (Arn.fold (x := x) (z := { z with rs := cutW z.rs of_ n })) ?_
  generalize hzc : ({ z with rs := cutW z.rs of_ n } : Ar) = zc at hAc ⊢
  have hzr : zc.reg = z.reg := by rw [← hzc]
  (repeat refine Z ?_)
  refine X_loop (ι := Nat) (fun k => k ≤ l.length) (fun k => [(0, .pointer (some ⟨x.a, 0, none⟩)), (18, .slice ca l.length cc), (19, .int .i64 (l.length : Int)), (20, .int .i64 (k : Int))]) (fun k => [Arn x ((l.take k).foldl Ar.giveH zc), Sl (eI .u64) ca cc l] ++ F) (fun k => l.length - k) 0 (Nat.zero_le _) ?_ (by exact EN) ?_
  · exact SBs
  intro k hk
  dsimp only
  (repeat refine Z ?_)
  refine X_cond rfl (fun hc => ?_) (fun hc => ?_) <;> simp only [decide_eq_true_eq, decide_eq_false_iff_not] at hc
  · have hkl : k < l.length := by omega
    have hget : l[k]? = some l[k] := List.getElem?_eq_getElem hkl
    have htk : l.take (k + 1) = l.take k ++ [l[k]] := List.take_succ_eq_append_getElem hkl
    have hyb := hbl _ (List.getElem_mem hkl)
    have hyr := hrl2 _ (List.getElem_mem hkl)
    have htl : (l.take k).length = k := by rw [List.length_take]; omega
    have hAk := AOw.fold (l := l.take k) (fun y hy => hbl y (List.mem_of_mem_take hy)) hAc (by rw [htl]; omega)
    rw [htl] at hAk
    have hkr := (fold_reg (l.take k) zc).1
    generalize l[k] = y at hget htk hyb hyr
    have hfk : (l.take (k + 1)).foldl Ar.giveH zc = ((l.take k).foldl Ar.giveH zc).giveH y := by rw [htk, List.foldl_append]; rfl
    generalize (l.take k).foldl Ar.giveH zc = zk at hAk hkr hfk ⊢
    refine X_slopen (E' := eI .u64) (a := ca) (c := cc) (xs := l) (by exact FDs) (by omega) ?_
    rintro qb qo rfl
    (repeat refine Z ?_)
    refine XO_call (unpack_spec y hyb.1 hyb.2) (hk := ?_)
    rintro _ _ ⟨rfl, rfl⟩
    unfold unpV
    by_cases hk0 : hKind y = 0
    · have hgy : zk.giveH y = { zk with mar := zk.mar.drop ⟨0, 0, 0, 0, 0, 0, 0⟩ y } := by unfold Ar.giveH; rw [if_neg (by omega), if_neg (by omega)]
      rw [if_pos hk0]
      (repeat refine Z ?_)
      refine X_cond rfl (fun h => by cases h) (fun _ => ?_)
      (repeat refine Z ?_)
      refine X_cond rfl (fun h => by cases h) (fun _ => ?_)
      refine X_open (A := Arn x zk) (by exact FDs) Arn.open ?_
      rintro ⟨⟩ -
      dsimp only [List.cons_append, List.nil_append]
      (repeat refine Z ?_)
      refine XO_call (tdropM x.mt zk.mar hAk.mr y hyb.1 hyb.2) (hk := ?_)
      rintro _ _ ⟨rfl, rfl⟩
      (repeat refine Z ?_)
      refine XE_fold (by exact FAs) (Arn.fold (x := x) (z := { zk with mar := zk.mar.drop ⟨0, 0, 0, 0, 0, 0, 0⟩ y })) ?_
      rw [← hgy, ← hfk]
      exact X_round (k + 1) (by show k + 1 ≤ l.length; omega) (by show l.length - (k + 1) < l.length - k; omega) (by exact SBs) (by exact EN)
    rw [if_neg hk0]
    (repeat refine Z ?_)
    refine X_cond rfl (fun h1 => ?_) (fun h1 => ?_) <;> simp only [beq_iff_eq, beq_eq_false_iff_ne, ne_eq] at h1
    · have hgy : zk.giveH y = zk := by unfold Ar.giveH; rw [if_pos h1]
      (repeat refine Z ?_)
      refine XO_call (ar_free_no x zk hAk y hyb.1 hyb.2 (by rw [hkr, hzr]; exact hyr h1)) (hk := ?_)
      rintro _ _ ⟨rfl, rfl⟩
      (repeat refine Z ?_)
      rw [show zk = (l.take (k + 1)).foldl Ar.giveH zc from by rw [hfk, hgy]]
      exact X_round (k + 1) (by show k + 1 ≤ l.length; omega) (by show l.length - (k + 1) < l.length - k; omega) (by exact SBs) (by exact EN)
    (repeat refine Z ?_)
    refine X_cond rfl (fun h2 => ?_) (fun h2 => ?_) <;> simp only [beq_iff_eq, beq_eq_false_iff_ne, ne_eq] at h2
    · have hgy : zk.giveH y = { zk with obj := zk.obj.drop (0, 0, 0) y } := by unfold Ar.giveH; rw [if_neg h1, if_pos h2]
      refine X_open (A := Arn x zk) (by exact FDs) Arn.open ?_
      rintro ⟨⟩ -
      dsimp only [List.cons_append, List.nil_append]
      (repeat refine Z ?_)
      refine XO_call (tdropO x.ot zk.obj hAk.ob y hyb.1 hyb.2) (hk := ?_)
      rintro _ _ ⟨rfl, rfl⟩
      (repeat refine Z ?_)
      refine XE_fold (by exact FAs) (Arn.fold (x := x) (z := { zk with obj := zk.obj.drop (0, 0, 0) y })) ?_
      rw [← hgy, ← hfk]
      exact X_round (k + 1) (by show k + 1 ≤ l.length; omega) (by show l.length - (k + 1) < l.length - k; omega) (by exact SBs) (by exact EN)
    · have hgy : zk.giveH y = { zk with mar := zk.mar.drop ⟨0, 0, 0, 0, 0, 0, 0⟩ y } := by unfold Ar.giveH; rw [if_neg h1, if_neg h2]
      refine X_open (A := Arn x zk) (by exact FDs) Arn.open ?_
      rintro ⟨⟩ -
      dsimp only [List.cons_append, List.nil_append]
      (repeat refine Z ?_)
      refine XO_call (tdropM x.mt zk.mar hAk.mr y hyb.1 hyb.2) (hk := ?_)
      rintro _ _ ⟨rfl, rfl⟩
      (repeat refine Z ?_)
      refine XE_fold (by exact FAs) (Arn.fold (x := x) (z := { zk with mar := zk.mar.drop ⟨0, 0, 0, 0, 0, 0, 0⟩ y })) ?_
      rw [← hgy, ← hfk]
      exact X_round (k + 1) (by show k + 1 ≤ l.length; omega) (by show l.length - (k + 1) < l.length - k; omega) (by exact SBs) (by exact EN)
  obtain rfl : k = l.length := by omega
  rw [List.take_length]
  (repeat refine Z ?_)
  refine XE_ret (.inr rfl) (tells_tmps rfl rfl) ⟨_, ⟨rfl, rfl⟩, by exact EN⟩
theorem ar_rewind0 (x : ABl) (z : Ar) {N : Nat} (hA : AOk N z) (hN : N + N ≤ 100000) (h : Int) (h0 : 0 ≤ h) (h1 : h ≤ 18446744073709551615) {k : MkT} (hg : z.mar.get h = some k) (hk : 0 ≤ k.tr) {i b : Nat} {S : Sh} (hq : z.M[i]? = some (b, k.of_, S)) (hr : ∀ y ∈ (ofL z.rs k.of_).drop k.tr.toNat, hKind y = 1 → z.reg.get y = none) (hf : fitsS S k.mc k.ml k.at_ = true) (ha0 : 0 ≤ k.at_) (ha1 : k.at_ ≤ 18446744073709551615) :
    Spec Tryz.prog 37 [.pointer (some ⟨x.a, 0, none⟩), .int .u64 h] [Arn x z] (fun v L => v = .int .i64 0 ∧ L = [Arn x { z.give0 k.of_ k.tr.toNat with C := putsC z.C S k.mc k.ml, m := rewM z.P z.m S k.mc k.ml k.at_, M := z.M.set i (b, k.of_, setTop (cutS S k.mc k.ml) k.at_ k.ob k.pd) }]) := by
  have hqm := List.mem_of_getElem? hq
  have hob := hA.hb _ hqm
  have hgo := hA.own _ hqm
  have hR := hA.R.one hq
  have hil : i < z.M.length := (List.getElem?_eq_some_iff.1 hq).1
  have hrl := hA.rl
  have hol := length_ofL_le z.rs k.of_
  dsimp only at hob hgo hR
  have hbl : ∀ y ∈ ((ofL z.rs k.of_).drop k.tr.toNat).reverse, 0 ≤ y ∧ y ≤ 18446744073709551615 := fun y hy => hA.rb _ (ofL_val _ _ _ (List.mem_of_mem_drop (List.mem_reverse.1 hy)))
  have hll : ((ofL z.rs k.of_).drop k.tr.toNat).reverse.length ≤ N := by rw [List.length_reverse, List.length_drop]; omega
  have hAg : AOk (N + ((ofL z.rs k.of_).drop k.tr.toNat).reverse.length) (z.give0 k.of_ k.tr.toNat) := AOk.fold hbl (hA.cut k.of_ k.tr.toNat) (by omega)
  have hfr := fold_reg ((ofL z.rs k.of_).drop k.tr.toNat).reverse { z with rs := cutW z.rs k.of_ k.tr.toNat }
  have hgg := ar_give0 x z hA.w hN k.of_ k.tr.toNat hr
  rw [show ((k.tr.toNat : Nat) : Int) = k.tr from by omega] at hgg
  change _ ∧ _ ∧ _ ∧ _ ∧ _ ∧ _ ∧ _ at hfr
  rw [show (((ofL z.rs k.of_).drop k.tr.toNat).reverse.foldl Ar.giveH { z with rs := cutW z.rs k.of_ k.tr.toNat }) = z.give0 k.of_ k.tr.toNat from rfl] at hfr
  generalize z.give0 k.of_ k.tr.toNat = zg at hAg hfr hgg ⊢
  obtain ⟨f1, f2, f3, f4, f5, f6, f7⟩ := hfr
  dsimp only at f1 f2 f3 f4 f5
  refine Spec.intro (IsEnt.out) Tryz.func37 rfl Tryz.ntmps37 (by simp) (fun w0 F => ?_)
  simp only [envOf, List.zipIdx, List.map, List.cons_append, List.nil_append, Nat.zero_add, Nat.reduceAdd]
  (repeat refine Z ?_)
  refine X_cond rfl (fun h => by cases h) (fun _ => ?_)
  refine X_open (A := Arn x z) (by exact FDs) Arn.open ?_
  rintro ⟨⟩ -
  dsimp only [List.cons_append, List.nil_append]
  (repeat refine Z ?_)
  refine XO_call (tgetM x.mt z.mar hA.mr h h0 h1) (hk := ?_)
  rintro _ _ ⟨rfl, rfl⟩
  rw [hg]
  dsimp only [Option.getD, Option.isSome]
  refine XO_fold (by exact FAs) (Arn.fold (x := x) (z := z)) ?_
  (repeat refine Z ?_)
  refine XO_dv dv_alloc (hk := ?_)
  rintro _ _ ⟨kb, rfl, rfl⟩
  refine XO_dv0 (dv_storeW (vs := mkRow k)) (hk := ?_)
  rintro _ _ rfl
  (repeat refine Z ?_)
  refine X_cond rfl (fun h => by cases h) (fun _ => ?_)
  (repeat refine Z ?_)
  refine XO_call hgg (hk := ?_)
  rintro _ _ ⟨rfl, rfl⟩
  (repeat refine Z ?_)
  refine XO_call (ar_region x zg hAg.w k.of_ hob.1 hob.2) (hk := ?_)
  rintro _ _ ⟨rfl, rfl⟩
  rw [f1, hgo]
  (repeat refine Z ?_)
  refine XO_open (A := Arn x zg) (by exact FDs) Arn.open ?_
  rintro ⟨⟩ -
  dsimp only [arL, List.cons_append, List.nil_append]
  rw [f2, f3, f4, f5]
  refine XO_open (A := Star (RgOf x.s) z.M) (by exact FDs) (Rgs.out hq) ?_
  rintro ⟨⟩ -
  dsimp only [List.cons_append, List.nil_append]
  (repeat refine Z ?_)
  refine XO_call (rrew_ok b x.s x.sb (mc := k.mc) (ml := k.ml) (at_ := k.at_) (ob := k.ob) (pd := k.pd) hR hf ha0 ha1) (hk := ?_)
  rintro _ _ ⟨rfl, rfl⟩
  (repeat refine Z ?_)
  refine XE_fold (S := [Rg b x.s k.of_ (setTop (cutS S k.mc k.ml) k.at_ k.ob k.pd), Star (RgOf x.s) (z.M.eraseIdx i)]) (by exact FAs) (Rgs.back hil) ?_
  rw [← f5]
  refine XE_fold (by exact FAs) (Arn.fold (x := x) (z := { zg with C := putsC z.C S k.mc k.ml, m := rewM zg.P z.m S k.mc k.ml k.at_, M := z.M.set i (b, k.of_, setTop (cutS S k.mc k.ml) k.at_ k.ob k.pd) })) ?_
  rw [f1]
  refine XE_ret (.inl rfl) (tells_tmps rfl rfl) ⟨_, ⟨rfl, rfl⟩, by exact EN⟩
end Go.Proofs.YtamecmklcnohjaaGreat.Sep
namespace Go.Proofs.YtamecmklcnohjaaGreat.Sep
open Go.RowKit
set_option linter.unusedSimpArgs false
set_option linter.unusedVariables false
section
variable {α : Type}
theorem Tb.spot_hAt {N : Nat} {t : Tb α} (h : TbOk N t) {i : Nat} (hu : t.usedAt i = true) : t.spot (t.hAt i) = some i ∧ 0 ≤ t.hAt i ∧ t.hAt i ≤ 18446744073709551615 := by
  have hi := Tb.usedAt_lt hu
  have ho := h.hok (i := i) (by have := h.len; omega)
  refine ⟨?_, pack_bd.1, pack_bd.2⟩
  have e1 : hKind (t.hAt i) = t.kind := pack_kind ho
  have e2 : (hSlot (t.hAt i)).toNat = i := by show (hSlot (packI _ _ _)).toNat = _; rw [pack_slot ho]; omega
  have e3 : hGen (t.hAt i) = t.genAt i := pack_gen ho
  unfold Tb.spot
  rw [e2, if_pos ⟨by rw [e1]; have := h.kd; omega, hu, e1, e3⟩]
theorem Tb.mem_to {t : Tb α} : ∀ {k : Nat} {x : Int}, x ∈ t.handlesTo k → ∃ i, i < k ∧ t.usedAt i = true ∧ x = t.hAt i
  | 0, x, h => by cases h
  | k + 1, x, h => by
    unfold Tb.handlesTo at h
    rcases List.mem_append.1 h with h1 | h1
    · obtain ⟨i, hi, hu, he⟩ := Tb.mem_to h1
      exact ⟨i, Nat.lt_succ_of_lt hi, hu, he⟩
    · split at h1
      · rename_i hu; simp at h1; exact ⟨k, Nat.lt_succ_self k, hu, h1⟩
      · cases h1
theorem Tb.handles_mem {N : Nat} {t : Tb α} (h : TbOk N t) {x : Int} (hx : x ∈ t.handles) : ∃ i, t.spot x = some i ∧ 0 ≤ x ∧ x ≤ 18446744073709551615 := by
  obtain ⟨i, _, hu, rfl⟩ := Tb.mem_to hx
  exact ⟨i, Tb.spot_hAt h hu⟩
theorem Tb.to_len (t : Tb α) : ∀ k, (t.handlesTo k).length ≤ k
  | 0 => Nat.le_refl _
  | k + 1 => by have := Tb.to_len t k; unfold Tb.handlesTo; split <;> simp <;> omega
theorem Tb.handles_len (t : Tb α) : t.handles.length ≤ t.slots.length := Tb.to_len t _
end
def shOf (z : Ar) (h : Int) : Sh := match z.M.find? (fun q => q.2.1 == h) with
  | some q => q.2.2
  | none => emptySh
theorem shOf_eq {M : List RgT} (hn : (M.map (·.2.1)).Nodup) {q : RgT} (hq : q ∈ M) : M.find? (fun r => r.2.1 == q.2.1) = some q := by
  induction M with
  | nil => cases hq
  | cons r M ih =>
    simp only [List.map_cons, List.nodup_cons] at hn
    rcases List.mem_cons.1 hq with h1 | h1
    · subst h1; simp
    · have hne : ¬ r.2.1 = q.2.1 := fun e => hn.1 (e ▸ List.mem_map.2 ⟨q, h1, rfl⟩)
      rw [List.find?_cons_of_neg (by simpa using hne)]
      exact ih hn.2 h1
def sumH (f : Sh → Int) (z : Ar) (k : Nat) : Int := ((z.reg.handles.take k).map fun h => f (shOf z h)).sum
def slackS (S : Sh) : Int := IntKind.u64.wrap (shPages S * 4096 - shHdr S - S.obj - S.pad)
def meterA (z : Ar) : List Int := [z.P - totI z.C.fr, totI (kall z.C.ks 7), totI z.C.fr, (z.C.fr.length : Int), IntKind.u64.wrap (sumH Sh.obj z z.reg.handles.length), IntKind.u64.wrap (sumH Sh.pad z z.reg.handles.length), IntKind.u64.wrap (sumH shHdr z z.reg.handles.length), IntKind.u64.wrap (sumH slackS z z.reg.handles.length)]
theorem sumH_succ (f : Sh → Int) (z : Ar) {k : Nat} (hk : k < z.reg.handles.length) : sumH f z (k + 1) = sumH f z k + f (shOf z z.reg.handles[k]) := by
  unfold sumH
  rw [List.take_succ_eq_append_getElem hk, List.map_append, List.sum_append]
  simp
abbrev mtRow (a b c d : Int) (o p h s : Int) : List Value := [.int .i64 a, .int .i64 b, .int .i64 c, .int .i64 d, .int .u64 o, .int .u64 p, .int .u64 h, .int .u64 s]
set_option maxHeartbeats 8000000
attribute [local irreducible] X XE XO XD XDi XDa PV RV DV pt base Spec Sl Mp Keeps Pg Kc
attribute [local irreducible] Pgs Spc Ck XL XLi Pl Rs Rg View Tbl Tre Ros Star RgOf Arn
theorem ar_meter (x : ABl) (z : Ar) {N : Nat} (hA : AOk N z) : Spec Tryz.prog 35 [.pointer (some ⟨x.a, 0, none⟩)] [Arn x z] (fun v L => v = .agg (recCells mKs (meterA z)).toArray ∧ L = [Arn x z]) := by
  have hC := hA.R.ok
  have hfl := rf_len' (by have := hC.p1; omega) hC.p2 hC.right
  have hft := tot_right (P := z.C.P) (lo := 0) (by have := hC.p1; omega) hC.right
  have hPz := hA.P
  have hPC := hA.R.hP
  have hhl := Tb.handles_len z.reg
  have hsl := hA.rg.len
  have hNN := hA.hN
  have hkl := kall_le (ks := z.C.ks) (fun k hk => (hC.kept k hk).1) 7 (Nat.le_refl _)
  have hkt := tot_le (l := kall z.C.ks 7) (fun r hr => ⟨(kall_bd hC hr).2.2.1, (kall_bd hC hr).2.2.2⟩)
  refine Spec.intro (IsEnt.out) Tryz.func35 rfl Tryz.ntmps35 (by simp) (fun w0 F => ?_)
  simp only [envOf, List.zipIdx, List.map, List.cons_append, List.nil_append, Nat.zero_add, Nat.reduceAdd]
  (repeat refine Z ?_)
  refine XO_dv dv_alloc (hk := ?_)
  rintro _ _ ⟨gb, rfl, rfl⟩
  (repeat refine Z ?_)
  refine X_cond rfl (fun h => by cases h) (fun _ => ?_)
  refine X_open (A := Arn x z) (by exact FDs) Arn.open ?_
  rintro ⟨⟩ -
  dsimp only [arL, List.cons_append, List.nil_append]
  (repeat refine Z ?_)
  refine XO_dv dv_alloc (hk := ?_)
  rintro _ _ ⟨mb, rfl, rfl⟩
  (repeat refine Z ?_)
  refine XO_call (kfree_spec x.s x.sb z.C hC) (hk := ?_)
  rintro _ _ ⟨rfl, rfl⟩
  (repeat refine Z ?_)
  refine XO_dv0 dv_store (hk := ?_)
  rintro _ _ rfl
  (repeat refine Z ?_)
  refine XO_dv0 dv_store (hk := ?_)
  rintro _ _ rfl
  (repeat refine Z ?_)
  (repeat refine ZD ?_)
  refine XD_one (h := ?_)
  refine XDa_dvA (dv_call (kspace_spec x.s x.sb z.C)) (hk := ?_)
  (rintro _ _ ⟨_, ⟨rfl, rfl⟩, rfl⟩; refine ⟨by exact KP, ?_⟩)
  (repeat refine ZD ?_)
  refine XD_one (h := ?_)
  refine XDa_dvA (dv_call (spages_spec x.sb z.P z.m)) (hk := ?_)
  (rintro _ _ ⟨_, ⟨rfl, rfl⟩, rfl⟩; refine ⟨by exact KP, ?_⟩)
  (repeat refine ZD ?_)
  refine XD_one (h := ?_)
  refine XDa_dvk0 dv_store (K := _) (hk := ?_)
  rintro _ _ rfl
  refine ⟨by exact KP, ?_⟩
  (refine XD_end (h := ?_); (repeat refine Z ?_))
  refine XO_call (kcached_spec x.s x.sb z.C hC) (hk := ?_)
  rintro _ _ ⟨ka, kc, rfl, rfl⟩
  have hkb : ∀ r ∈ kall z.C.ks 7, 1 ≤ r.2 ∧ r.2 ≤ 64 := fun r hr => ⟨(kall_bd hC hr).2.2.1, (kall_bd hC hr).2.2.2⟩
  unfold meterA
  generalize hrs : kall z.C.ks 7 = rs at hkl hkt hkb ⊢
  (repeat refine Z ?_)
  refine X_loop (ι := Nat) (fun k => k ≤ rs.length) (fun k => [(0, .pointer (some ⟨x.a, 0, none⟩)), (2, .pointer (some ⟨gb, 0, none⟩)), (3, .pointer (some ⟨mb, 0, none⟩)), (38, .slice ka rs.length kc), (39, .int .i64 (rs.length : Int)), (40, .int .i64 (k : Int))])
    (fun k => [pt mb (.cells (mtRow (z.P - totI z.C.fr) (totI (rs.take k)) (totI z.C.fr) (z.C.fr.length : Int) 0 0 0 0).toArray 51 (0, 0)), pt gb (.cells (mtRow 0 0 0 0 0 0 0 0).toArray 51 (0, 0)), Sl eRun ka kc rs] ++ (arL x z ++ F)) (fun k => rs.length - k) 0 (Nat.zero_le _) ?_ (by dsimp only [arL]; exact EN) ?_
  · exact SBs
  · intro k hk
    dsimp only [arL, List.cons_append, List.nil_append]
    have htb := tot_le (l := rs.take k) (fun r hr => hkb r (List.mem_of_mem_take hr))
    have htl : (rs.take k).length ≤ k := by rw [List.length_take]; omega
    (repeat refine Z ?_)
    refine X_cond rfl (fun hc => ?_) (fun hc => ?_) <;> simp only [decide_eq_true_eq, decide_eq_false_iff_not] at hc
    · have hkl2 : k < rs.length := by omega
      have hget : rs[k]? = some rs[k] := List.getElem?_eq_getElem hkl2
      have hrb := hkb _ (List.getElem_mem hkl2)
      have hts : totI (rs.take (k + 1)) = totI (rs.take k) + rs[k].2 := by rw [List.take_succ_eq_append_getElem hkl2, tot_append, tot_cons]; simp [totI]
      generalize rs[k] = r at hget hrb hts
      refine X_slopen (E' := eRun) (a := ka) (c := kc) (xs := rs) (by exact FDs) (by omega) ?_
      rintro qb qo rfl
      (repeat refine Z ?_)
      refine XO_dv (dv_alloc (row := [.int .i64 0, .int .i64 0])) (hk := ?_)
      rintro _ _ ⟨ub, rfl, rfl⟩
      refine XO_dv0 (dv_storeW (vs := [.int .i64 r.1, .int .i64 r.2])) (hk := ?_)
      rintro _ _ rfl
      clear hget
      (repeat refine Z ?_)
      refine XO_dv0 dv_store (hk := ?_)
      rintro _ _ rfl
      (repeat refine Z ?_)
      rw [← hts]
      exact X_round (k + 1) (by show k + 1 ≤ rs.length; omega) (by show rs.length - (k + 1) < rs.length - k; omega) (by exact SBs) (by (try dsimp only [arL]); exact EN)
    obtain rfl : k = rs.length := by omega
    rw [List.take_length]
    (repeat refine Z ?_)
    refine XO_call (thandlesR x.rt z.reg hA.rg) (hk := ?_)
    rintro _ _ ⟨ha, hc2, rfl, rfl⟩
    (repeat refine Z ?_)
    refine X_loop (ι := Nat) (fun k => k ≤ z.reg.handles.length) (fun k => [(0, .pointer (some ⟨x.a, 0, none⟩)), (2, .pointer (some ⟨gb, 0, none⟩)), (3, .pointer (some ⟨mb, 0, none⟩)), (55, .slice ha z.reg.handles.length hc2), (56, .int .i64 (z.reg.handles.length : Int)), (57, .int .i64 (k : Int))])
      (fun k => [pt mb (.cells (mtRow (z.P - totI z.C.fr) (totI rs) (totI z.C.fr) (z.C.fr.length : Int) (IntKind.u64.wrap (sumH Sh.obj z k)) (IntKind.u64.wrap (sumH Sh.pad z k)) (IntKind.u64.wrap (sumH shHdr z k)) (IntKind.u64.wrap (sumH slackS z k))).toArray 51 (0, 0)), pt gb (.cells (mtRow 0 0 0 0 0 0 0 0).toArray 51 (0, 0)), Sl (eI .u64) ha hc2 z.reg.handles] ++ (arL x z ++ F)) (fun k => z.reg.handles.length - k) 0 (Nat.zero_le _) ?_ (by (try dsimp only [arL]); exact EN) ?_
    · exact SBs
    · intro k hk
      dsimp only [arL, List.cons_append, List.nil_append]
      (repeat refine Z ?_)
      refine X_cond rfl (fun hc => ?_) (fun hc => ?_) <;> simp only [decide_eq_true_eq, decide_eq_false_iff_not] at hc
      · have hkl2 : k < z.reg.handles.length := by omega
        have hget : z.reg.handles[k]? = some z.reg.handles[k] := List.getElem?_eq_getElem hkl2
        have hs1 := sumH_succ Sh.obj z hkl2
        have hs2 := sumH_succ Sh.pad z hkl2
        have hs3 := sumH_succ shHdr z hkl2
        have hs4 := sumH_succ slackS z hkl2
        obtain ⟨j, hsp, hy0, hy1⟩ := Tb.handles_mem hA.rg (List.getElem_mem hkl2)
        generalize z.reg.handles[k] = y at hget hs1 hs2 hs3 hs4 hsp hy0 hy1
        obtain ⟨v, hv, _⟩ := Tb.spot_get hsp
        obtain ⟨i, b, S, rfl, hq⟩ := hA.live y v hv
        have hsh : shOf z y = S := by unfold shOf; rw [shOf_eq hA.nd (List.mem_of_getElem? hq)]
        rw [hsh] at hs1 hs2 hs3 hs4
        have hR := hA.R.one hq
        have hlen := hR.len
        have hbd := hR.bd
        refine X_slopen (E' := eI .u64) (a := ha) (c := hc2) (xs := z.reg.handles) (by exact FDs) (by omega) ?_
        rintro qb qo rfl
        (repeat refine Z ?_)
        refine XO_fold (by exact FAs) (Arn.fold (x := x) (z := z)) ?_
        refine XO_call (ar_region x z hA.w y hy0 hy1) (hk := ?_)
        rintro _ _ ⟨rfl, rfl⟩
        rw [hv]
        (repeat refine Z ?_)
        refine XO_open (A := Arn x z) (by exact FDs) Arn.open ?_
        rintro ⟨⟩ -
        refine XO_open (A := Star (RgOf x.s) z.M) (by exact FDs) (Rgs.out hq) ?_
        rintro ⟨⟩ -
        dsimp only [arL, List.cons_append, List.nil_append]
        refine XO_call (rmeter_spec b x.s y S hlen.1 hlen.2 hbd.1 hbd.2) (hk := ?_)
        rintro _ _ ⟨rfl, rfl⟩
        refine XO_dv (dv_alloc (row := mtRow 0 0 0 0 0 0 0 0)) (hk := ?_)
        rintro _ _ ⟨ub, rfl, rfl⟩
        refine XO_dv0 (dv_storeW (vs := mtRow (shPages S) 0 0 0 S.obj S.pad (shHdr S) (slackS S))) (hk := ?_)
        rintro _ _ rfl
        clear hget
        (repeat refine Z ?_)
        refine XO_dv0 dv_store (hk := ?_)
        rintro _ _ rfl
        (repeat refine Z ?_)
        refine XO_dv0 dv_store (hk := ?_)
        rintro _ _ rfl
        (repeat refine Z ?_)
        refine XO_dv0 dv_store (hk := ?_)
        rintro _ _ rfl
        (repeat refine Z ?_)
        refine XO_dv0 dv_store (hk := ?_)
        rintro _ _ rfl
        (repeat refine Z ?_)
        rw [wrap_add, wrap_add, wrap_add, wrap_add, ← hs1, ← hs2, ← hs3, ← hs4]
        refine XE_fold (S := [Rg b x.s y S, Star (RgOf x.s) (z.M.eraseIdx i)]) (by exact FAs) (Rgs.same hq) ?_
        exact X_round (k + 1) (by show k + 1 ≤ z.reg.handles.length; omega) (by show z.reg.handles.length - (k + 1) < z.reg.handles.length - k; omega) (by exact SBs) (by (try dsimp only [arL]); exact EN)
      obtain rfl : k = z.reg.handles.length := by omega
      (repeat refine Z ?_)
      refine XO_dv0 (dv_storeW (vs := (mtRow (z.P - totI z.C.fr) (totI rs) (totI z.C.fr) (z.C.fr.length : Int) (IntKind.u64.wrap (sumH Sh.obj z z.reg.handles.length)) (IntKind.u64.wrap (sumH Sh.pad z z.reg.handles.length)) (IntKind.u64.wrap (sumH shHdr z z.reg.handles.length)) (IntKind.u64.wrap (sumH slackS z z.reg.handles.length))))) (hk := ?_)
      rintro _ _ rfl
      (repeat refine Z ?_)
      refine XE_fold (by exact FAs) (Arn.fold (x := x) (z := z)) ?_
      refine XE_ret (.inl rfl) (tells_cell rfl rfl) ⟨_, ⟨rfl, rfl⟩, by exact EN⟩
theorem ar_live (x : ABl) (z : Ar) {N : Nat} (hA : AOk N z) : Spec Tryz.prog 42 [.pointer (some ⟨x.a, 0, none⟩)] [Arn x z] (fun v L => ∃ a1 c1 a2 c2 a3 c3, v = .tuple #[.slice a1 z.reg.handles.length c1, .slice a2 z.obj.handles.length c2, .slice a3 z.mar.handles.length c3] ∧ L = [Arn x z, Sl (eI .u64) a1 c1 z.reg.handles, Sl (eI .u64) a2 c2 z.obj.handles, Sl (eI .u64) a3 c3 z.mar.handles]) := by
  refine Spec.intro (IsEnt.out) Tryz.func42 rfl Tryz.ntmps42 (by simp) (fun w0 F => ?_)
  simp only [envOf, List.zipIdx, List.map, List.cons_append, List.nil_append, Nat.zero_add, Nat.reduceAdd]
  (repeat refine Z ?_)
  refine X_cond rfl (fun h => by cases h) (fun _ => ?_)
  refine X_open (A := Arn x z) (by exact FDs) Arn.open ?_
  rintro ⟨⟩ -
  dsimp only [arL, List.cons_append, List.nil_append]
  (repeat refine Z ?_)
  (repeat refine ZD ?_)
  refine XD_one (h := ?_)
  refine XDa_dvA (dv_call (thandlesR x.rt z.reg hA.rg)) (hk := ?_)
  rintro _ _ ⟨_, ⟨a1, c1, rfl, rfl⟩, rfl⟩
  refine ⟨by exact KP, ?_⟩
  (repeat refine ZD ?_)
  refine XD_one (h := ?_)
  refine XDa_dvA (dv_call (thandlesO x.ot z.obj hA.ob)) (hk := ?_)
  rintro _ _ ⟨_, ⟨a2, c2, rfl, rfl⟩, rfl⟩
  refine ⟨by exact KP, ?_⟩
  (repeat refine ZD ?_)
  refine XD_one (h := ?_)
  refine XDa_dvA (dv_call (thandlesM x.mt z.mar hA.mr)) (hk := ?_)
  rintro _ _ ⟨_, ⟨a3, c3, rfl, rfl⟩, rfl⟩
  refine ⟨by exact KP, ?_⟩
  (repeat refine ZD ?_)
  (refine XD_one (h := ?_); refine XDa_dvA (dv_of_rv (rv_of_pv pv_assign)) (hk := ?_); rintro _ _ ⟨rfl, rfl⟩; refine ⟨by exact KP, ?_⟩)
  (refine XD_one (h := ?_); refine XDa_dvA (dv_of_rv (rv_of_pv pv_assign)) (hk := ?_); rintro _ _ ⟨rfl, rfl⟩; refine ⟨by exact KP, ?_⟩)
  (refine XD_one (h := ?_); refine XDa_dvA (dv_of_rv (rv_of_pv pv_assign)) (hk := ?_); rintro _ _ ⟨rfl, rfl⟩; refine ⟨by exact KP, ?_⟩)
  (refine XD_end (h := ?_); (repeat refine Z ?_))
  refine XE_fold (by exact FAs) (Arn.fold (x := x) (z := z)) ?_
  refine XE_ret (.inl rfl) (tells_tmps rfl rfl) ⟨_, ⟨a1, c1, a2, c2, a3, c3, rfl, rfl⟩, by exact EN⟩
end Go.Proofs.YtamecmklcnohjaaGreat.Sep
namespace Go.Proofs.YtamecmklcnohjaaGreat.Sep
open Go.RowKit
set_option linter.unusedSimpArgs false
set_option linter.unusedVariables false
theorem al_zero (x a : Int) : (x + (-x) % a) % a = 0 := by
  rw [Int.add_emod, Int.emod_emod, ← Int.add_emod, Int.add_right_neg]; exact Int.zero_emod _
theorem AR.place {P : Int} {B : Nat} {o : Int} {C C' : Co} {m m' : Mm} {s s' : Sh} {oth : List (Int × Hd)} {size align at_ e : Int} (hR : RInv P B o C m.f s oth) (ho : 0 ≤ o ∧ o < 18446744073709551616) (h0 : 0 ≤ size) (h2 : 0 ≤ align) (h3 : align ≤ 18446744073709551615) (h : AR P C m s o size align C' m' s' at_ e) (he : e = 0) :
    1 ≤ size ∧ at_ % align = 0 ∧ ∃ r ∈ s'.parts.map runP ++ s'.larges, r.1 * 4096 + 32 ≤ at_ ∧ at_ + size ≤ (r.1 + r.2) * 4096 ∧ RunOk P r := by
  have hR' := h.inv hR ho h0 h2 h3
  have hP := hR.P1
  cases h with
  | bad _ => cases he
  | huge _ _ _ => cases he
  | full _ _ _ _ _ _ => cases he
  | fit q hb hf =>
    obtain ⟨g1, g2, g3, g4, g5⟩ := good_al h2 h3 hb
    have hne : s.parts ≠ [] := fun e => by
      have : topEnd s = 0 := by unfold topEnd; rw [e]; rfl
      rw [this] at hf
      have hta : topAt s = 0 := by unfold topAt; rw [e]; rfl
      have := fit_some (by omega) g3 h0 hf
      omega
    obtain ⟨hm, hrun, hpt⟩ := hR.cur hne
    unfold PtOk at hpt
    have hrn := hrun
    unfold RunOk runP at hrun
    simp only at hrun
    have hta : topAt s = (lastP s.parts).2.2.1 := rfl
    have hte : topEnd s = (lastP s.parts).2.2.2 := rfl
    have hf2 := fit_some (by omega) g3 h0 hf
    refine ⟨by omega, hf2.2.2.2.2.1, runP (lastP s.parts), List.mem_append.2 (.inl ?_), by show (lastP s.parts).1 * 4096 + 32 ≤ _; omega, by show q.1 + size ≤ ((lastP s.parts).1 + (lastP s.parts).2.1) * 4096; omega, hrn⟩
    unfold setTop
    simp only
    rw [setLast_runP]
    exact List.mem_map.2 ⟨_, hm, rfl⟩
  | big n pg hb hf hc hg =>
    have hrun := hR'.S.pi.larges (pg, n) (by simp)
    obtain ⟨g1, g2, g3, g4, g5⟩ := good_al h2 h3 hb
    obtain ⟨_, c1, c2, c3⟩ := chunk_fit h0 h2 h3 hb hc hP.2 hrun
    rw [if_pos rfl] at c3
    have hpm := page_mod (align := align) (pg := pg) g5 32
    have hrn := hrun
    unfold RunOk at hrun
    simp only at hrun
    refine ⟨by omega, ?_, (pg, n), List.mem_append.2 (.inr (by simp)), by show pg * 4096 + 32 ≤ _; omega, by show _ ≤ (pg + n) * 4096; omega, hrn⟩
    rw [← hpm]; exact al_zero _ _
  | part n pg hb hf hc hg =>
    have hrun := hR'.S.pi.parts (pg, n) (by simp [runP])
    obtain ⟨g1, g2, g3, g4, g5⟩ := good_al h2 h3 hb
    obtain ⟨_, c1, c2, c3⟩ := chunk_fit h0 h2 h3 hb hc hP.2 hrun
    rw [if_neg (by decide)] at c3
    have hpm := page_mod (align := align) (pg := pg) g5 32
    have hrn := hrun
    unfold RunOk at hrun
    simp only at hrun
    refine ⟨by omega, ?_, (pg, n), List.mem_append.2 (.inl (by simp [runP])), by show pg * 4096 + 32 ≤ _; omega, by show _ ≤ (pg + n) * 4096; omega, hrn⟩
    rw [← hpm]; exact al_zero _ _
theorem Tb.get_bd {α : Type} {N : Nat} {t : Tb α} (h : TbOk N t) {x : Int} {v : α} (hg : t.get x = some v) : 0 ≤ x ∧ x ≤ 18446744073709551615 := by
  obtain ⟨i, hs, _⟩ := Tb.get_some hg
  obtain ⟨_, _, hk, _⟩ := Tb.spot_some hs
  have := h.kd
  unfold hKind at hk
  omega
theorem Tb.put_kind {α : Type} (t : Tb α) (y : Int) (v : α) : (t.put y v).kind = t.kind := (Tb.put_parts (t := t) (y := y) (v := v) 0).2.2.1
theorem created_get {N : Nat} {z : Ar} (h : AOk N z) (hN : N + 1 ≤ 100000) (r : Nat) {x : Int} (x0 : 0 ≤ x) (x1 : x ≤ 18446744073709551615) : ((z.reg.add none).put z.reg.addH (some r)).get x = if x = z.reg.addH then some (some r) else z.reg.get x := by
  have hb := Tb.addH_bd h.rg
  rw [Tb.get_put (h.rg.add (by omega) none) (some r) x0 x1 hb.1 hb.2, Tb.get_add h.rg none x0 x1, Tb.get_add h.rg none hb.1 hb.2]
  by_cases he : x = z.reg.addH
  · rw [if_pos ⟨he, by rw [if_pos rfl]; rfl⟩, if_pos he]
  · rw [if_neg (fun hh => he hh.1), if_neg he, if_neg he]
theorem emptyS (P : Int) (B : Nat) : SInv P B emptySh := ⟨⟨(fun p hp => by cases hp), (fun r hr => by cases hr), by decide, by decide⟩, ⟨(fun r hr => by cases hr), (fun r hr => by cases hr)⟩, Nat.zero_le _, Nat.zero_le _⟩
theorem RAll.snoc {P : Int} {B : Nat} {C : Co} {m : Int → Int} {M : List RgT} (h : RAll P B C m M) (r : Nat) (o : Int) : RAll P B C m (M ++ [(r, o, emptySh)]) := by
  have hg : gotM (M ++ [(r, o, emptySh)]) = gotM M := by
    unfold gotM; rw [List.flatMap_append]; show _ ++ (gotR o emptySh ++ []) = _; simp [gotR, emptySh, plH]
  refine ⟨by rw [hg]; exact h.K, h.hP, fun q hq => ?_, fun q hq => ?_⟩
  · rcases List.mem_append.1 hq with h1 | h1
    · exact h.S q h1
    · simp at h1; subst h1; exact emptyS _ _
  · rcases List.mem_append.1 hq with h1 | h1
    · exact h.po q h1
    · simp at h1; subst h1; intro p hp; cases hp
theorem AOk.created {N : Nat} {z : Ar} (h : AOk N z) (hN : N + 1 ≤ 100000) {p : Int} (hp : p = 0 ∨ (z.reg.get p).isSome = true) (r : Nat) : AOk (N + 1) (z.created p r) := by
  have hb := Tb.addH_bd h.rg
  have hne := Tb.addH_ne h.rg
  have hnw := Tb.addH_new h.rg
  have hTa := (h.rg.add (by omega) none).put z.reg.addH (some r)
  have hcg := fun {x : Int} => created_get (x := x) h hN r
  have hni : z.reg.addH ∉ z.tr.map (·.1) := fun hh => by have := (h.tk _).1 hh; rw [hnw] at this; cases this
  have hpi : p = 0 ∨ p ∈ z.tr.map (·.1) := by
    rcases hp with h1 | h1
    · exact .inl h1
    · exact .inr ((h.tk p).2 h1)
  refine ⟨hN, (h.R.snoc r _).le (Nat.le_succ _), hTa, h.ob.le (Nat.le_succ _) (by omega), h.mr.le (Nat.le_succ _) (by omega), ?_, h.k2, h.k3, h.T.add hne hni hpi, ?_, ?_, fun x v hv => ?_, fun q hq => ?_, fun q hq => ?_, ?_, fun x => ?_, h.pl, fun q hq => ?_⟩
  · show ((z.reg.add none).put z.reg.addH (some r)).kind = 1
    rw [Tb.put_kind, Tb.kind_add]; exact h.k1
  · show (z.tr ++ [_]).length ≤ N + 1
    have := h.tl; simp; omega
  · show (if p = 0 then z.rs else z.rs ++ [_]).length ≤ N + 1
    have := h.rl; split <;> simp <;> omega
  · have hxb := Tb.get_bd hTa hv
    have hv' : ((z.reg.add none).put z.reg.addH (some r)).get x = some v := hv
    rw [hcg hxb.1 hxb.2] at hv'
    by_cases he : x = z.reg.addH
    · rw [if_pos he] at hv'
      refine ⟨z.M.length, r, emptySh, (Option.some.inj hv').symm, ?_⟩
      show (z.M ++ [_])[z.M.length]? = _
      rw [he]; simp
    · rw [if_neg he] at hv'
      obtain ⟨i, b, S, e1, e2⟩ := h.live x v hv'
      refine ⟨i, b, S, e1, ?_⟩
      show (z.M ++ [_])[i]? = _
      rw [List.getElem?_append_left (List.getElem?_eq_some_iff.1 e2).1]; exact e2
  · show ((z.reg.add none).put z.reg.addH (some r)).get q.2.1 = _
    have hq' : q ∈ z.M ++ [(r, z.reg.addH, emptySh)] := hq
    rcases List.mem_append.1 hq' with h1 | h1
    · have hqb := h.hb q h1
      rw [hcg hqb.1 hqb.2, if_neg (fun e => by have := h.own q h1; rw [e, hnw] at this; cases this)]
      exact h.own q h1
    · simp at h1; subst h1
      show ((z.reg.add none).put z.reg.addH (some r)).get z.reg.addH = _
      rw [hcg hb.1 hb.2, if_pos rfl]
  · have hq' : q ∈ z.M ++ [(r, z.reg.addH, emptySh)] := hq
    rcases List.mem_append.1 hq' with h1 | h1
    · exact h.hb q h1
    · simp at h1; subst h1; exact hb
  · show ((z.M ++ [(r, z.reg.addH, emptySh)]).map (·.2.1)).Nodup
    rw [List.map_append, List.nodup_append]
    refine ⟨h.nd, by simp, fun a ha c hc e => ?_⟩
    simp at hc; subst hc; subst e
    obtain ⟨q, hq, e⟩ := List.mem_map.1 ha
    have := h.own q hq
    rw [e, hnw] at this; cases this
  · show x ∈ (z.tr ++ [(z.reg.addH, p)]).map (·.1) ↔ (((z.reg.add none).put z.reg.addH (some r)).get x).isSome = true
    rw [List.map_append, List.mem_append]
    constructor
    · intro hx
      rcases hx with h1 | h1
      · have hs := (h.tk x).1 h1
        obtain ⟨v, hv⟩ := Option.isSome_iff_exists.1 hs
        have hxb := Tb.get_bd h.rg hv
        rw [hcg hxb.1 hxb.2]; split
        · rfl
        · exact hs
      · simp at h1; subst h1
        rw [hcg hb.1 hb.2, if_pos rfl]; rfl
    · intro hs
      obtain ⟨v, hv⟩ := Option.isSome_iff_exists.1 hs
      have hxb := Tb.get_bd hTa hv
      rw [hcg hxb.1 hxb.2] at hs
      by_cases he : x = z.reg.addH
      · right; simp [he]
      · rw [if_neg he] at hs; exact .inl ((h.tk x).2 hs)
  · have hq' : q ∈ (if p = 0 then z.rs else z.rs ++ [(p, z.reg.addH)]) := hq
    split at hq'
    · exact h.rb q hq'
    · rcases List.mem_append.1 hq' with h1 | h1
      · exact h.rb q h1
      · simp at h1; subst h1; exact hb
theorem set_keep {M : List RgT} {i b : Nat} {o : Int} {S S' : Sh} (hq : M[i]? = some (b, o, S)) : (M.set i (b, o, S')).map (fun q => (q.1, q.2.1)) = M.map (fun q => (q.1, q.2.1)) := by
  obtain ⟨hi, he⟩ := List.getElem?_eq_some_iff.1 hq
  rw [List.map_set]
  refine List.ext_getElem (by simp) fun n h1 h2 => ?_
  simp only [List.getElem_set, List.getElem_map]
  split
  · rename_i e; subst e; rw [he]
  · rfl
theorem AOk.shape {N : Nat} {z : Ar} (h : AOk N z) (hN : N + 1 ≤ 100000) {i b : Nat} {o : Int} {S S' : Sh} (hq : z.M[i]? = some (b, o, S)) {C' : Co} {m' : Mm} (hR : RInv z.P (N + 1) o C' m'.f S' (gotM (z.M.eraseIdx i))) : AOk (N + 1) { z with C := C', m := m', M := z.M.set i (b, o, S') } := by
  have hi := (List.getElem?_eq_some_iff.1 hq).1
  have hk := set_keep (S' := S') hq
  have hmem : ∀ q ∈ z.M.set i (b, o, S'), ∃ S0, (q.1, q.2.1, S0) ∈ z.M := fun q hq2 => by
    rcases List.mem_or_eq_of_mem_set hq2 with h1 | h1
    · exact ⟨q.2.2, h1⟩
    · subst h1; exact ⟨S, List.mem_of_getElem? hq⟩
  refine ⟨hN, h.R.set hi (Nat.le_succ _) hR, h.rg.le (Nat.le_succ _) (by omega), h.ob.le (Nat.le_succ _) (by omega), h.mr.le (Nat.le_succ _) (by omega), h.k1, h.k2, h.k3, h.T, Nat.le_succ_of_le h.tl, Nat.le_succ_of_le h.rl, fun x v hv => ?_, fun q hq2 => ?_, fun q hq2 => ?_, ?_, h.tk, h.pl, h.rb⟩
  · obtain ⟨j, c, S0, e1, e2⟩ := h.live x v hv
    show ∃ i_1 b_1 S_1, v = some b_1 ∧ (z.M.set i (b, o, S'))[i_1]? = some (b_1, x, S_1)
    by_cases hij : i = j
    · subst hij
      rw [hq] at e2
      cases e2
      exact ⟨i, b, S', e1, by simp [hi]⟩
    · exact ⟨j, c, S0, e1, by rw [List.getElem?_set, if_neg hij]; exact e2⟩
  · obtain ⟨S0, h1⟩ := hmem q hq2
    exact h.own (q.1, q.2.1, S0) h1
  · obtain ⟨S0, h1⟩ := hmem q hq2
    exact h.hb (q.1, q.2.1, S0) h1
  · have : (z.M.set i (b, o, S')).map (·.2.1) = z.M.map (·.2.1) := by
      have := congrArg (List.map Prod.snd) hk
      rw [List.map_map, List.map_map] at this
      exact this
    show ((z.M.set i (b, o, S')).map (·.2.1)).Nodup
    rw [this]; exact h.nd
theorem AOk.alloced {N : Nat} {z : Ar} (h : AOk N z) (hN : N + 1 ≤ 100000) {i b : Nat} {of_ size align : Int} {S S' : Sh} (hq : z.M[i]? = some (b, of_, S)) {C' : Co} {m' : Mm} {at_ e : Int} (h0 : 0 ≤ size) (h2 : 0 ≤ align) (h3 : align ≤ 18446744073709551615) (har : AR z.P z.C z.m S of_ size align C' m' S' at_ e) : AOk (N + 1) (z.alloced i b of_ size C' m' S' at_ e) := by
  have hR := h.R.one hq
  have hob := h.hb _ (List.mem_of_getElem? hq)
  dsimp only at hR hob
  have hs := h.shape hN hq (har.inv hR (by omega) h0 h2 h3)
  unfold Ar.alloced
  by_cases he : e = 0
  · rw [if_pos he, if_pos he]
    obtain ⟨p1, p2, r, hr, p3, p4, p5⟩ := har.place hR (by omega) h0 h2 h3 he
    unfold RunOk at p5
    have hob2 := Tb.addH_bd h.ob
    refine ⟨hN, hs.R, hs.rg, h.ob.add (by omega) _, hs.mr, hs.k1, by rw [Tb.kind_add]; exact h.k2, hs.k3, hs.T, hs.tl, ?_, hs.live, hs.own, hs.hb, hs.nd, hs.tk, fun x o hx => ?_, fun q hq2 => ?_⟩
    · show (z.rs ++ [_]).length ≤ N + 1
      have := h.rl; simp; omega
    · have hxb := Tb.get_bd (h.ob.add (by omega) (at_, size, of_)) hx
      have hx' : (z.obj.add (at_, size, of_)).get x = some o := hx
      rw [Tb.get_add h.ob _ hxb.1 hxb.2] at hx'
      split at hx'
      · cases hx'
        show 0 ≤ at_ ∧ 0 ≤ size ∧ at_ + size ≤ z.P * 4096
        omega
      · exact h.pl x o hx'
    · have hq' : q ∈ z.rs ++ [(of_, z.obj.addH)] := hq2
      rcases List.mem_append.1 hq' with h1 | h1
      · exact h.rb q h1
      · simp at h1; subst h1; exact hob2
  · rw [if_neg he, if_neg he]
    exact hs
theorem AOk.marked {N : Nat} {z : Ar} (h : AOk N z) (hN : N + 1 ≤ 100000) (of_ : Int) (S : Sh) : AOk (N + 1) (z.marked of_ S) := by
  have hb := Tb.addH_bd h.mr
  have h' := h.le (Nat.le_succ N) hN
  refine ⟨hN, h'.R, h'.rg, h'.ob, h.mr.add (by omega) _, h'.k1, h'.k2, by show (z.mar.add _).kind = 3; rw [Tb.kind_add]; exact h.k3, h'.T, h'.tl, ?_, h'.live, h'.own, h'.hb, h'.nd, h'.tk, h'.pl, fun q hq => ?_⟩
  · show (z.rs ++ [_]).length ≤ N + 1
    have := h.rl; simp; omega
  · have hq' : q ∈ z.rs ++ [(of_, z.mar.addH)] := hq
    rcases List.mem_append.1 hq' with h1 | h1
    · exact h.rb q h1
    · simp at h1; subst h1; exact hb
theorem AOk.mem {N : Nat} {z : Ar} (h : AOk N z) {m' : Mm} (hm : m'.f = z.m.f) : AOk N { z with m := m' } := ⟨h.hN, ⟨by show KInv z.C m'.f _; rw [hm]; exact h.R.K, h.R.hP, h.R.S, h.R.po⟩, h.rg, h.ob, h.mr, h.k1, h.k2, h.k3, h.T, h.tl, h.rl, h.live, h.own, h.hb, h.nd, h.tk, h.pl, h.rb⟩
theorem AOk.new (p : Int) : AOk 0 ⟨⟨min (max p 1) 1048576, [(0, min (max p 1) 1048576)], fun _ => [], 0⟩, ⟨fun _ => 0, 0⟩, min (max p 1) 1048576, ⟨1, [], []⟩, [], ⟨2, [], []⟩, ⟨3, [], []⟩, [], []⟩ := by
  have hT : ∀ {α : Type} (k : Int), 1 ≤ k ∧ k ≤ 3 → TbOk 0 (⟨k, [], []⟩ : Tb α) := fun k hk => ⟨by decide, hk, Nat.le_refl _, (fun q hq => by cases hq), (fun i hi => by cases hi), List.nodup_nil⟩
  have hnone : ∀ {α : Type} (k x : Int), (⟨k, [], []⟩ : Tb α).get x = none := fun k x => by
    unfold Tb.get
    rw [show (⟨k, [], []⟩ : Tb _).spot x = none from if_neg (fun hh => by have := hh.2.1; simp [Tb.usedAt] at this)]
    rfl
  refine ⟨by decide, ⟨knew p _, rfl, (fun q hq => by cases hq), (fun q hq => by cases hq)⟩, hT 1 (by decide), hT 2 (by decide), hT 3 (by decide), rfl, rfl, rfl, TWf.nil, Nat.le_refl _, Nat.le_refl _, fun x v hv => ?_, (fun q hq => by cases hq), (fun q hq => by cases hq), List.nodup_nil, fun x => ?_, fun x o hx => ?_, (fun q hq => by cases hq)⟩
  · have hv' : (⟨1, [], []⟩ : Tb (Option Nat)).get x = some v := hv
    rw [hnone] at hv'; cases hv'
  · show x ∈ [] ↔ ((⟨1, [], []⟩ : Tb (Option Nat)).get x).isSome = true
    rw [hnone]; simp
  · have hx' : (⟨2, [], []⟩ : Tb (Int × Int × Int)).get x = some o := hx
    rw [hnone] at hx'; cases hx'
theorem AOk.give0 {N : Nat} {z : Ar} (h : AOk N z) (hN : N + N ≤ 100000) (of_ : Int) (n : Nat) : AOk (N + N) (z.give0 of_ n) := by
  have hrl := h.rl
  have hol := length_ofL_le z.rs of_
  have hbl : ∀ y ∈ ((ofL z.rs of_).drop n).reverse, 0 ≤ y ∧ y ≤ 18446744073709551615 := fun y hy => h.rb _ (ofL_val _ _ _ (List.mem_of_mem_drop (List.mem_reverse.1 hy)))
  have hll : ((ofL z.rs of_).drop n).reverse.length ≤ N := by rw [List.length_reverse, List.length_drop]; omega
  exact (AOk.fold hbl (h.cut of_ n) (by omega)).le (by omega) hN
theorem AOk.rewound {N : Nat} {z : Ar} (h : AOk N z) (hN : N + N + 1 ≤ 100000) {i b : Nat} {of_ mc ml at_ ob pd : Int} {S : Sh} (hq : z.M[i]? = some (b, of_, S)) (hf : fitsS S mc ml at_ = true) (ha0 : 0 ≤ at_) (ho : 0 ≤ ob ∧ ob ≤ 18446744073709551615) (hp : 0 ≤ pd ∧ pd ≤ 18446744073709551615) (n : Nat) :
    AOk (N + N + 1) { z.give0 of_ n with C := putsC z.C S mc ml, m := rewM z.P z.m S mc ml at_, M := z.M.set i (b, of_, setTop (cutS S mc ml) at_ ob pd) } := by
  have hg := h.give0 (by omega) of_ n
  have hfr := fold_reg ((ofL z.rs of_).drop n).reverse { z with rs := cutW z.rs of_ n }
  have hR := h.R.one hq
  rw [show (((ofL z.rs of_).drop n).reverse.foldl Ar.giveH { z with rs := cutW z.rs of_ n }) = z.give0 of_ n from rfl] at hfr
  generalize z.give0 of_ n = zg at hg hfr ⊢
  obtain ⟨f1, f2, f3, f4, f5, f6, f7⟩ := hfr
  dsimp only at f2 f5 hR
  have hr := rew_inv (ob := ob) (pd := pd) hR hf ha0 ho hp
  rw [← f2] at hq hr ⊢
  rw [← f5] at hr ⊢
  exact hg.shape (by omega) hq (hr.le (B' := N + N + 1) (by omega))
def Ar.setR (z : Ar) (C : Co) (m : Mm) (M : List RgT) : Ar := ⟨C, m, z.P, z.reg, M, z.obj, z.mar, z.tr, z.rs⟩
def Ar.rewound (z : Ar) (i b : Nat) (k : MkT) (S : Sh) : Ar := (z.give0 k.of_ k.tr.toNat).setR (putsC z.C S k.mc k.ml) (rewM z.P z.m S k.mc k.ml k.at_) (z.M.set i (b, k.of_, setTop (cutS S k.mc k.ml) k.at_ k.ob k.pd))
theorem AOk.rew {N : Nat} {z : Ar} (h : AOk N z) (hN : N + N + 1 ≤ 100000) {i b : Nat} {k : MkT} {S : Sh} (hq : z.M[i]? = some (b, k.of_, S)) (hf : fitsS S k.mc k.ml k.at_ = true) (ha0 : 0 ≤ k.at_) (ho : 0 ≤ k.ob ∧ k.ob ≤ 18446744073709551615) (hp : 0 ≤ k.pd ∧ k.pd ≤ 18446744073709551615) : AOk (N + N + 1) (z.rewound i b k S) := h.rewound hN hq hf ha0 ho hp k.tr.toNat
theorem ar_rew0 (x : ABl) (z : Ar) {N : Nat} (hA : AOk N z) (hN : N + N ≤ 100000) (h : Int) (h0 : 0 ≤ h) (h1 : h ≤ 18446744073709551615) {k : MkT} (hg : z.mar.get h = some k) (hk : 0 ≤ k.tr) {i b : Nat} {S : Sh} (hq : z.M[i]? = some (b, k.of_, S)) (hr : ∀ y ∈ (ofL z.rs k.of_).drop k.tr.toNat, hKind y = 1 → z.reg.get y = none) (hf : fitsS S k.mc k.ml k.at_ = true) (ha0 : 0 ≤ k.at_) (ha1 : k.at_ ≤ 18446744073709551615) :
    Spec Tryz.prog 37 [.pointer (some ⟨x.a, 0, none⟩), .int .u64 h] [Arn x z] (fun v L => v = .int .i64 0 ∧ L = [Arn x (z.rewound i b k S)]) := ar_rewind0 x z hA hN h h0 h1 hg hk hq hr hf ha0 ha1
end Go.Proofs.YtamecmklcnohjaaGreat.Sep
namespace Go.Proofs.YtamecmklcnohjaaGreat.Sep
open Go.RowKit
set_option linter.unusedSimpArgs false
set_option linter.unusedVariables false
def ark0 : Co := ⟨8, [(0, 8)], fun _ => [], 0⟩
def ark1 : Co := (getC ark0 1).1
def ars1 : Sh := ⟨[(0, 1, 42, 4096)], [], 10, 0⟩
def ars2 : Sh := ⟨[(0, 1, 62, 4096)], [], 30, 0⟩
theorem nb18 {size align : Int} (h : (decide (size ≠ 0) && (needI 1 align).isSome) = true) : ¬ badA size align := by
  simp at h
  intro h'
  rcases h' with h' | h'
  · exact h.1 h'
  · rw [h.2] at h'; cases h'
theorem ara1 (m : Mm) (o : Int) : ∃ C m', AR 8 ark0 m emptySh o 10 1 C m' ars1 32 0 ∧ C = ark1 :=
  ⟨_, _, AR.part 1 0 (nb18 (by decide)) (by decide +kernel) (by decide +kernel) (by decide +kernel), rfl⟩
theorem ara2 (C : Co) (m : Mm) (o : Int) : AR 8 C m ars1 o 20 1 C m ars2 42 0 := AR.fit (42, 62, 0) (nb18 (by decide)) (by decide +kernel)
theorem ara3 : fitsS ars2 1 0 42 = true ∧ setTop (cutS ars2 1 0) 42 10 0 = ars1 := ⟨by decide +kernel, rfl⟩
def aH : Int := 4611686018427387904
def aO1 : Int := 9223372036854775808
def aO2 : Int := 9223372036854775809
def aK : Int := 13835058055282163712
def az0 (m : Mm) : Ar := ⟨ark0, m, 8, ⟨1, [], []⟩, [], ⟨2, [], []⟩, ⟨3, [], []⟩, [], []⟩
def az1 (r : Nat) (m : Mm) : Ar := ⟨ark0, m, 8, ⟨1, [(some r, true, 0)], []⟩, [(r, aH, emptySh)], ⟨2, [], []⟩, ⟨3, [], []⟩, [(aH, 0)], []⟩
def az2 (r : Nat) (m : Mm) : Ar := ⟨ark1, m, 8, ⟨1, [(some r, true, 0)], []⟩, [(r, aH, ars1)], ⟨2, [((32, 10, aH), true, 0)], []⟩, ⟨3, [], []⟩, [(aH, 0)], [(aH, aO1)]⟩
def ak1 : MkT := ⟨1, 0, 42, 10, 0, aH, 2⟩
def az3 (r : Nat) (m : Mm) : Ar := ⟨ark1, m, 8, ⟨1, [(some r, true, 0)], []⟩, [(r, aH, ars1)], ⟨2, [((32, 10, aH), true, 0)], []⟩, ⟨3, [(ak1, true, 0)], []⟩, [(aH, 0)], [(aH, aO1), (aH, aK)]⟩
def az4 (r : Nat) (m : Mm) : Ar := ⟨ark1, m, 8, ⟨1, [(some r, true, 0)], []⟩, [(r, aH, ars2)], ⟨2, [((32, 10, aH), true, 0), ((42, 20, aH), true, 0)], []⟩, ⟨3, [(ak1, true, 0)], []⟩, [(aH, 0)], [(aH, aO1), (aH, aK), (aH, aO2)]⟩
def az5 (r : Nat) (m : Mm) : Ar := ⟨putsC ark1 ars2 1 0, m, 8, ⟨1, [(some r, true, 0)], []⟩, [(r, aH, ars1)], ⟨2, [((32, 10, aH), true, 0), ((0, 0, 0), false, 1)], [1]⟩, ⟨3, [(ak1, true, 0)], []⟩, [(aH, 0)], [(aH, aO1), (aH, aK)]⟩
theorem aze1 (r : Nat) (m : Mm) : (az0 m).created 0 r = az1 r m := by kernel_rfl
theorem aze2 (r : Nat) (m m' : Mm) : (az1 r m).alloced 0 r aH 10 ark1 m' ars1 32 0 = az2 r m' := by kernel_rfl
theorem aze3 (r : Nat) (m : Mm) : (az2 r m).marked aH ars1 = az3 r m := by kernel_rfl
theorem aze4 (r : Nat) (m : Mm) : (az3 r m).alloced 0 r aH 20 ark1 m ars2 42 0 = az4 r m := by kernel_rfl
theorem aze5 (r : Nat) (m : Mm) : (az4 r m).rewound 0 r ak1 ars2 = az5 r (rewM 8 m ars2 1 0 42) := by kernel_rfl
theorem azh0 (m : Mm) : (az0 m).reg.addH = aH := by kernel_rfl
theorem azh1 (r : Nat) (m : Mm) : (az1 r m).obj.addH = aO1 := by kernel_rfl
theorem azh2 (r : Nat) (m : Mm) : (az2 r m).mar.addH = aK := by kernel_rfl
theorem azh3 (r : Nat) (m : Mm) : (az3 r m).obj.addH = aO2 := by kernel_rfl
theorem azg (r : Nat) (m : Mm) : (az4 r m).mar.get aK = some ak1 := by kernel_rfl
theorem azr (r : Nat) (m : Mm) : (ofL (az4 r m).rs aH).drop 2 = [aO2] := by kernel_rfl
theorem azd2 (r : Nat) (m : Mm) : rdE (az5 r m) aO2 0 1 = 2 := by kernel_rfl
theorem azd1 (r : Nat) (m : Mm) : rdE (az5 r m) aO1 0 10 = 0 := by kernel_rfl
theorem azm (r : Nat) (m : Mm) : sumH Sh.obj (az5 r m) (az5 r m).reg.handles.length = 10 := by kernel_rfl
set_option maxHeartbeats 8000000
attribute [local irreducible] X XE XO XD XDi XDa PV RV DV pt base Spec Sl Mp Keeps Pg Kc
attribute [local irreducible] Pgs Spc Ck XL XLi Pl Rs Rg View Tbl Tre Ros Star RgOf Arn
theorem awake18_spec : Spec Tryz.prog 29 [] [] isTrue := by
  refine Spec.intro (IsEnt.out) Tryz.func29 rfl Tryz.ntmps29 (by simp) (fun w0 F => ?_)
  simp only [envOf, List.zipIdx, List.map, List.cons_append, List.nil_append, Nat.zero_add, Nat.reduceAdd]
  (repeat refine Z ?_)
  refine XO_call (ar_new 8) (hk := ?_)
  rintro _ _ ⟨x, rfl, rfl⟩
  have hA0 : AOk 0 (az0 ⟨fun _ => 0, 0⟩) := AOk.new 8
  rw [show (⟨⟨min (max (8 : Int) 1) 1048576, [(0, min (max (8 : Int) 1) 1048576)], fun _ => [], 0⟩, ⟨fun _ => 0, 0⟩, min (max (8 : Int) 1) 1048576, ⟨1, [], []⟩, [], ⟨2, [], []⟩, ⟨3, [], []⟩, [], []⟩ : Ar) = az0 ⟨fun _ => 0, 0⟩ from rfl]
  generalize (⟨fun _ => 0, 0⟩ : Mm) = m0 at hA0 ⊢
  (repeat refine Z ?_)
  refine XO_call (ar_create x _ hA0 (by decide) 0 (by decide) (by decide) (.inl rfl)) (hk := ?_)
  rintro _ _ ⟨r, rfl, rfl⟩
  have hA1 := hA0.created (by decide) (p := 0) (.inl rfl) r
  rw [aze1] at hA1 ⊢
  rw [azh0]
  (repeat refine Z ?_)
  obtain ⟨C1, m1, a1, rfl⟩ := ara1 m0 aH
  refine XO_call (ar_alloc x (az1 r m0) hA1 (by decide) (i := 0) (b := r) (of_ := aH) (S := emptySh) rfl 10 1 (by decide) (by decide) (by decide) (by decide) a1) (hk := ?_)
  rintro _ _ ⟨rfl, rfl⟩
  have hA2 := hA1.alloced (by decide) (i := 0) (b := r) (of_ := aH) (S := emptySh) rfl (by decide) (by decide) (by decide) a1
  rw [if_pos rfl, azh1]
  rw [aze2] at hA2 ⊢
  (repeat refine Z ?_)
  refine XO_call (ar_mark x (az2 r m1) hA2 (by decide) (i := 0) (b := r) (of_ := aH) (S := ars1) rfl) (hk := ?_)
  rintro _ _ ⟨rfl, rfl⟩
  have hA3 := hA2.marked (by decide) aH ars1
  rw [azh2]
  rw [aze3] at hA3 ⊢
  (repeat refine Z ?_)
  have a2 := ara2 ark1 m1 aH
  refine XO_call (ar_alloc x (az3 r m1) hA3 (by decide) (i := 0) (b := r) (of_ := aH) (S := ars1) rfl 20 1 (by decide) (by decide) (by decide) (by decide) a2) (hk := ?_)
  rintro _ _ ⟨rfl, rfl⟩
  have hA4 := hA3.alloced (by decide) (i := 0) (b := r) (of_ := aH) (S := ars1) rfl (by decide) (by decide) (by decide) a2
  rw [if_pos rfl, azh3]
  rw [aze4] at hA4 ⊢
  (repeat refine Z ?_)
  refine XO_call (ar_rew0 x (az4 r m1) hA4 (by decide) aK (by decide) (by decide) (azg r m1) (by decide) (i := 0) (b := r) (S := ars2) rfl (by intro y hy; rw [show ak1.of_ = aH from rfl, show ak1.tr.toNat = 2 from rfl, azr] at hy; simp at hy; subst hy; intro hh; exact absurd hh (by decide +kernel)) ara3.1 (by decide) (by decide)) (hk := ?_)
  rintro _ _ ⟨rfl, rfl⟩
  have hA5 := hA4.rew (by decide) (i := 0) (b := r) (k := ak1) (S := ars2) rfl ara3.1 (by decide) (by decide) (by decide)
  rw [aze5] at hA5 ⊢
  generalize rewM 8 m1 ars2 1 0 42 = m2 at hA5 ⊢
  (repeat refine Z ?_)
  refine XO_call (ar_read_no x (az5 r m2) hA5 aO2 0 1 (by decide) (by decide) (by decide) (by decide) (by decide) (by decide) (by rw [azd2]; decide)) (hk := ?_)
  rintro _ _ ⟨rfl, rfl⟩
  rw [azd2]
  (repeat refine Z ?_)
  refine XO_call (ar_read_ok x (az5 r m2) hA5 aO1 0 10 (by decide) (by decide) (by decide) (by decide) (by decide) (by decide) (azd1 r m2)) (hk := ?_)
  rintro _ _ ⟨ob, rfl, rfl⟩
  have hA6 : AOk _ { az5 r m2 with m := ldM (az5 r m2).m (inH (az5 r m2) aO1 0 10).1 10 } := hA5.mem rfl
  rw [show ({ az5 r m2 with m := ldM (az5 r m2).m (inH (az5 r m2) aO1 0 10).1 10 } : Ar) = az5 r (ldM (az5 r m2).m (inH (az5 r m2) aO1 0 10).1 10) from rfl] at hA6 ⊢
  generalize ldM (az5 r m2).m (inH (az5 r m2) aO1 0 10).1 10 = m3 at hA6 ⊢
  (repeat refine Z ?_)
  refine XO_call (ar_meter x (az5 r m3) hA6) (hk := ?_)
  rintro _ _ ⟨rfl, rfl⟩
  refine XO_gT (hk := ?_)
  refine XO_pv (pv_fieldV (v := .int .u64 (IntKind.u64.wrap (sumH Sh.obj (az5 r m3) (az5 r m3).reg.handles.length)))) (hk := ?_)
  rw [azm]
  (repeat refine Z ?_)
  refine XE_ret (.inl rfl) (tells_tmps rfl rfl) ⟨_, ⟨rfl, rfl⟩, by exact EN⟩
end Go.Proofs.YtamecmklcnohjaaGreat.Sep
