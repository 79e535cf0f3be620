import Derived.Test.YtgoocobeoejoaaaBn11
import Derived.Test.YtgoocobeoejoaaaBn2
import Derived.Laws.AppendOwn
/- What the laws share: a separation logic over the model, and what the program's functions do, by it. Part 12 of 12: RegD RegE RegF Act15 Obj15 Obj16 AwakeR Fill15. -/
namespace Go.Proofs.Ytgoocobeoejoaaa.Sep
open Go.RowKit
set_option linter.unusedSimpArgs false
set_option linter.unusedVariables false
/-! regions: marks, and what is rewound -/
set_option maxHeartbeats 8000000
attribute [local irreducible] X XE XO XD XDi XDa PV RV DV pt base Spec Sl Mp Keeps Pg Kc Pgs Spc Ck XL XLi Pl Rs Rg
abbrev markV (S : Sh) : Value := .agg #[.int .i64 (S.parts.length : Int), .int .i64 (S.larges.length : Int), .int .u64 (topAt S), .int .u64 S.obj, .int .u64 S.pad]
theorem rmark_spec (r s : Nat) (o : Int) (S : Sh) (hl : S.parts.length ≤ 1048576) (hl2 : S.larges.length ≤ 1048576) : Spec Try.prog 13 [.pointer (some ⟨r, 0, none⟩)] [Rg r s o S] (fun v L => v = markV S ∧ L = [Rg r s o S]) := by
  refine Spec.intro (IsEnt.out) Try.func13 rfl Try.ntmps13 (by simp) (fun w0 F => ?_)
  simp only [envOf, List.zipIdx, List.map, List.cons_append, List.nil_append, Nat.zero_add, Nat.reduceAdd]
  repeat (first | refine Zq ?_ | refine Zs ?_ | refine ZT ?_ | refine ZF ?_ | refine Zc ?_ | refine XO_gU (hk := ?_))
  refine XO_dv dv_alloc (hk := ?_)
  rintro _ _ ⟨gb, rfl, rfl⟩
  repeat (first | refine Zq ?_ | refine Zs ?_ | refine ZT ?_ | refine ZF ?_ | refine Zc ?_ | refine XO_gU (hk := ?_))
  refine X_cond rfl (fun h => by cases h) (fun _ => ?_)
  refine X_open (A := Rg r s o S) (by (repeat (first | exact Find.here | apply Find.there))) Rg.open ?_
  rintro ⟨p0, p1⟩ -
  dsimp only [List.cons_append, List.nil_append]
  refine X_open (A := Rs r s p0 p1 S) (by (repeat (first | exact Find.here | apply Find.there))) Rs.open ?_
  rintro ⟨a, c⟩ -
  dsimp only [List.cons_append, List.nil_append]
  repeat (first | refine Zq ?_ | refine Zs ?_ | refine ZT ?_ | refine ZF ?_ | refine Zc ?_ | refine XO_gU (hk := ?_))
  repeat (first | refine XD_pick (h := ?_) | refine Dq ?_ | refine Ds ?_ | refine XDi_gF (h := ?_) | refine XDi_gU (h := ?_) | refine X_draws (h := ?_))
  refine XD_one (h := ?_)
  refine XDa_dvA (dv_call (plen_spec p1 s 1 o S.larges)) (hk := ?_)
  (rintro _ _ ⟨_, ⟨rfl, rfl⟩, rfl⟩; refine ⟨by (repeat (first | exact keeps_nil | exact keeps_fnil | refine keeps_skip (h := ?_) | refine keeps_takeQ (h := ?_))), ?_⟩)
  repeat (first | refine XD_pick (h := ?_) | refine Dq ?_ | refine Ds ?_ | refine XDi_gF (h := ?_) | refine XDi_gU (h := ?_) | refine X_draws (h := ?_))
  refine XD_one (h := ?_)
  refine XDa_dvA (dv_call (rtop_spec r s p0 p1 S a c (by omega))) (hk := ?_)
  rintro _ _ ⟨_, ⟨cb, oo, A, G, rfl, hCur, hfold, rfl⟩, rfl⟩
  refine ⟨by (repeat (first | exact keeps_nil | exact keeps_fnil | refine keeps_skip (h := ?_) | refine keeps_takeQ (h := ?_))), ?_⟩
  repeat (first | refine XD_pick (h := ?_) | refine Dq ?_ | refine Ds ?_ | refine XDi_gF (h := ?_) | refine XDi_gU (h := ?_) | refine X_draws (h := ?_))
  refine XDi_rvA (hCur.load1 (by (repeat (first | exact Find.here | apply Find.there))) rfl) (h := ?_)
  repeat (first | refine XD_pick (h := ?_) | refine Dq ?_ | refine Ds ?_ | refine XDi_gF (h := ?_) | refine XDi_gU (h := ?_) | refine X_draws (h := ?_))
  refine XD_one (h := ?_)
  refine XDa_dvk0 dv_storeW (K := _) (hk := ?_)
  (rintro _ _ rfl; refine ⟨by (repeat (first | exact keeps_nil | exact keeps_fnil | refine keeps_skip (h := ?_) | refine keeps_takeQ (h := ?_))), ?_⟩)
  (refine XD_end (h := ?_); repeat (first | refine Zq ?_ | refine Zs ?_ | refine ZT ?_ | refine ZF ?_ | refine Zc ?_ | refine XO_gU (hk := ?_)))
  refine XE_fold (by repeat (first | exact FindAll.nil | exact Find.here | apply Find.there | apply FindAll.cons)) (hfold (topAt S) S.obj S.pad) ?_
  rw [setTop_self]
  refine XE_fold (by repeat (first | exact FindAll.nil | exact Find.here | apply Find.there | apply FindAll.cons)) (Rg.fold (r := r) (s := s) (o := o) (S := S) (p0 := p0) (p1 := p1)) ?_
  refine XE_ret (.inl rfl) (tells_cell rfl) ⟨_, ⟨rfl, rfl⟩, by ((try simp only [List.cons_append, List.nil_append]); repeat (first | exact ent_refl | refine ent_take (by repeat (first | exact Find.here | apply Find.there)) ?_ | refine ent_drop ?_))⟩
theorem rcheck_spec (r s : Nat) (o : Int) (S : Sh) (mc ml at_ ob pd : Int) (hl : S.parts.length ≤ 1048576) (hl2 : S.larges.length ≤ 1048576) : Spec Try.prog 36 [.pointer (some ⟨r, 0, none⟩), .agg #[.int .i64 mc, .int .i64 ml, .int .u64 at_, .int .u64 ob, .int .u64 pd]] [Rg r s o S] (fun v L => v = .bool (fitsS S mc ml at_) ∧ L = [Rg r s o S]) := by
  refine Spec.intro (IsEnt.out) Try.func36 rfl Try.ntmps36 (by simp) (fun w0 F => ?_)
  simp only [envOf, List.zipIdx, List.map, List.cons_append, List.nil_append, Nat.zero_add, Nat.reduceAdd]
  refine X_open .here Rg.open ?_
  rintro ⟨p0, p1⟩ -
  dsimp only [List.cons_append, List.nil_append]
  refine X_open (A := Rs r s p0 p1 S) (by (repeat (first | exact Find.here | apply Find.there))) Rs.open ?_
  rintro ⟨a, c⟩ -
  dsimp only [List.cons_append, List.nil_append]
  repeat (first | refine Zq ?_ | refine Zs ?_ | refine ZT ?_ | refine ZF ?_ | refine Zc ?_ | refine XO_gU (hk := ?_))
  refine XO_dv dv_box (hk := ?_)
  rintro _ _ ⟨b3, rfl, rfl⟩
  repeat (first | refine Zq ?_ | refine Zs ?_ | refine ZT ?_ | refine ZF ?_ | refine Zc ?_ | refine XO_gU (hk := ?_))
  repeat (first | refine XD_pick (h := ?_) | refine Dq ?_ | refine Ds ?_ | refine XDi_gF (h := ?_) | refine XDi_gU (h := ?_) | refine X_draws (h := ?_))
  refine XDi_either (hT := fun h => ?_) (hF := fun h => ?_) <;> simp only [decide_eq_true_eq, decide_eq_false_iff_not] at h
  · have hF : fitsS S mc ml at_ = false := by unfold fitsS; rw [if_pos (by omega)]
    rw [hF]
    repeat (first | refine XD_pick (h := ?_) | refine Dq ?_ | refine Ds ?_ | refine XDi_gF (h := ?_) | refine XDi_gU (h := ?_) | refine X_draws (h := ?_))
    (refine XD_head (h := ?_); first | refine XDi_gF (h := ?_) | refine XDi_gU (h := ?_))
    repeat (first | refine XD_pick (h := ?_) | refine Dq ?_ | refine Ds ?_ | refine XDi_gF (h := ?_) | refine XDi_gU (h := ?_) | refine X_draws (h := ?_))
    (refine XD_end (h := ?_); repeat (first | refine Zq ?_ | refine Zs ?_ | refine ZT ?_ | refine ZF ?_ | refine Zc ?_ | refine XO_gU (hk := ?_)))
    refine X_cond rfl (fun _ => ?_) (fun h => by cases h)
    repeat (first | refine Zq ?_ | refine Zs ?_ | refine ZT ?_ | refine ZF ?_ | refine Zc ?_ | refine XO_gU (hk := ?_))
    refine XE_fold (by repeat (first | exact FindAll.nil | exact Find.here | apply Find.there | apply FindAll.cons)) (Rs.fold (S := S)) ?_
    refine XE_fold (by repeat (first | exact FindAll.nil | exact Find.here | apply Find.there | apply FindAll.cons)) (Rg.fold (S := S)) ?_
    refine XE_ret (.inl rfl) (tells_tmps rfl rfl) ⟨_, ⟨rfl, rfl⟩, by ((try simp only [List.cons_append, List.nil_append]); repeat (first | exact ent_refl | refine ent_take (by repeat (first | exact Find.here | apply Find.there)) ?_ | refine ent_drop ?_))⟩
  repeat (first | refine XD_pick (h := ?_) | refine Dq ?_ | refine Ds ?_ | refine XDi_gF (h := ?_) | refine XDi_gU (h := ?_) | refine X_draws (h := ?_))
  refine XDi_either (hT := fun h => ?_) (hF := fun h => ?_) <;> simp only [decide_eq_true_eq, decide_eq_false_iff_not] at h
  · have hF : fitsS S mc ml at_ = false := by unfold fitsS; rw [if_pos (by omega)]
    rw [hF]
    repeat (first | refine XD_pick (h := ?_) | refine Dq ?_ | refine Ds ?_ | refine XDi_gF (h := ?_) | refine XDi_gU (h := ?_) | refine X_draws (h := ?_))
    (refine XD_head (h := ?_); first | refine XDi_gF (h := ?_) | refine XDi_gU (h := ?_))
    repeat (first | refine XD_pick (h := ?_) | refine Dq ?_ | refine Ds ?_ | refine XDi_gF (h := ?_) | refine XDi_gU (h := ?_) | refine X_draws (h := ?_))
    (refine XD_end (h := ?_); repeat (first | refine Zq ?_ | refine Zs ?_ | refine ZT ?_ | refine ZF ?_ | refine Zc ?_ | refine XO_gU (hk := ?_)))
    refine X_cond rfl (fun _ => ?_) (fun h => by cases h)
    repeat (first | refine Zq ?_ | refine Zs ?_ | refine ZT ?_ | refine ZF ?_ | refine Zc ?_ | refine XO_gU (hk := ?_))
    refine XE_fold (by repeat (first | exact FindAll.nil | exact Find.here | apply Find.there | apply FindAll.cons)) (Rs.fold (S := S)) ?_
    refine XE_fold (by repeat (first | exact FindAll.nil | exact Find.here | apply Find.there | apply FindAll.cons)) (Rg.fold (S := S)) ?_
    refine XE_ret (.inl rfl) (tells_tmps rfl rfl) ⟨_, ⟨rfl, rfl⟩, by ((try simp only [List.cons_append, List.nil_append]); repeat (first | exact ent_refl | refine ent_take (by repeat (first | exact Find.here | apply Find.there)) ?_ | refine ent_drop ?_))⟩
  repeat (first | refine XD_pick (h := ?_) | refine Dq ?_ | refine Ds ?_ | refine XDi_gF (h := ?_) | refine XDi_gU (h := ?_) | refine X_draws (h := ?_))
  refine XDi_either (hT := fun h => ?_) (hF := fun h => ?_) <;> simp only [decide_eq_true_eq, decide_eq_false_iff_not] at h
  · have hF : fitsS S mc ml at_ = false := by unfold fitsS; rw [if_pos (by omega)]
    rw [hF]
    repeat (first | refine XD_pick (h := ?_) | refine Dq ?_ | refine Ds ?_ | refine XDi_gF (h := ?_) | refine XDi_gU (h := ?_) | refine X_draws (h := ?_))
    (refine XD_head (h := ?_); first | refine XDi_gF (h := ?_) | refine XDi_gU (h := ?_))
    repeat (first | refine XD_pick (h := ?_) | refine Dq ?_ | refine Ds ?_ | refine XDi_gF (h := ?_) | refine XDi_gU (h := ?_) | refine X_draws (h := ?_))
    (refine XD_end (h := ?_); repeat (first | refine Zq ?_ | refine Zs ?_ | refine ZT ?_ | refine ZF ?_ | refine Zc ?_ | refine XO_gU (hk := ?_)))
    refine X_cond rfl (fun _ => ?_) (fun h => by cases h)
    repeat (first | refine Zq ?_ | refine Zs ?_ | refine ZT ?_ | refine ZF ?_ | refine Zc ?_ | refine XO_gU (hk := ?_))
    refine XE_fold (by repeat (first | exact FindAll.nil | exact Find.here | apply Find.there | apply FindAll.cons)) (Rs.fold (S := S)) ?_
    refine XE_fold (by repeat (first | exact FindAll.nil | exact Find.here | apply Find.there | apply FindAll.cons)) (Rg.fold (S := S)) ?_
    refine XE_ret (.inl rfl) (tells_tmps rfl rfl) ⟨_, ⟨rfl, rfl⟩, by ((try simp only [List.cons_append, List.nil_append]); repeat (first | exact ent_refl | refine ent_take (by repeat (first | exact Find.here | apply Find.there)) ?_ | refine ent_drop ?_))⟩
  repeat (first | refine XD_pick (h := ?_) | refine Dq ?_ | refine Ds ?_ | refine XDi_gF (h := ?_) | refine XDi_gU (h := ?_) | refine X_draws (h := ?_))
  refine XD_one (h := ?_)
  refine XDa_dvA (dv_call (plen_spec p1 s 1 o S.larges)) (hk := ?_)
  (rintro _ _ ⟨_, ⟨rfl, rfl⟩, rfl⟩; refine ⟨by (repeat (first | exact keeps_nil | exact keeps_fnil | refine keeps_skip (h := ?_) | refine keeps_takeQ (h := ?_))), ?_⟩)
  repeat (first | refine XD_pick (h := ?_) | refine Dq ?_ | refine Ds ?_ | refine XDi_gF (h := ?_) | refine XDi_gU (h := ?_) | refine X_draws (h := ?_))
  (refine XD_end (h := ?_); repeat (first | refine Zq ?_ | refine Zs ?_ | refine ZT ?_ | refine ZF ?_ | refine Zc ?_ | refine XO_gU (hk := ?_)))
  refine X_cond rfl (fun h => ?_) (fun h => ?_) <;> simp only [decide_eq_true_eq, decide_eq_false_iff_not] at h
  · have hF : fitsS S mc ml at_ = false := by unfold fitsS; rw [if_pos (by omega)]
    rw [hF]
    repeat (first | refine Zq ?_ | refine Zs ?_ | refine ZT ?_ | refine ZF ?_ | refine Zc ?_ | refine XO_gU (hk := ?_))
    refine XE_fold (by repeat (first | exact FindAll.nil | exact Find.here | apply Find.there | apply FindAll.cons)) (Rs.fold (S := S)) ?_
    refine XE_fold (by repeat (first | exact FindAll.nil | exact Find.here | apply Find.there | apply FindAll.cons)) (Rg.fold (S := S)) ?_
    refine XE_ret (.inl rfl) (tells_tmps rfl rfl) ⟨_, ⟨rfl, rfl⟩, by ((try simp only [List.cons_append, List.nil_append]); repeat (first | exact ent_refl | refine ent_take (by repeat (first | exact Find.here | apply Find.there)) ?_ | refine ent_drop ?_))⟩
  have hbad : ¬ (mc < 0 ∨ (S.parts.length : Int) < mc ∨ ml < 0 ∨ (S.larges.length : Int) < ml) := by omega
  repeat (first | refine Zq ?_ | refine Zs ?_ | refine ZT ?_ | refine ZF ?_ | refine Zc ?_ | refine XO_gU (hk := ?_))
  refine X_cond rfl (fun h => ?_) (fun h => ?_)
  · have h0 : mc = 0 := by simpa using h
    have hF : fitsS S mc ml at_ = (at_ == 0) := by unfold fitsS; rw [if_neg hbad, if_pos h0]
    rw [hF]
    repeat (first | refine Zq ?_ | refine Zs ?_ | refine ZT ?_ | refine ZF ?_ | refine Zc ?_ | refine XO_gU (hk := ?_))
    refine XE_fold (by repeat (first | exact FindAll.nil | exact Find.here | apply Find.there | apply FindAll.cons)) (Rs.fold (S := S)) ?_
    refine XE_fold (by repeat (first | exact FindAll.nil | exact Find.here | apply Find.there | apply FindAll.cons)) (Rg.fold (S := S)) ?_
    refine XE_ret (.inl rfl) (tells_tmps rfl rfl) ⟨_, ⟨rfl, rfl⟩, by ((try simp only [List.cons_append, List.nil_append]); repeat (first | exact ent_refl | refine ent_take (by repeat (first | exact Find.here | apply Find.there)) ?_ | refine ent_drop ?_))⟩
  · have h0 : ¬ mc = 0 := by simpa using h
    have hi : (mc - 1).toNat < S.parts.length := by omega
    have hg : S.parts.getD (mc.toNat - 1) (0, 0, 0, 0) = S.parts[(mc - 1).toNat] := by
      simp only [List.getD, show mc.toNat - 1 = (mc - 1).toNat from by omega, List.getElem?_eq_getElem hi, Option.getD_some]
    have hF : fitsS S mc ml at_ = (decide ((ofI S.parts[(mc - 1).toNat].1 S.parts[(mc - 1).toNat].2.1).1 ≤ at_) && decide (at_ ≤ S.parts[(mc - 1).toNat].2.2.1)) := by unfold fitsS; rw [if_neg hbad, if_neg h0, hg]
    rw [hF]
    have hget : S.parts[(mc - 1).toNat]? = some S.parts[(mc - 1).toNat] := List.getElem?_eq_getElem hi
    generalize S.parts[(mc - 1).toNat]'hi = q at hg hF hget ⊢
    refine X_slopen (E' := eRP) (a := a) (c := c) (xs := S.parts) (by (repeat (first | exact Find.here | apply Find.there))) (by omega) ?_
    rintro qb qo rfl
    repeat (first | refine Zq ?_ | refine Zs ?_ | refine ZT ?_ | refine ZF ?_ | refine Zc ?_ | refine XO_gU (hk := ?_))
    repeat (first | refine XD_pick (h := ?_) | refine Dq ?_ | refine Ds ?_ | refine XDi_gF (h := ?_) | refine XDi_gU (h := ?_) | refine X_draws (h := ?_))
    refine XD_one (h := ?_)
    refine XDa_dvA (dv_alloc (row := [.int .u64 0, .int .u64 0, .int .u64 0])) (hk := ?_)
    rintro _ _ ⟨b5, rfl, rfl⟩
    refine ⟨by (repeat (first | exact keeps_nil | exact keeps_fnil | refine keeps_skip (h := ?_) | refine keeps_takeQ (h := ?_))), ?_⟩
    repeat (first | refine XD_pick (h := ?_) | refine Dq ?_ | refine Ds ?_ | refine XDi_gF (h := ?_) | refine XDi_gU (h := ?_) | refine X_draws (h := ?_))
    refine XD_one (h := ?_)
    refine XDa_dvk0 (dv_storeW (vs := [.int .u64 (ofI q.1 q.2.1).1, .int .u64 q.2.2.1, .int .u64 q.2.2.2])) (K := _) (hk := ?_)
    (rintro _ _ rfl; refine ⟨by (repeat (first | exact keeps_nil | exact keeps_fnil | refine keeps_skip (h := ?_) | refine keeps_takeQ (h := ?_))), ?_⟩)
    (refine XD_end (h := ?_); repeat (first | refine Zq ?_ | refine Zs ?_ | refine ZT ?_ | refine ZF ?_ | refine Zc ?_ | refine XO_gU (hk := ?_)))
    refine XO_either (hT := fun h2 => ?_) (hF := fun h2 => ?_) <;> simp only [decide_eq_true_eq, decide_eq_false_iff_not] at h2
    · rw [decide_eq_true h2, Bool.true_and]
      repeat (first | refine Zq ?_ | refine Zs ?_ | refine ZT ?_ | refine ZF ?_ | refine Zc ?_ | refine XO_gU (hk := ?_))
      refine XE_fold (by repeat (first | exact FindAll.nil | exact Find.here | apply Find.there | apply FindAll.cons)) (Rs.fold (S := S)) ?_
      refine XE_fold (by repeat (first | exact FindAll.nil | exact Find.here | apply Find.there | apply FindAll.cons)) (Rg.fold (S := S)) ?_
      refine XE_ret (.inl rfl) (tells_tmps rfl rfl) ⟨_, ⟨rfl, rfl⟩, by ((try simp only [List.cons_append, List.nil_append]); repeat (first | exact ent_refl | refine ent_take (by repeat (first | exact Find.here | apply Find.there)) ?_ | refine ent_drop ?_))⟩
    · rw [decide_eq_false h2, Bool.false_and]
      repeat (first | refine Zq ?_ | refine Zs ?_ | refine ZT ?_ | refine ZF ?_ | refine Zc ?_ | refine XO_gU (hk := ?_))
      refine XE_fold (by repeat (first | exact FindAll.nil | exact Find.here | apply Find.there | apply FindAll.cons)) (Rs.fold (S := S)) ?_
      refine XE_fold (by repeat (first | exact FindAll.nil | exact Find.here | apply Find.there | apply FindAll.cons)) (Rg.fold (S := S)) ?_
      refine XE_ret (.inl rfl) (tells_tmps rfl rfl) ⟨_, ⟨rfl, rfl⟩, by ((try simp only [List.cons_append, List.nil_append]); repeat (first | exact ent_refl | refine ent_take (by repeat (first | exact Find.here | apply Find.there)) ?_ | refine ent_drop ?_))⟩
end Go.Proofs.Ytgoocobeoejoaaa.Sep
namespace Go.Proofs.Ytgoocobeoejoaaa.Sep
open Go.RowKit
set_option linter.unusedSimpArgs false
set_option linter.unusedVariables false
/-! regions: rewound -/
set_option maxHeartbeats 8000000
attribute [local irreducible] X XE XO XD XDi XDa PV RV DV pt base Spec Sl Mp Keeps Pg Kc Pgs Spc Ck XL XLi Pl Rs Rg
theorem rrew_no (r s : Nat) (o : Int) (S : Sh) (mc ml at_ ob pd : Int) (hl : S.parts.length ≤ 1048576) (hl2 : S.larges.length ≤ 1048576) (hf : fitsS S mc ml at_ = false) :
    Spec Try.prog 14 [.pointer (some ⟨r, 0, none⟩), .agg #[.int .i64 mc, .int .i64 ml, .int .u64 at_, .int .u64 ob, .int .u64 pd]] [Rg r s o S] (fun v L => v = .int .i64 2 ∧ L = [Rg r s o S]) := by
  refine Spec.intro (IsEnt.out) Try.func14 rfl Try.ntmps14 (by simp) (fun w0 F => ?_)
  simp only [envOf, List.zipIdx, List.map, List.cons_append, List.nil_append, Nat.zero_add, Nat.reduceAdd]
  have hs := rcheck_spec r s o S mc ml at_ ob pd hl hl2
  rw [hf] at hs
  repeat (first | refine Zq ?_ | refine Zs ?_ | refine ZT ?_ | refine ZF ?_ | refine Zc ?_ | refine XO_gU (hk := ?_))
  refine XO_dv dv_box (hk := ?_)
  rintro _ _ ⟨b3, rfl, rfl⟩
  repeat (first | refine Zq ?_ | refine Zs ?_ | refine ZT ?_ | refine ZF ?_ | refine Zc ?_ | refine XO_gU (hk := ?_))
  refine XO_call hs (hk := ?_)
  rintro _ _ ⟨rfl, rfl⟩
  repeat (first | refine Zq ?_ | refine Zs ?_ | refine ZT ?_ | refine ZF ?_ | refine Zc ?_ | refine XO_gU (hk := ?_))
  refine X_cond rfl (fun _ => ?_) (fun h => by cases h)
  repeat (first | refine Zq ?_ | refine Zs ?_ | refine ZT ?_ | refine ZF ?_ | refine Zc ?_ | refine XO_gU (hk := ?_))
  refine XE_ret (.inl rfl) (tells_tmps rfl rfl) ⟨_, ⟨rfl, rfl⟩, by ((try simp only [List.cons_append, List.nil_append]); repeat (first | exact ent_refl | refine ent_take (by repeat (first | exact Find.here | apply Find.there)) ?_ | refine ent_drop ?_))⟩
theorem rrew_ok (r s sb : Nat) {P : Int} {B : Nat} {o : Int} {C : Co} {m : Mm} {S : Sh} {oth : List (Int × Hd)} {mc ml at_ ob pd : Int} (hR : RInv P B o C m.f S oth) (hf : fitsS S mc ml at_ = true) (h0 : 0 ≤ at_) (h1 : at_ ≤ 18446744073709551615) :
    Spec Try.prog 14 [.pointer (some ⟨r, 0, none⟩), .agg #[.int .i64 mc, .int .i64 ml, .int .u64 at_, .int .u64 ob, .int .u64 pd]] [Rg r s o S, Ck s sb C, Spc sb P m]
      (fun v L => v = .int .i64 0 ∧ L = [Rg r s o (setTop (cutS S mc ml) at_ ob pd), Ck s sb (putsC C S mc ml), Spc sb P (rewM P m S mc ml at_)]) := by
  refine Spec.intro (IsEnt.out) Try.func14 rfl Try.ntmps14 (by simp) (fun w0 F => ?_)
  simp only [envOf, List.zipIdx, List.map, List.cons_append, List.nil_append, Nat.zero_add, Nat.reduceAdd]
  have hlen := hR.len
  have hPb := hR.P1
  have hs := rcheck_spec r s o S mc ml at_ ob pd hlen.1 hlen.2
  rw [hf] at hs
  obtain ⟨f1, f2, f3, f4, f5, f6⟩ := fits_bds hf
  repeat (first | refine Zq ?_ | refine Zs ?_ | refine ZT ?_ | refine ZF ?_ | refine Zc ?_ | refine XO_gU (hk := ?_))
  refine XO_dv dv_box (hk := ?_)
  rintro _ _ ⟨b3, rfl, rfl⟩
  repeat (first | refine Zq ?_ | refine Zs ?_ | refine ZT ?_ | refine ZF ?_ | refine Zc ?_ | refine XO_gU (hk := ?_))
  refine XO_call hs (hk := ?_)
  rintro _ _ ⟨rfl, rfl⟩
  repeat (first | refine Zq ?_ | refine Zs ?_ | refine ZT ?_ | refine ZF ?_ | refine Zc ?_ | refine XO_gU (hk := ?_))
  refine X_cond rfl (fun h => by cases h) (fun _ => ?_)
  refine X_open (A := Rg r s o S) (by (repeat (first | exact Find.here | apply Find.there))) Rg.open ?_
  rintro ⟨p0, p1⟩ -
  dsimp only [List.cons_append, List.nil_append]
  refine X_open (A := Rs r s p0 p1 S) (by (repeat (first | exact Find.here | apply Find.there))) Rs.open ?_
  rintro ⟨a, c⟩ -
  dsimp only [List.cons_append, List.nil_append]
  have hK1 := hR.k1
  have s1 := pcut_spec p1 s sb hK1 hR.hP hlen.2 (n := ml) f3
  obtain ⟨k1, k2⟩ := pcut_inv hK1 hR.hP hlen.2 ml.toNat
  have hK2 : KInv (cutC C (S.larges.drop ml.toNat)) (cutM P m (S.larges.drop ml.toNat)).f (plH 0 o 0 (S.parts.map runP) ++ (plH 1 o 0 (S.larges.take ml.toNat) ++ oth)) := by
    refine k1.perm ?_
    refine (List.Perm.of_eq (List.append_assoc _ _ _).symm).trans (((List.perm_append_comm).append_right oth).trans (List.Perm.of_eq (List.append_assoc _ _ _)))
  have s2 := pcut_spec p0 s sb hK2 k2 (by simp; exact hlen.1) (n := mc) f1
  have hC : putsC C S mc ml = cutC (cutC C (S.larges.drop ml.toNat)) ((S.parts.map runP).drop mc.toNat) := rfl
  unfold rewM
  rw [hC]
  repeat (first | refine Zq ?_ | refine Zs ?_ | refine ZT ?_ | refine ZF ?_ | refine Zc ?_ | refine XO_gU (hk := ?_))
  repeat (first | refine XD_pick (h := ?_) | refine Dq ?_ | refine Ds ?_ | refine XDi_gF (h := ?_) | refine XDi_gU (h := ?_) | refine X_draws (h := ?_))
  refine XD_one (h := ?_)
  refine XDa_dvA (dv_call s1) (hk := ?_)
  (rintro _ _ ⟨_, ⟨rfl, rfl⟩, rfl⟩; refine ⟨by (repeat (first | exact keeps_nil | exact keeps_fnil | refine keeps_skip (h := ?_) | refine keeps_takeQ (h := ?_))), ?_⟩)
  (refine XD_end (h := ?_); repeat (first | refine Zq ?_ | refine Zs ?_ | refine ZT ?_ | refine ZF ?_ | refine Zc ?_ | refine XO_gU (hk := ?_)))
  repeat (first | refine XD_pick (h := ?_) | refine Dq ?_ | refine Ds ?_ | refine XDi_gF (h := ?_) | refine XDi_gU (h := ?_) | refine X_draws (h := ?_))
  refine XD_one (h := ?_)
  refine XDa_dvA (dv_call s2) (hk := ?_)
  (rintro _ _ ⟨_, ⟨rfl, rfl⟩, rfl⟩; refine ⟨by (repeat (first | exact keeps_nil | exact keeps_fnil | refine keeps_skip (h := ?_) | refine keeps_takeQ (h := ?_))), ?_⟩)
  (refine XD_end (h := ?_); repeat (first | refine Zq ?_ | refine Zs ?_ | refine ZT ?_ | refine ZF ?_ | refine Zc ?_ | refine XO_gU (hk := ?_)))
  clear s1 s2
  generalize cutM P (cutM P m (S.larges.drop ml.toNat)) ((S.parts.map runP).drop mc.toNat) = m1
  generalize cutC (cutC C (S.larges.drop ml.toNat)) ((S.parts.map runP).drop mc.toNat) = C1
  refine X_fact (A := Sl eRP a c S.parts) (by (repeat (first | exact Find.here | apply Find.there))) Sl.cap (fun hcap => ?_)
  repeat (first | refine Zq ?_ | refine Zs ?_ | refine ZT ?_ | refine ZF ?_ | refine Zc ?_ | refine XO_gU (hk := ?_))
  repeat (first | refine XD_pick (h := ?_) | refine Dq ?_ | refine Ds ?_ | refine XDi_gF (h := ?_) | refine XDi_gU (h := ?_) | refine X_draws (h := ?_))
  refine XD_one (h := ?_)
  refine XDa_dvk0 dv_store (K := _) (hk := ?_)
  (rintro _ _ rfl; refine ⟨by (repeat (first | exact keeps_nil | exact keeps_fnil | refine keeps_skip (h := ?_) | refine keeps_takeQ (h := ?_))), ?_⟩)
  (refine XD_end (h := ?_); repeat (first | refine Zq ?_ | refine Zs ?_ | refine ZT ?_ | refine ZF ?_ | refine Zc ?_ | refine XO_gU (hk := ?_)))
  have hln : mc.toNat = (cutS S mc ml).parts.length := by simp [cutS]; omega
  have hruns := cut_runs S mc ml
  have hlar : (cutS S mc ml).larges = S.larges.take ml.toNat := rfl
  refine XO_conv (fun _ => SL_take (E' := eRP) (a := a) (c := c) (xs := S.parts) mc.toNat (by (repeat (first | exact Find.here | apply Find.there)))) ?_
  refine XO_fold (by repeat (first | exact FindAll.nil | exact Find.here | apply Find.there | apply FindAll.cons)) (Rs.foldN (r := r) (s := s) (p0 := p0) (p1 := p1) (S := cutS S mc ml) (a := a) (c := c) (n := mc.toNat) hln) ?_
  have hsl : (cutS S mc ml).parts.length ≤ 4611686018427387904 := by omega
  have htop : at_ < topAt (cutS S mc ml) → 0 ≤ topAt (cutS S mc ml) ∧ topAt (cutS S mc ml) ≤ P * 4096 := fun hlt => by
    have hmc : mc ≠ 0 := by
      intro h
      have h2 := f5 h
      have : topAt (cutS S mc ml) = 0 := by unfold topAt cutS; rw [h]; rfl
      omega
    obtain ⟨e1, e2, e3, e4⟩ := f6 hmc
    have hm1 : lastP (cutS S mc ml).parts ∈ S.parts := List.mem_of_mem_take (last_mem e1)
    have hrun := hR.S.pi.parts _ (List.mem_map.2 ⟨_, hm1, rfl⟩)
    have hpo := hR.po _ hm1
    unfold RunOk runP at hrun
    unfold PtOk at hpo
    unfold topAt
    simp only at hrun
    omega
  clear hln f6
  generalize cutS S mc ml = S1 at hruns hlar hsl htop ⊢
  refine XO_open (A := Rs r s p0 p1 S1) (by (repeat (first | exact Find.here | apply Find.there))) Rs.open ?_
  rintro ⟨a1, c1⟩ -
  dsimp only [List.cons_append, List.nil_append]
  refine XO_call (rtop_spec r s p0 p1 S1 a1 c1 hsl) (hk := ?_)
  rintro _ _ ⟨cb, oo, A, G, rfl, hCur, hfold, rfl⟩
  repeat (first | refine Zq ?_ | refine Zs ?_ | refine ZT ?_ | refine ZF ?_ | refine Zc ?_ | refine XO_gU (hk := ?_))
  refine XO_rv (hCur.load1 (by (repeat (first | exact Find.here | apply Find.there))) rfl) (hk := ?_)
  refine XO_fold (by repeat (first | exact FindAll.nil | exact Find.here | apply Find.there | apply FindAll.cons)) (hfold (topAt S1) S1.obj S1.pad) ?_
  rw [setTop_self]
  clear hCur hfold
  refine XO_open (A := Rs r s p0 p1 S1) (by (repeat (first | exact Find.here | apply Find.there))) Rs.open ?_
  rintro ⟨a2, c2⟩ -
  dsimp only [List.cons_append, List.nil_append]
  repeat (first | refine Zq ?_ | refine Zs ?_ | refine ZT ?_ | refine ZF ?_ | refine Zc ?_ | refine XO_gU (hk := ?_))
  refine X_cond rfl (fun hlt => ?_) (fun hlt => ?_) <;> simp only [decide_eq_true_eq, decide_eq_false_iff_not] at hlt
  · rw [if_pos hlt]
    have ht := htop hlt
    have hz := Zero_spec sb P m1 at_ (topAt S1 - at_) (by omega) hPb.2 h0 h1 (by omega) (by omega)
    unfold zeroV at hz
    rw [if_pos (by omega)] at hz
    repeat (first | refine Zq ?_ | refine Zs ?_ | refine ZT ?_ | refine ZF ?_ | refine Zc ?_ | refine XO_gU (hk := ?_))
    repeat (first | refine XD_pick (h := ?_) | refine Dq ?_ | refine Ds ?_ | refine XDi_gF (h := ?_) | refine XDi_gU (h := ?_) | refine X_draws (h := ?_))
    refine XD_one (h := ?_)
    refine XDa_dvA (dv_call (kspace_spec s sb C1)) (hk := ?_)
    (rintro _ _ ⟨_, ⟨rfl, rfl⟩, rfl⟩; refine ⟨by (repeat (first | exact keeps_nil | exact keeps_fnil | refine keeps_skip (h := ?_) | refine keeps_takeQ (h := ?_))), ?_⟩)
    repeat (first | refine XD_pick (h := ?_) | refine Dq ?_ | refine Ds ?_ | refine XDi_gF (h := ?_) | refine XDi_gU (h := ?_) | refine X_draws (h := ?_))
    refine XD_one (h := ?_)
    refine XDa_dvA (dv_call hz) (hk := ?_)
    (rintro _ _ ⟨_, ⟨rfl, rfl⟩, rfl⟩; refine ⟨by (repeat (first | exact keeps_nil | exact keeps_fnil | refine keeps_skip (h := ?_) | refine keeps_takeQ (h := ?_))), ?_⟩)
    (refine XD_end (h := ?_); repeat (first | refine Zq ?_ | refine Zs ?_ | refine ZT ?_ | refine ZF ?_ | refine Zc ?_ | refine XO_gU (hk := ?_)))
    repeat (first | refine Zq ?_ | refine Zs ?_ | refine ZT ?_ | refine ZF ?_ | refine Zc ?_ | refine XO_gU (hk := ?_))
    repeat (first | refine XD_pick (h := ?_) | refine Dq ?_ | refine Ds ?_ | refine XDi_gF (h := ?_) | refine XDi_gU (h := ?_) | refine X_draws (h := ?_))
    refine XD_one (h := ?_)
    refine XDa_dvA (dv_call (rtop_spec r s p0 p1 S1 a2 c2 hsl)) (hk := ?_)
    rintro _ _ ⟨_, ⟨cb2, o2, A2, G2, rfl, hCur2, hfold2, rfl⟩, rfl⟩
    refine ⟨by (repeat (first | exact keeps_nil | exact keeps_fnil | refine keeps_skip (h := ?_) | refine keeps_takeQ (h := ?_))), ?_⟩
    repeat (first | refine XD_pick (h := ?_) | refine Dq ?_ | refine Ds ?_ | refine XDi_gF (h := ?_) | refine XDi_gU (h := ?_) | refine X_draws (h := ?_))
    refine XD_one (h := ?_)
    refine XDa_dvk0 (hCur2.store1 (a' := at_) (by (repeat (first | exact Find.here | apply Find.there))) rfl rfl) (K := _) (hk := ?_)
    (rintro _ _ rfl; refine ⟨by (repeat (first | exact keeps_nil | exact keeps_fnil | refine keeps_skip (h := ?_) | refine keeps_takeQ (h := ?_))), ?_⟩)
    (refine XD_end (h := ?_); repeat (first | refine Zq ?_ | refine Zs ?_ | refine ZT ?_ | refine ZF ?_ | refine Zc ?_ | refine XO_gU (hk := ?_)))
    refine XO_dv0 (dv_storeP (vs := [.int .u64 ob, .int .u64 pd])) (hk := ?_)
    rintro _ _ rfl
    refine XO_fold (by repeat (first | exact FindAll.nil | exact Find.here | apply Find.there | apply FindAll.cons)) (hfold2 at_ ob pd) ?_
    rw [← hruns, ← hlar]
    refine XO_fold (by repeat (first | exact FindAll.nil | exact Find.here | apply Find.there | apply FindAll.cons)) (Rg.foldT (r := r) (s := s) (o := o) (S := S1) (p0 := p0) (p1 := p1) (a := at_) (b := ob) (c := pd)) ?_
    repeat (first | refine Zq ?_ | refine Zs ?_ | refine ZT ?_ | refine ZF ?_ | refine Zc ?_ | refine XO_gU (hk := ?_))
    refine XE_ret (.inl rfl) (tells_tmps rfl rfl) ⟨_, ⟨rfl, rfl⟩, by ((try simp only [List.cons_append, List.nil_append]); repeat (first | exact ent_refl | refine ent_take (by repeat (first | exact Find.here | apply Find.there)) ?_ | refine ent_drop ?_))⟩
  · rw [if_neg hlt]
    repeat (first | refine Zq ?_ | refine Zs ?_ | refine ZT ?_ | refine ZF ?_ | refine Zc ?_ | refine XO_gU (hk := ?_))
    repeat (first | refine XD_pick (h := ?_) | refine Dq ?_ | refine Ds ?_ | refine XDi_gF (h := ?_) | refine XDi_gU (h := ?_) | refine X_draws (h := ?_))
    refine XD_one (h := ?_)
    refine XDa_dvA (dv_call (rtop_spec r s p0 p1 S1 a2 c2 hsl)) (hk := ?_)
    rintro _ _ ⟨_, ⟨cb2, o2, A2, G2, rfl, hCur2, hfold2, rfl⟩, rfl⟩
    refine ⟨by (repeat (first | exact keeps_nil | exact keeps_fnil | refine keeps_skip (h := ?_) | refine keeps_takeQ (h := ?_))), ?_⟩
    repeat (first | refine XD_pick (h := ?_) | refine Dq ?_ | refine Ds ?_ | refine XDi_gF (h := ?_) | refine XDi_gU (h := ?_) | refine X_draws (h := ?_))
    refine XD_one (h := ?_)
    refine XDa_dvk0 (hCur2.store1 (a' := at_) (by (repeat (first | exact Find.here | apply Find.there))) rfl rfl) (K := _) (hk := ?_)
    (rintro _ _ rfl; refine ⟨by (repeat (first | exact keeps_nil | exact keeps_fnil | refine keeps_skip (h := ?_) | refine keeps_takeQ (h := ?_))), ?_⟩)
    (refine XD_end (h := ?_); repeat (first | refine Zq ?_ | refine Zs ?_ | refine ZT ?_ | refine ZF ?_ | refine Zc ?_ | refine XO_gU (hk := ?_)))
    refine XO_dv0 (dv_storeP (vs := [.int .u64 ob, .int .u64 pd])) (hk := ?_)
    rintro _ _ rfl
    refine XO_fold (by repeat (first | exact FindAll.nil | exact Find.here | apply Find.there | apply FindAll.cons)) (hfold2 at_ ob pd) ?_
    rw [← hruns, ← hlar]
    refine XO_fold (by repeat (first | exact FindAll.nil | exact Find.here | apply Find.there | apply FindAll.cons)) (Rg.foldT (r := r) (s := s) (o := o) (S := S1) (p0 := p0) (p1 := p1) (a := at_) (b := ob) (c := pd)) ?_
    repeat (first | refine Zq ?_ | refine Zs ?_ | refine ZT ?_ | refine ZF ?_ | refine Zc ?_ | refine XO_gU (hk := ?_))
    refine XE_ret (.inl rfl) (tells_tmps rfl rfl) ⟨_, ⟨rfl, rfl⟩, by ((try simp only [List.cons_append, List.nil_append]); repeat (first | exact ent_refl | refine ent_take (by repeat (first | exact Find.here | apply Find.there)) ?_ | refine ent_drop ?_))⟩
theorem rreset_spec (r s sb : Nat) {P : Int} {B : Nat} {o : Int} {C : Co} {m : Mm} {S : Sh} {oth : List (Int × Hd)} (hR : RInv P B o C m.f S oth) :
    Spec Try.prog 15 [.pointer (some ⟨r, 0, none⟩)] [Rg r s o S, Ck s sb C, Spc sb P m]
      (fun v L => v = .int .i64 0 ∧ L = [Rg r s o emptySh, Ck s sb (putsC C S 0 0), Spc sb P (rewM P m S 0 0 0)]) := by
  refine Spec.intro (IsEnt.out) Try.func15 rfl Try.ntmps15 (by simp) (fun w0 F => ?_)
  simp only [envOf, List.zipIdx, List.map, List.cons_append, List.nil_append, Nat.zero_add, Nat.reduceAdd]
  have hf : fitsS S 0 0 0 = true := by
    unfold fitsS
    rw [if_neg (by omega), if_pos rfl]
    rfl
  have hs := rrew_ok r s sb (ob := 0) (pd := 0) hR hf (Int.le_refl _) (by decide)
  repeat (first | refine Zq ?_ | refine Zs ?_ | refine ZT ?_ | refine ZF ?_ | refine Zc ?_ | refine XO_gU (hk := ?_))
  refine XO_call hs (hk := ?_)
  rintro _ _ ⟨rfl, rfl⟩
  repeat (first | refine Zq ?_ | refine Zs ?_ | refine ZT ?_ | refine ZF ?_ | refine Zc ?_ | refine XO_gU (hk := ?_))
  refine XE_ret (.inl rfl) (tells_tmps rfl rfl) ⟨_, ⟨rfl, rfl⟩, by ((try simp only [List.cons_append, List.nil_append]); repeat (first | exact ent_refl | refine ent_take (by repeat (first | exact Find.here | apply Find.there)) ?_ | refine ent_drop ?_))⟩
end Go.Proofs.Ytgoocobeoejoaaa.Sep
namespace Go.Proofs.Ytgoocobeoejoaaa.Sep
open Go.RowKit
set_option linter.unusedSimpArgs false
set_option linter.unusedVariables false
/-! regions: what they use; their chunks; fresh ones -/
/-- An element of an array that is at hand. -/
theorem pv_indexAg {P : Program} {T el len s by' : Nat} {ty : TypeId} {e : Env} {x i : Operand} {kk : IntKind} {iv : Int} {z v : Value} {vs : List Value} {dd : TypeDesc} [hu : TU P T (.array len el)] [hft : TU P el dd] [hi : TI P el z s by'] (hg : aggD dd = false := by rfl)
    (hx : ev e x = some (.agg vs.toArray) := by rfl) (hiv : ev e i = some (.int kk iv) := by rfl) (h0 : 0 ≤ iv := by omega) (h1 : iv < (len : Int) := by omega) (hv : vs[iv.toNat * s]? = some v := by rfl) : PV P (.index T x i) ty e v := fun tm w pos aft h => by
  have h2 : (underlying T).run P w = .ok (.array len el) w := run_und hu.out
  have h6 : vs.toArray[iv.toNat * s]? = some v := by simpa using hv
  simp [execOp, Instr.index, ev_sound h hx, ev_sound h hiv, asIntOf, h2, h0, h1, run_size hi, part, run_isAgg hft.out, hg, hv]
abbrev meterV (S : Sh) : Value := .agg #[.int .i64 (shPages S), .int .i64 0, .int .i64 0, .int .i64 0, .int .u64 S.obj, .int .u64 S.pad, .int .u64 (shHdr S), .int .u64 (IntKind.u64.wrap (shPages S * 4096 - shHdr S - S.obj - S.pad))]
theorem wrap_sub (x y : Int) : IntKind.u64.wrap (IntKind.u64.wrap x - y) = IntKind.u64.wrap (x - y) := by
  simp only [wrap_u64_eq]; omega
theorem RInv.bd {P : Int} {B : Nat} {o : Int} {C : Co} {m : Int → Int} {s : Sh} {oth : List (Int × Hd)} (h : RInv P B o C m s oth) : Bd (s.parts.map runP) ∧ Bd s.larges := by
  have hP := h.P1
  refine ⟨fun r hr => ?_, fun r hr => ?_⟩
  · have := h.S.pi.parts r hr; unfold RunOk at this; omega
  · have := h.S.pi.larges r hr; unfold RunOk at this; omega
theorem tot_bd0 : ∀ {l : List (Int × Int)}, Bd l → l.length ≤ 1048576 → 0 ≤ totI l ∧ totI l ≤ 1099511627776 := by
  have key : ∀ l : List (Int × Int), Bd l → 0 ≤ totI l ∧ totI l ≤ 1048576 * (l.length : Int) := by
    intro l
    induction l with
    | nil => intro _; simp [totI]
    | cons r l ih =>
      intro h
      have h1 := h r (by simp)
      have h2 := ih fun q hq => h q (by simp [hq])
      rw [tot_cons]; simp; omega
  intro l h hl
  have := key l h
  omega
def mH (S : Sh) : Nat → Int
  | 0 => 0
  | 1 => totI (S.parts.map runP)
  | _ => totI (S.parts.map runP) + totI S.larges
def mN (S : Sh) : Nat → Int
  | 0 => 0
  | 1 => 32 * (S.parts.length : Int)
  | _ => 32 * (S.parts.length : Int) + 32 * (S.larges.length : Int)
inductive NewSt
  | a
  | b (p : Nat)
  | c (p q : Nat)
def NewSt.k : NewSt → Int
  | .a => 0
  | .b _ => 1
  | .c _ _ => 2
def NewSt.n : NewSt → Nat
  | .a => 2
  | .b _ => 1
  | .c _ _ => 0
def NewSt.L (r s : Nat) (o : Int) : NewSt → List HP
  | .a => [pt r (.cells [.int .u64 0, .int .u64 0, .pointer (some ⟨s, 0, none⟩), .pointer none, .pointer none, .slice none 0 0].toArray 72 (0, 0))]
  | .b p => [pt r (.cells [.int .u64 0, .int .u64 0, .pointer (some ⟨s, 0, none⟩), .pointer (some ⟨p, 0, none⟩), .pointer none, .slice none 0 0].toArray 72 (0, 0)), Pl p s 0 o []]
  | .c p q => [pt r (.cells [.int .u64 0, .int .u64 0, .pointer (some ⟨s, 0, none⟩), .pointer (some ⟨p, 0, none⟩), .pointer (some ⟨q, 0, none⟩), .slice none 0 0].toArray 72 (0, 0)), Pl p s 0 o [], Pl q s 1 o []]
set_option maxHeartbeats 8000000
attribute [local irreducible] X XE XO XD XDi XDa PV RV DV pt base Spec Sl Mp Keeps Pg Kc Pgs Spc Ck XL XLi Pl Rs Rg
theorem rnew_spec (s : Nat) (o : Int) : Spec Try.prog 6 [.pointer (some ⟨s, 0, none⟩), .int .u64 o] [] (fun v L => ∃ r, v = .pointer (some ⟨r, 0, none⟩) ∧ L = [Rg r s o emptySh]) := by
  refine Spec.intro (IsEnt.out) Try.func6 rfl Try.ntmps6 (by simp) (fun w0 F => ?_)
  simp only [envOf, List.zipIdx, List.map, List.cons_append, List.nil_append, Nat.zero_add, Nat.reduceAdd]
  repeat (first | refine Zq ?_ | refine Zs ?_ | refine ZT ?_ | refine ZF ?_ | refine Zc ?_ | refine XO_gU (hk := ?_))
  refine XO_pv (pv_buildG [.int .u64 0, .int .u64 0, .pointer (some ⟨s, 0, none⟩), .pointer none, .pointer none, .slice none 0 0]) (hk := ?_)
  repeat (first | refine Zq ?_ | refine Zs ?_ | refine ZT ?_ | refine ZF ?_ | refine Zc ?_ | refine XO_gU (hk := ?_))
  refine XO_dv dv_box (hk := ?_)
  rintro _ _ ⟨r, rfl, rfl⟩
  repeat (first | refine Zq ?_ | refine Zs ?_ | refine ZT ?_ | refine ZF ?_ | refine Zc ?_ | refine XO_gU (hk := ?_))
  refine X_loop (ι := NewSt) (fun _ => True) (fun q => [(0, .pointer (some ⟨s, 0, none⟩)), (1, .int .u64 o), (5, .pointer (some ⟨r, 0, none⟩)), (10, .int .i64 q.k)]) (fun q => q.L r s o ++ F) (fun q => q.n) .a trivial ?_ (by show ∀ H, _ → SL (pt r _ :: F) H; ((try simp only [List.cons_append, List.nil_append]); repeat (first | exact ent_refl | refine ent_take (by repeat (first | exact Find.here | apply Find.there)) ?_ | refine ent_drop ?_))) ?_
  · (repeat (first | exact Env.sub_nil _ | refine Env.sub_cons rfl ?_))
  rintro (_ | p | ⟨p, q⟩) -
  · simp only [NewSt.L, NewSt.k, NewSt.n, List.cons_append, List.nil_append]
    repeat (first | refine Zq ?_ | refine Zs ?_ | refine ZT ?_ | refine ZF ?_ | refine Zc ?_ | refine XO_gU (hk := ?_))
    refine X_cond rfl (fun _ => ?_) (fun h => by cases h)
    repeat (first | refine Zq ?_ | refine Zs ?_ | refine ZT ?_ | refine ZF ?_ | refine Zc ?_ | refine XO_gU (hk := ?_))
    repeat (first | refine XD_pick (h := ?_) | refine Dq ?_ | refine Ds ?_ | refine XDi_gF (h := ?_) | refine XDi_gU (h := ?_) | refine X_draws (h := ?_))
    refine XD_one (h := ?_)
    refine XDa_dvA (dv_call (plnew_spec s 0 o)) (hk := ?_)
    rintro _ _ ⟨_, ⟨p, rfl, rfl⟩, rfl⟩
    refine ⟨by (repeat (first | exact keeps_nil | exact keeps_fnil | refine keeps_skip (h := ?_) | refine keeps_takeQ (h := ?_))), ?_⟩
    repeat (first | refine XD_pick (h := ?_) | refine Dq ?_ | refine Ds ?_ | refine XDi_gF (h := ?_) | refine XDi_gU (h := ?_) | refine X_draws (h := ?_))
    refine XD_one (h := ?_)
    refine XDa_dvk0 dv_store (K := _) (hk := ?_)
    (rintro _ _ rfl; refine ⟨by (repeat (first | exact keeps_nil | exact keeps_fnil | refine keeps_skip (h := ?_) | refine keeps_takeQ (h := ?_))), ?_⟩)
    (refine XD_end (h := ?_); repeat (first | refine Zq ?_ | refine Zs ?_ | refine ZT ?_ | refine ZF ?_ | refine Zc ?_ | refine XO_gU (hk := ?_)))
    exact X_round (.b p) trivial (by show 1 < 2; decide) (by (repeat (first | exact Env.sub_nil _ | refine Env.sub_cons rfl ?_))) (by show ∀ H, _ → SL (pt r _ :: Pl p s 0 o [] :: F) H; ((try simp only [List.cons_append, List.nil_append]); repeat (first | exact ent_refl | refine ent_take (by repeat (first | exact Find.here | apply Find.there)) ?_ | refine ent_drop ?_)))
  · simp only [NewSt.L, NewSt.k, NewSt.n, List.cons_append, List.nil_append]
    repeat (first | refine Zq ?_ | refine Zs ?_ | refine ZT ?_ | refine ZF ?_ | refine Zc ?_ | refine XO_gU (hk := ?_))
    refine X_cond rfl (fun _ => ?_) (fun h => by cases h)
    repeat (first | refine Zq ?_ | refine Zs ?_ | refine ZT ?_ | refine ZF ?_ | refine Zc ?_ | refine XO_gU (hk := ?_))
    repeat (first | refine XD_pick (h := ?_) | refine Dq ?_ | refine Ds ?_ | refine XDi_gF (h := ?_) | refine XDi_gU (h := ?_) | refine X_draws (h := ?_))
    refine XD_one (h := ?_)
    refine XDa_dvA (dv_call (plnew_spec s 1 o)) (hk := ?_)
    rintro _ _ ⟨_, ⟨q, rfl, rfl⟩, rfl⟩
    refine ⟨by (repeat (first | exact keeps_nil | exact keeps_fnil | refine keeps_skip (h := ?_) | refine keeps_takeQ (h := ?_))), ?_⟩
    repeat (first | refine XD_pick (h := ?_) | refine Dq ?_ | refine Ds ?_ | refine XDi_gF (h := ?_) | refine XDi_gU (h := ?_) | refine X_draws (h := ?_))
    refine XD_one (h := ?_)
    refine XDa_dvk0 dv_store (K := _) (hk := ?_)
    (rintro _ _ rfl; refine ⟨by (repeat (first | exact keeps_nil | exact keeps_fnil | refine keeps_skip (h := ?_) | refine keeps_takeQ (h := ?_))), ?_⟩)
    (refine XD_end (h := ?_); repeat (first | refine Zq ?_ | refine Zs ?_ | refine ZT ?_ | refine ZF ?_ | refine Zc ?_ | refine XO_gU (hk := ?_)))
    exact X_round (.c p q) trivial (by show 0 < 1; decide) (by (repeat (first | exact Env.sub_nil _ | refine Env.sub_cons rfl ?_))) (by show ∀ H, _ → SL (pt r _ :: Pl p s 0 o [] :: Pl q s 1 o [] :: F) H; ((try simp only [List.cons_append, List.nil_append]); repeat (first | exact ent_refl | refine ent_take (by repeat (first | exact Find.here | apply Find.there)) ?_ | refine ent_drop ?_)))
  · simp only [NewSt.L, NewSt.k, NewSt.n, List.cons_append, List.nil_append]
    repeat (first | refine Zq ?_ | refine Zs ?_ | refine ZT ?_ | refine ZF ?_ | refine Zc ?_ | refine XO_gU (hk := ?_))
    refine X_cond rfl (fun h => by cases h) (fun _ => ?_)
    repeat (first | refine Zq ?_ | refine Zs ?_ | refine ZT ?_ | refine ZF ?_ | refine Zc ?_ | refine XO_gU (hk := ?_))
    refine XE_conv (fun _ h => SL_nilSl eRP h) ?_
    refine XE_fold (by repeat (first | exact FindAll.nil | exact Find.here | apply Find.there | apply FindAll.cons)) (Rs.fold (r := r) (s := s) (p0 := p) (p1 := q) (S := emptySh) (a := none) (c := 0)) ?_
    refine XE_fold (by repeat (first | exact FindAll.nil | exact Find.here | apply Find.there | apply FindAll.cons)) (Rg.fold (r := r) (s := s) (o := o) (S := emptySh) (p0 := p) (p1 := q)) ?_
    refine XE_ret (.inl rfl) (tells_tmps rfl rfl) ⟨_, ⟨r, rfl, rfl⟩, by ((try simp only [List.cons_append, List.nil_append]); repeat (first | exact ent_refl | refine ent_take (by repeat (first | exact Find.here | apply Find.there)) ?_ | refine ent_drop ?_))⟩
theorem rmeter_spec (r s : Nat) (o : Int) (S : Sh) (hl : S.parts.length ≤ 1048576) (hl2 : S.larges.length ≤ 1048576) (hB0 : Bd (S.parts.map runP)) (hB1 : Bd S.larges) : Spec Try.prog 17 [.pointer (some ⟨r, 0, none⟩)] [Rg r s o S] (fun v L => v = meterV S ∧ L = [Rg r s o S]) := by
  refine Spec.intro (IsEnt.out) Try.func17 rfl Try.ntmps17 (by simp) (fun w0 F => ?_)
  simp only [envOf, List.zipIdx, List.map, List.cons_append, List.nil_append, Nat.zero_add, Nat.reduceAdd]
  have hml : (S.parts.map runP).length = S.parts.length := List.length_map ..
  have ht0 := tot_bd0 hB0 (by omega)
  have ht1 := tot_bd0 hB1 hl2
  repeat (first | refine Zq ?_ | refine Zs ?_ | refine ZT ?_ | refine ZF ?_ | refine Zc ?_ | refine XO_gU (hk := ?_))
  refine XO_dv dv_alloc (hk := ?_)
  rintro _ _ ⟨gb, rfl, rfl⟩
  repeat (first | refine Zq ?_ | refine Zs ?_ | refine ZT ?_ | refine ZF ?_ | refine Zc ?_ | refine XO_gU (hk := ?_))
  refine X_cond rfl (fun h => by cases h) (fun _ => ?_)
  refine X_open (A := Rg r s o S) (by (repeat (first | exact Find.here | apply Find.there))) Rg.open ?_
  rintro ⟨p0, p1⟩ -
  dsimp only [List.cons_append, List.nil_append]
  refine X_open (A := Rs r s p0 p1 S) (by (repeat (first | exact Find.here | apply Find.there))) Rs.open ?_
  rintro ⟨a, c⟩ -
  dsimp only [List.cons_append, List.nil_append]
  repeat (first | refine Zq ?_ | refine Zs ?_ | refine ZT ?_ | refine ZF ?_ | refine Zc ?_ | refine XO_gU (hk := ?_))
  repeat (first | refine XD_pick (h := ?_) | refine Dq ?_ | refine Ds ?_ | refine XDi_gF (h := ?_) | refine XDi_gU (h := ?_) | refine X_draws (h := ?_))
  refine XDi_pvA (pv_buildG [.int .i64 0, .int .i64 0, .int .i64 0, .int .i64 0, .int .u64 S.obj, .int .u64 S.pad, .int .u64 0, .int .u64 0]) (h := ?_)
  repeat (first | refine XD_pick (h := ?_) | refine Dq ?_ | refine Ds ?_ | refine XDi_gF (h := ?_) | refine XDi_gU (h := ?_) | refine X_draws (h := ?_))
  refine XD_one (h := ?_)
  refine XDa_dvA (dv_alloc (row := [.int .i64 0, .int .i64 0, .int .i64 0, .int .i64 0, .int .u64 0, .int .u64 0, .int .u64 0, .int .u64 0])) (hk := ?_)
  rintro _ _ ⟨mb, rfl, rfl⟩
  refine ⟨by (repeat (first | exact keeps_nil | exact keeps_fnil | refine keeps_skip (h := ?_) | refine keeps_takeQ (h := ?_))), ?_⟩
  repeat (first | refine XD_pick (h := ?_) | refine Dq ?_ | refine Ds ?_ | refine XDi_gF (h := ?_) | refine XDi_gU (h := ?_) | refine X_draws (h := ?_))
  refine XD_one (h := ?_)
  refine XDa_dvk0 dv_storeW (K := _) (hk := ?_)
  (rintro _ _ rfl; refine ⟨by (repeat (first | exact keeps_nil | exact keeps_fnil | refine keeps_skip (h := ?_) | refine keeps_takeQ (h := ?_))), ?_⟩)
  (refine XD_end (h := ?_); repeat (first | refine Zq ?_ | refine Zs ?_ | refine ZT ?_ | refine ZF ?_ | refine Zc ?_ | refine XO_gU (hk := ?_)))
  refine X_loop (ι := Nat) (fun j => j ≤ 2) (fun j => [(2, .pointer (some ⟨gb, 0, none⟩)), (3, .pointer (some ⟨mb, 0, none⟩)), (23, .agg #[.pointer (some ⟨p0, 0, none⟩), .pointer (some ⟨p1, 0, none⟩)]), (24, .int .i64 (j : Int))])
    (fun j => pt mb (.cells [.int .i64 (mH S j), .int .i64 0, .int .i64 0, .int .i64 0, .int .u64 S.obj, .int .u64 S.pad, .int .u64 (mN S j), .int .u64 0].toArray 57 (0, 0)) :: pt gb (.cells [.int .i64 0, .int .i64 0, .int .i64 0, .int .i64 0, .int .u64 0, .int .u64 0, .int .u64 0, .int .u64 0].toArray 57 (0, 0)) :: pt r (.cells (rgRow s p0 p1 S.obj S.pad a S.parts.length c).toArray 72 (0, 0)) :: Sl eRP a c S.parts :: Pl p0 s 0 o (S.parts.map runP) :: Pl p1 s 1 o S.larges :: F) (fun j => 2 - j) 0 (by decide) ?_ (by simp only [mH, mN]; ((try simp only [List.cons_append, List.nil_append]); repeat (first | exact ent_refl | refine ent_take (by repeat (first | exact Find.here | apply Find.there)) ?_ | refine ent_drop ?_))) ?_
  · (repeat (first | exact Env.sub_nil _ | refine Env.sub_cons rfl ?_))
  intro j hj
  rcases j with _ | _ | _ | j
  · simp only [mH, mN]
    repeat (first | refine Zq ?_ | refine Zs ?_ | refine ZT ?_ | refine ZF ?_ | refine Zc ?_ | refine XO_gU (hk := ?_))
    refine X_cond rfl (fun _ => ?_) (fun h => by cases h)
    repeat (first | refine Zq ?_ | refine Zs ?_ | refine ZT ?_ | refine ZF ?_ | refine Zc ?_ | refine XO_gU (hk := ?_))
    refine XO_pv (pv_indexAg (vs := [.pointer (some ⟨p0, 0, none⟩), .pointer (some ⟨p1, 0, none⟩)]) (v := .pointer (some ⟨p0, 0, none⟩))) (hk := ?_)
    repeat (first | refine Zq ?_ | refine Zs ?_ | refine ZT ?_ | refine ZF ?_ | refine Zc ?_ | refine XO_gU (hk := ?_))
    repeat (first | refine XD_pick (h := ?_) | refine Dq ?_ | refine Ds ?_ | refine XDi_gF (h := ?_) | refine XDi_gU (h := ?_) | refine X_draws (h := ?_))
    refine XD_one (h := ?_)
    refine XDa_dvA (dv_call (plpages_spec p0 s 0 o (S.parts.map runP) (by omega) hB0)) (hk := ?_)
    (rintro _ _ ⟨_, ⟨rfl, rfl⟩, rfl⟩; refine ⟨by (repeat (first | exact keeps_nil | exact keeps_fnil | refine keeps_skip (h := ?_) | refine keeps_takeQ (h := ?_))), ?_⟩)
    repeat (first | refine XD_pick (h := ?_) | refine Dq ?_ | refine Ds ?_ | refine XDi_gF (h := ?_) | refine XDi_gU (h := ?_) | refine X_draws (h := ?_))
    refine XD_one (h := ?_)
    refine XDa_dvk0 dv_store (K := _) (hk := ?_)
    (rintro _ _ rfl; refine ⟨by (repeat (first | exact keeps_nil | exact keeps_fnil | refine keeps_skip (h := ?_) | refine keeps_takeQ (h := ?_))), ?_⟩)
    (refine XD_end (h := ?_); repeat (first | refine Zq ?_ | refine Zs ?_ | refine ZT ?_ | refine ZF ?_ | refine Zc ?_ | refine XO_gU (hk := ?_)))
    repeat (first | refine XD_pick (h := ?_) | refine Dq ?_ | refine Ds ?_ | refine XDi_gF (h := ?_) | refine XDi_gU (h := ?_) | refine X_draws (h := ?_))
    refine XD_one (h := ?_)
    refine XDa_dvA (dv_call (plen_spec p0 s 0 o (S.parts.map runP))) (hk := ?_)
    (rintro _ _ ⟨_, ⟨rfl, rfl⟩, rfl⟩; refine ⟨by (repeat (first | exact keeps_nil | exact keeps_fnil | refine keeps_skip (h := ?_) | refine keeps_takeQ (h := ?_))), ?_⟩)
    rw [hml]
    repeat (first | refine XD_pick (h := ?_) | refine Dq ?_ | refine Ds ?_ | refine XDi_gF (h := ?_) | refine XDi_gU (h := ?_) | refine X_draws (h := ?_))
    refine XD_one (h := ?_)
    refine XDa_dvk0 dv_store (K := _) (hk := ?_)
    (rintro _ _ rfl; refine ⟨by (repeat (first | exact keeps_nil | exact keeps_fnil | refine keeps_skip (h := ?_) | refine keeps_takeQ (h := ?_))), ?_⟩)
    (refine XD_end (h := ?_); repeat (first | refine Zq ?_ | refine Zs ?_ | refine ZT ?_ | refine ZF ?_ | refine Zc ?_ | refine XO_gU (hk := ?_)))
    exact X_round 1 (by decide) (by decide) (by (repeat (first | exact Env.sub_nil _ | refine Env.sub_cons rfl ?_))) (by simp only [mH, mN, Int.zero_add]; ((try simp only [List.cons_append, List.nil_append]); repeat (first | exact ent_refl | refine ent_take (by repeat (first | exact Find.here | apply Find.there)) ?_ | refine ent_drop ?_)))
  · simp only [mH, mN]
    repeat (first | refine Zq ?_ | refine Zs ?_ | refine ZT ?_ | refine ZF ?_ | refine Zc ?_ | refine XO_gU (hk := ?_))
    refine X_cond rfl (fun _ => ?_) (fun h => by cases h)
    repeat (first | refine Zq ?_ | refine Zs ?_ | refine ZT ?_ | refine ZF ?_ | refine Zc ?_ | refine XO_gU (hk := ?_))
    refine XO_pv (pv_indexAg (vs := [.pointer (some ⟨p0, 0, none⟩), .pointer (some ⟨p1, 0, none⟩)]) (v := .pointer (some ⟨p1, 0, none⟩))) (hk := ?_)
    repeat (first | refine Zq ?_ | refine Zs ?_ | refine ZT ?_ | refine ZF ?_ | refine Zc ?_ | refine XO_gU (hk := ?_))
    repeat (first | refine XD_pick (h := ?_) | refine Dq ?_ | refine Ds ?_ | refine XDi_gF (h := ?_) | refine XDi_gU (h := ?_) | refine X_draws (h := ?_))
    refine XD_one (h := ?_)
    refine XDa_dvA (dv_call (plpages_spec p1 s 1 o S.larges hl2 hB1)) (hk := ?_)
    (rintro _ _ ⟨_, ⟨rfl, rfl⟩, rfl⟩; refine ⟨by (repeat (first | exact keeps_nil | exact keeps_fnil | refine keeps_skip (h := ?_) | refine keeps_takeQ (h := ?_))), ?_⟩)
    repeat (first | refine XD_pick (h := ?_) | refine Dq ?_ | refine Ds ?_ | refine XDi_gF (h := ?_) | refine XDi_gU (h := ?_) | refine X_draws (h := ?_))
    refine XD_one (h := ?_)
    refine XDa_dvk0 dv_store (K := _) (hk := ?_)
    (rintro _ _ rfl; refine ⟨by (repeat (first | exact keeps_nil | exact keeps_fnil | refine keeps_skip (h := ?_) | refine keeps_takeQ (h := ?_))), ?_⟩)
    (refine XD_end (h := ?_); repeat (first | refine Zq ?_ | refine Zs ?_ | refine ZT ?_ | refine ZF ?_ | refine Zc ?_ | refine XO_gU (hk := ?_)))
    repeat (first | refine XD_pick (h := ?_) | refine Dq ?_ | refine Ds ?_ | refine XDi_gF (h := ?_) | refine XDi_gU (h := ?_) | refine X_draws (h := ?_))
    refine XD_one (h := ?_)
    refine XDa_dvA (dv_call (plen_spec p1 s 1 o S.larges)) (hk := ?_)
    (rintro _ _ ⟨_, ⟨rfl, rfl⟩, rfl⟩; refine ⟨by (repeat (first | exact keeps_nil | exact keeps_fnil | refine keeps_skip (h := ?_) | refine keeps_takeQ (h := ?_))), ?_⟩)
    repeat (first | refine XD_pick (h := ?_) | refine Dq ?_ | refine Ds ?_ | refine XDi_gF (h := ?_) | refine XDi_gU (h := ?_) | refine X_draws (h := ?_))
    refine XD_one (h := ?_)
    refine XDa_dvk0 dv_store (K := _) (hk := ?_)
    (rintro _ _ rfl; refine ⟨by (repeat (first | exact keeps_nil | exact keeps_fnil | refine keeps_skip (h := ?_) | refine keeps_takeQ (h := ?_))), ?_⟩)
    (refine XD_end (h := ?_); repeat (first | refine Zq ?_ | refine Zs ?_ | refine ZT ?_ | refine ZF ?_ | refine Zc ?_ | refine XO_gU (hk := ?_)))
    exact X_round 2 (by decide) (by decide) (by (repeat (first | exact Env.sub_nil _ | refine Env.sub_cons rfl ?_))) (by simp only [mH, mN]; ((try simp only [List.cons_append, List.nil_append]); repeat (first | exact ent_refl | refine ent_take (by repeat (first | exact Find.here | apply Find.there)) ?_ | refine ent_drop ?_)))
  · have e1 : totI (S.parts.map runP) + totI S.larges = shPages S := rfl
    have e2 : 32 * (S.parts.length : Int) + 32 * (S.larges.length : Int) = shHdr S := by unfold shHdr; omega
    simp only [mH, mN]
    rw [e1, e2]
    have e3 : 0 ≤ shPages S ∧ shPages S ≤ 2199023255552 := by unfold shPages; omega
    have e4 : IntKind.u64.wrap (shPages S * 4096 - shHdr S - S.obj - S.pad) = IntKind.u64.wrap (IntKind.u64.wrap (IntKind.u64.wrap (shPages S * 4096 - shHdr S) - S.obj) - S.pad) := by simp only [wrap_u64_eq]; omega
    repeat (first | refine Zq ?_ | refine Zs ?_ | refine ZT ?_ | refine ZF ?_ | refine Zc ?_ | refine XO_gU (hk := ?_))
    refine X_cond rfl (fun h => by cases h) (fun _ => ?_)
    repeat (first | refine Zq ?_ | refine Zs ?_ | refine ZT ?_ | refine ZF ?_ | refine Zc ?_ | refine XO_gU (hk := ?_))
    refine XO_dv0 dv_store (hk := ?_)
    rintro _ _ rfl
    rw [← e4]
    repeat (first | refine Zq ?_ | refine Zs ?_ | refine ZT ?_ | refine ZF ?_ | refine Zc ?_ | refine XO_gU (hk := ?_))
    refine XO_dv0 dv_storeW (hk := ?_)
    rintro _ _ rfl
    repeat (first | refine Zq ?_ | refine Zs ?_ | refine ZT ?_ | refine ZF ?_ | refine Zc ?_ | refine XO_gU (hk := ?_))
    refine XE_fold (by repeat (first | exact FindAll.nil | exact Find.here | apply Find.there | apply FindAll.cons)) (Rs.fold (r := r) (s := s) (p0 := p0) (p1 := p1) (S := S) (a := a) (c := c)) ?_
    refine XE_fold (by repeat (first | exact FindAll.nil | exact Find.here | apply Find.there | apply FindAll.cons)) (Rg.fold (r := r) (s := s) (o := o) (S := S) (p0 := p0) (p1 := p1)) ?_
    refine XE_ret (.inl rfl) (tells_cell rfl) ⟨_, ⟨rfl, rfl⟩, by ((try simp only [List.cons_append, List.nil_append]); repeat (first | exact ent_refl | refine ent_take (by repeat (first | exact Find.here | apply Find.there)) ?_ | refine ent_drop ?_))⟩
  · omega
theorem rchunks_spec (r s sb : Nat) {P : Int} {B : Nat} {o : Int} {C : Co} {m : Mm} {S : Sh} {oth : List (Int × Hd)} (hR : RInv P B o C m.f S oth) : Spec Try.prog 16 [.pointer (some ⟨r, 0, none⟩)] [Rg r s o S, Ck s sb C, Spc sb P m]
      (fun v L => ∃ a c a' c', v = .tuple #[.slice a (S.parts.map runP).reverse.length c, .slice a' S.larges.reverse.length c'] ∧ L = [Sl eRun a c (S.parts.map runP).reverse, Sl eRun a' c' S.larges.reverse, Rg r s o S, Ck s sb C, Spc sb P (walkM P (walkM P m (S.parts.map runP)) S.larges)]) := by
  refine Spec.intro (IsEnt.out) Try.func16 rfl Try.ntmps16 (by simp) (fun w0 F => ?_)
  simp only [envOf, List.zipIdx, List.map, List.cons_append, List.nil_append, Nat.zero_add, Nat.reduceAdd]
  have hlen := hR.len
  repeat (first | refine Zq ?_ | refine Zs ?_ | refine ZT ?_ | refine ZF ?_ | refine Zc ?_ | refine XO_gU (hk := ?_))
  refine X_cond rfl (fun h => by cases h) (fun _ => ?_)
  refine X_open (A := Rg r s o S) (by (repeat (first | exact Find.here | apply Find.there))) Rg.open ?_
  rintro ⟨p0, p1⟩ -
  dsimp only [List.cons_append, List.nil_append]
  refine X_open (A := Rs r s p0 p1 S) (by (repeat (first | exact Find.here | apply Find.there))) Rs.open ?_
  rintro ⟨a, c⟩ -
  dsimp only [List.cons_append, List.nil_append]
  repeat (first | refine Zq ?_ | refine Zs ?_ | refine ZT ?_ | refine ZF ?_ | refine Zc ?_ | refine XO_gU (hk := ?_))
  refine XO_call (pwalk_spec p0 s sb hR.k0 hR.hP (by simp; exact hlen.1)) (hk := ?_)
  rintro _ _ ⟨wa, wc, rfl, rfl⟩
  have hK2 : KInv C (walkM P m (S.parts.map runP)).f (plH 1 o 0 S.larges ++ (plH 0 o 0 (S.parts.map runP) ++ oth)) := by rw [walkM_f]; exact hR.k1
  repeat (first | refine Zq ?_ | refine Zs ?_ | refine ZT ?_ | refine ZF ?_ | refine Zc ?_ | refine XO_gU (hk := ?_))
  refine XO_call (pwalk_spec p1 s sb hK2 hR.hP hlen.2) (hk := ?_)
  rintro _ _ ⟨xa, xc, rfl, rfl⟩
  repeat (first | refine Zq ?_ | refine Zs ?_ | refine ZT ?_ | refine ZF ?_ | refine Zc ?_ | refine XO_gU (hk := ?_))
  refine XE_fold (by repeat (first | exact FindAll.nil | exact Find.here | apply Find.there | apply FindAll.cons)) (Rs.fold (r := r) (s := s) (p0 := p0) (p1 := p1) (S := S) (a := a) (c := c)) ?_
  refine XE_fold (by repeat (first | exact FindAll.nil | exact Find.here | apply Find.there | apply FindAll.cons)) (Rg.fold (r := r) (s := s) (o := o) (S := S) (p0 := p0) (p1 := p1)) ?_
  refine XE_ret (.inl rfl) (tells_tmps rfl rfl) ⟨_, ⟨wa, wc, xa, xc, rfl, rfl⟩, by ((try simp only [List.cons_append, List.nil_append]); repeat (first | exact ent_refl | refine ent_take (by repeat (first | exact Find.here | apply Find.there)) ?_ | refine ent_drop ?_))⟩
theorem RInv.walk {P : Int} {B : Nat} {o : Int} {C : Co} {m : Mm} {s : Sh} {oth : List (Int × Hd)} (h : RInv P B o C m.f s oth) (l l' : List (Int × Int)) : RInv P B o C (walkM P (walkM P m l) l').f s oth := by rw [walkM_f, walkM_f]; exact h
end Go.Proofs.Ytgoocobeoejoaaa.Sep
namespace Go.Proofs.Ytgoocobeoejoaaa.Sep
open Go.ChangeShapes Go.WideShapes Go.ChangeAt Go.RowKit Go.Deep
set_option linter.unusedSimpArgs false
set_option linter.unusedVariables false
/-! acts of regions -/
structure A15 where
  d : Int
  w : Bool
  sz : Int
  al : Int
  k : Int
  mc : Int
  ml : Int
  at_ : Int
  ob : Int
  pd : Int
def eAct : E A15 := ⟨10, true, fun x => [.int .u8 x.d, .bool x.w, .int .u64 x.sz, .int .u64 x.al, .int .u8 x.k, .int .i64 x.mc, .int .i64 x.ml, .int .u64 x.at_, .int .u64 x.ob, .int .u64 x.pd], fun _ => rfl, fun _ _ h => by simp at h; rcases h with rfl | rfl | rfl | rfl | rfl | rfl | rfl | rfl | rfl | rfl <;> rfl, by decide, fun h => by cases h⟩
structure OkA (x : A15) : Prop where
  d : 0 ≤ x.d ∧ x.d ≤ 255
  sz : 0 ≤ x.sz ∧ x.sz ≤ 18446744073709551615
  al : 0 ≤ x.al ∧ x.al ≤ 18446744073709551615
  k : 0 ≤ x.k ∧ x.k ≤ 255
abbrev pInt (k : IntKind) : Nat × (List Value → Prop) := (1, fun cs => ∃ n, (Lit.int k n).wf = true ∧ cs = [.int k n])
abbrev pBool : Nat × (List Value → Prop) := (1, fun cs => ∃ b, cs = [.bool b])
def markPs : List (Nat × (List Value → Prop)) := [pInt .i64, pInt .i64, pInt .u64, pInt .u64, pInt .u64]
def actPs : List (Nat × (List Value → Prop)) := [pInt .u8, pBool, pInt .u64, pInt .u64, pInt .u8, (5, fun cs => Parts cs markPs)]
theorem flat_mark : FlatP Try.prog 33 5 (fun cs => Parts cs markPs) :=
  flatP_struct Try.underlying33 markPs ⟨rfl, flatP_int Try.underlying3 (by kernel_rfl), rfl, flatP_int Try.underlying3 (by kernel_rfl), rfl, flatP_int Try.underlying28 (by kernel_rfl), rfl, flatP_int Try.underlying28 (by kernel_rfl), rfl, flatP_int Try.underlying28 (by kernel_rfl), trivial⟩ (by kernel_rfl)
theorem flat_act15 : FlatP Try.prog 35 10 (fun cs => Parts cs actPs) :=
  flatP_struct Try.underlying35 actPs ⟨rfl, flatP_int Try.underlying5 (by kernel_rfl), rfl, flatP_bool Try.underlying4 (by kernel_rfl), rfl, flatP_int Try.underlying28 (by kernel_rfl), rfl, flatP_int Try.underlying28 (by kernel_rfl), rfl, flatP_int Try.underlying5 (by kernel_rfl), rfl, flat_mark, trivial⟩ (by kernel_rfl)
theorem take_eq {cs a : List Value} {n : Nat} (h : cs.take n = a) : cs = a ++ cs.drop n := by rw [← h, List.take_append_drop]
theorem parts_act (cs : List Value) (h : Parts cs actPs) : ∃ y : A15, OkA y ∧ cs = eAct.cells y := by
  obtain ⟨⟨d, w1, e1⟩, ⟨w, e2⟩, ⟨sz, w3, e3⟩, ⟨al, w4, e4⟩, ⟨k, w5, e5⟩, hm, hn⟩ := h
  obtain ⟨⟨mc, w6, e6⟩, ⟨ml, w7, e7⟩, ⟨at_, w8, e8⟩, ⟨ob, w9, e9⟩, ⟨pd, w10, e10⟩, hn2⟩ := hm
  refine ⟨⟨d, w, sz, al, k, mc, ml, at_, ob, pd⟩, ⟨wf_u8 w1, wf_u64 w3, wf_u64 w4, wf_u8 w5⟩, ?_⟩
  have f1 := take_eq e1
  have f2 := take_eq e2
  have f3 := take_eq e3
  have f4 := take_eq e4
  have f5 := take_eq e5
  have f6 := take_eq e6
  have f7 := take_eq e7
  have f8 := take_eq e8
  have f9 := take_eq e9
  have f10 := take_eq e10
  have fm := List.take_append_drop 5 (List.drop 1 (List.drop 1 (List.drop 1 (List.drop 1 (List.drop 1 cs)))))
  rw [f1, f2, f3, f4, f5, ← fm]
  have hn' : List.drop 5 (List.drop 1 (List.drop 1 (List.drop 1 (List.drop 1 (List.drop 1 cs))))) = [] := hn
  rw [hn', List.append_nil, f6, f7, f8, f9, f10]
  have hn2' : List.drop 1 (List.drop 1 (List.drop 1 (List.drop 1 (List.drop 1 (List.take 5 (List.drop 1 (List.drop 1 (List.drop 1 (List.drop 1 (List.drop 1 cs))))))))))= [] := hn2
  rw [hn2']
  rfl
/-- An alignment. -/
def al2 (k : Int) : Int := ((2 ^ (k % 13).toNat : Nat) : Int)
theorem al2_bd {k : Int} (h : 0 ≤ k) : 1 ≤ al2 k ∧ al2 k ≤ 4096 := by
  unfold al2
  have h1 : 0 < 2 ^ (k % 13).toNat := Nat.pow_pos (by decide)
  have h2 : 2 ^ (k % 13).toNat ≤ 2 ^ 12 := Nat.pow_le_pow_right (by decide) (by omega)
  omega
theorem al2_pow (k : Int) : powB (al2 k) = true := (powB_iff (Int.natCast_nonneg _)).2 ⟨_, rfl⟩
theorem al2_shl {k : Int} (h : 0 ≤ k) : IntKind.u64.wrap (1 * (2 ^ (min (k % 13).toNat IntKind.u64.bits) : Nat)) = al2 k := by
  have h1 : min (k % 13).toNat IntKind.u64.bits = (k % 13).toNat := Nat.min_eq_left (by show (k % 13).toNat ≤ 64; omega)
  rw [h1, Int.one_mul]
  have := al2_bd h
  exact wrap_u64 (by unfold al2 at this; omega) (by unfold al2 at this; omega)
theorem al2_good {size k : Int} (h : 0 ≤ k) (hs : size ≠ 0) : ¬ badA size (al2 k) := by
  have hb := al2_bd h
  unfold badA
  rw [need1_iff (by omega) (by omega), al2_pow, decide_eq_true hb.2]
  simp [hs]
set_option maxHeartbeats 8000000
attribute [local irreducible] X XE XO XD XDi XDa PV RV DV pt base Spec Sl Mp Keeps Pg Kc Pgs Spc Ck XL XLi Pl Rs Rg View
end Go.Proofs.Ytgoocobeoejoaaa.Sep
namespace Go.Proofs.Ytgoocobeoejoaaa.Sep
open Go.RowKit
set_option linter.unusedSimpArgs false
set_option linter.unusedVariables false
/-! what was made in a region, and the bytes that were laid there -/
abbrev Ob := Int × Int × Int
def fillB (n : Nat) (k : Int) : List Int := (List.range n).map fun i : Nat => ((i : Int) + k) % 255 + 1
theorem fillB_len (n : Nat) (k : Int) : (fillB n k).length = n := by simp [fillB]
/-- It lies in a shared chunk, below its cursor. -/
def InP (S : Sh) (b : Ob) : Prop := ∃ p ∈ S.parts, p.1 * 4096 + 32 ≤ b.1 ∧ b.1 + b.2.1 ≤ p.2.2.1
def Apart (b c : Ob) : Prop := ¬ (b.1 < c.1 + c.2.1 ∧ c.1 < b.1 + b.2.1)
structure ObI (m : Int → Int) (S : Sh) (bs : List Ob) : Prop where
  inp : ∀ b ∈ bs, InP S b
  sz : ∀ b ∈ bs, 1 ≤ b.2.1 ∧ b.2.1 ≤ 5000 ∧ 0 ≤ b.2.2 ∧ b.2.2 ≤ 40
  byt : ∀ b ∈ bs, rdM m b.1 b.2.1.toNat = fillB b.2.1.toNat b.2.2
  dis : bs.Pairwise Apart
  zr : ∀ p ∈ S.parts, ∀ x, p.2.2.1 ≤ x → x < p.2.2.2 → m x = 0
  nl : S.larges = []
/-- Two of a region's chunks have no page in common. -/
theorem parts_apart {P : Int} {B : Nat} {o : Int} {C : Co} {m : Int → Int} {S : Sh} {oth : List (Int × Hd)} (hR : RInv P B o C m S oth) {p p' : Part} (hp : p ∈ S.parts) (hp' : p' ∈ S.parts) : p = p' ∨ p.1 + p.2.1 ≤ p'.1 ∨ p'.1 + p'.2.1 ≤ p.1 := by
  by_cases he : p = p'
  · exact .inl he
  right
  obtain ⟨l1, l2, h1⟩ := List.append_of_mem hp
  have h2 : p' ∈ l1 ++ l2 := by
    rw [h1] at hp'
    rcases List.mem_append.1 hp' with h | h
    · simp [h]
    · rcases List.mem_cons.1 h with h | h
      · exact absurd h.symm he
      · simp [h]
  have r1 := hR.S.pi.parts _ (List.mem_map.2 ⟨p, hp, rfl⟩)
  have r2 := hR.S.pi.parts _ (List.mem_map.2 ⟨p', hp', rfl⟩)
  unfold RunOk runP at r1 r2
  simp only at r1 r2
  by_cases hov : p.1 + p.2.1 ≤ p'.1 ∨ p'.1 + p'.2.1 ≤ p.1
  · exact hov
  exfalso
  have a1 := hR.K.part (max p.1 p'.1)
  have a2 := part_le1 (x := max p.1 p'.1) (P := C.P)
  rw [gr_app, cnt_append, gotR_cnt] at a1
  have a3 := cnt_nn (max p.1 p'.1) (gr oth)
  have a4 := cC_nn (max p.1 p'.1) C
  have a5 := cnt_nn (max p.1 p'.1) S.larges
  have a6 : cnt (max p.1 p'.1) (S.parts.map runP) = cnt (max p.1 p'.1) ((l1 ++ l2).map runP) + ind (max p.1 p'.1) (runP p) := by
    rw [h1, List.map_append, List.map_append, cnt_append, cnt_append, List.map_cons]
    simp only [cnt]; omega
  have a7 := cnt_mem (x := max p.1 p'.1) (r := runP p') (l := (l1 ++ l2).map runP) (List.mem_map.2 ⟨p', h2, rfl⟩)
  have a8 : ind (max p.1 p'.1) (runP p) = 1 := by unfold ind runP; rw [if_pos]; simp only; omega
  have a9 : ind (max p.1 p'.1) (runP p') = 1 := by unfold ind runP; rw [if_pos]; simp only; omega
  unfold cS at a1
  omega
theorem setLast_mem {l : List Part} {a : Int} {p : Part} (h : p ∈ setLast l a) : p ∈ l ∨ p = ((lastP l).1, (lastP l).2.1, a, (lastP l).2.2.2) := by
  unfold setLast at h
  exact List.mem_or_eq_of_mem_set h
theorem mem_setLast {l : List Part} (a : Int) {p : Part} (h : p ∈ l) : p = lastP l ∨ p ∈ setLast l a := by
  rcases List.eq_nil_or_concat l with rfl | ⟨l', x, rfl⟩
  · cases h
  · rw [List.concat_eq_append] at h ⊢
    rw [lastP_append, setLast_app]
    rcases List.mem_append.1 h with h | h
    · right; simp [h]
    · left; simpa using h
theorem last_in_setLast {l : List Part} (a : Int) (h : l ≠ []) : ((lastP l).1, (lastP l).2.1, a, (lastP l).2.2.2) ∈ setLast l a := by
  rcases List.eq_nil_or_concat l with rfl | ⟨l', x, rfl⟩
  · exact absurd rfl h
  · rw [List.concat_eq_append, setLast_app, lastP_append]; simp
/-- What a push touches. -/
theorem push_frame {P : Int} {m : Mm} {k o nx pg n a : Int} (hn : 1 ≤ n) (ha : ¬ (pg * 4096 ≤ a ∧ a < (pg + n) * 4096)) : (zzM (pushM P m k o nx pg n) (pg * 4096 + 32) (n * 4096 - 32)).f a = m.f a := by
  rw [zz_mem hn a (by omega)]
  show (if pg * 4096 + 24 ≤ a ∧ a < pg * 4096 + 24 + ((leB 8 nx).length : Int) then _ else if pg * 4096 ≤ a ∧ a < pg * 4096 + ((hdB ⟨n, k, o, 0⟩).length : Int) then _ else m.f a) = m.f a
  rw [leB_len, hdB_len, if_neg (by omega), if_neg (by omega)]
theorem zero_in {P : Int} {m : Mm} {k o nx pg n a : Int} (h0 : pg * 4096 + 32 ≤ a) (h1 : a < (pg + n) * 4096) : (zzM (pushM P m k o nx pg n) (pg * 4096 + 32) (n * 4096 - 32)).f a = 0 := by
  show (if pg * 4096 + 32 ≤ a ∧ a < pg * 4096 + 32 + (n * 4096 - 32) then (0 : Int) else _) = 0
  rw [if_pos (by omega)]
theorem wr_at {m : Int → Int} {at_ a : Int} {bs : List Int} (h : ¬ (at_ ≤ a ∧ a < at_ + bs.length)) : wrM m at_ bs a = m a := by unfold wrM; rw [if_neg h]
/-- What is made is 0; and then something is laid there. -/
theorem ob_alloc {P : Int} {B : Nat} {o : Int} {C C' : Co} {m m' : Mm} {S S' : Sh} {oth : List (Int × Hd)} {n k i at_ e : Int} {bs : List Ob} (hR : RInv P B o C m.f S oth) (ho : 0 ≤ o ∧ o < 18446744073709551616) (h0 : 1 ≤ n) (h1 : n ≤ 5000) (hk : 0 ≤ k) (hi : 0 ≤ i ∧ i ≤ 40) (hI : ObI m.f S bs) (h : AR P C m S o n (al2 k) C' m' S' at_ e) :
    (e ≠ 0 ∧ S' = S ∧ m' = m) ∨
    (e = 0 ∧ at_ % al2 k = 0 ∧ 0 ≤ at_ ∧ at_ + n ≤ P * 4096 ∧ rdM m'.f at_ n.toNat = List.replicate n.toNat 0 ∧ ObI (wrM m'.f at_ (fillB n.toNat i)) S' (bs ++ [(at_, n, i)]) ∧
      RInv P (B + 1) o C' (wrM m'.f at_ (fillB n.toNat i)) S' oth) := by
  have hab := al2_bd hk
  have hb := al2_good hk (size := n) (by omega)
  have hR' := h.inv hR ho (by omega) (by omega) (by omega)
  have hP := hR.P1
  have hfl : ((fillB n.toNat i).length : Int) = n := by rw [fillB_len]; omega
  -- the common end
  have fin : ∀ {p : Part} {C' : Co} {m' : Mm} {S' : Sh} {at_ : Int}, RInv P (B + 1) o C' m'.f S' oth → p ∈ S'.parts → p.1 * 4096 + 32 ≤ at_ → at_ + n = p.2.2.1 → S'.larges = [] →
      (∀ b ∈ bs, InP S' b ∧ (at_ + n ≤ b.1 ∨ b.1 + b.2.1 ≤ at_) ∧ rdM m'.f b.1 b.2.1.toNat = fillB b.2.1.toNat b.2.2) → (∀ q ∈ S'.parts, ∀ x, q.2.2.1 ≤ x → x < q.2.2.2 → m'.f x = 0) →
      ObI (wrM m'.f at_ (fillB n.toNat i)) S' (bs ++ [(at_, n, i)]) ∧ RInv P (B + 1) o C' (wrM m'.f at_ (fillB n.toNat i)) S' oth ∧ 0 ≤ at_ ∧ at_ + n ≤ P * 4096 := by
    intro p C' m' S' at_ hR' hp hp1 hp2 hnl hbs hz
    have hpo := hR'.po p hp
    have hrun := hR'.S.pi.parts _ (List.mem_map.2 ⟨p, hp, rfl⟩)
    unfold PtOk at hpo
    unfold RunOk runP at hrun
    simp only at hrun
    refine ⟨⟨fun b hb => ?_, fun b hb => ?_, fun b hb => ?_, ?_, fun q hq x hx0 hx1 => ?_, hnl⟩, ⟨?_, hR'.hP, hR'.S, hR'.po⟩, by omega, by omega⟩
    · rcases List.mem_append.1 hb with hb | hb
      · exact (hbs b hb).1
      · simp at hb; subst hb; exact ⟨p, hp, hp1, by simp only; omega⟩
    · rcases List.mem_append.1 hb with hb | hb
      · exact hI.sz b hb
      · simp at hb; subst hb; exact ⟨h0, h1, hi.1, hi.2⟩
    · rcases List.mem_append.1 hb with hb | hb
      · have hh := hbs b hb
        have hs := hI.sz b hb
        rw [rd_wr_ne (by rw [hfl]; omega)]
        exact hh.2.2
      · simp at hb; subst hb
        have := rd_wr m'.f at_ (fillB n.toNat i)
        rw [fillB_len] at this
        exact this
    · rw [List.pairwise_append]
      refine ⟨hI.dis, List.pairwise_singleton _ _, fun b hb c hc => ?_⟩
      simp at hc; subst hc
      have hh := (hbs b hb).2.1
      unfold Apart
      simp only
      omega
    · rw [wr_at]
      · exact hz q hq x hx0 hx1
      · rw [hfl]
        intro hh
        have hqo := hR'.po q hq
        unfold PtOk at hqo
        rcases parts_apart hR' hp hq with rfl | h | h
        · omega
        · omega
        · omega
    · have hmem : ∃ nx, ((p.1, (⟨p.2.1, 0, o, nx⟩ : Hd))) ∈ gotR o S' ++ oth := by
        have : (runP p) ∈ gr (plH 0 o 0 (S'.parts.map runP)) := by rw [plH_gr]; exact List.mem_map.2 ⟨_, hp, rfl⟩
        obtain ⟨⟨q1, q2⟩, hq, he⟩ := List.mem_map.1 this
        have hq2 : ∀ (l : List (Int × Int)) (nx : Int), (q1, q2) ∈ plH 0 o nx l → q2.kind = 0 ∧ q2.owner = o := by
          intro l
          induction l with
          | nil => intro nx h; cases h
          | cons r l ih =>
            intro nx h
            rcases List.mem_cons.1 h with h | h
            · cases h; exact ⟨rfl, rfl⟩
            · exact ih _ h
        obtain ⟨h1, h2⟩ := hq2 _ _ hq
        obtain ⟨pp, kk, oo, nn⟩ := q2
        simp only at h1 h2
        subst h1 h2
        refine ⟨nn, ?_⟩
        unfold runP at he
        injection he with e5 e6
        subst e5
        simp only at e6
        rw [← e6]
        unfold gotR
        simp [hq]
      obtain ⟨nx, hmem⟩ := hmem
      refine hR'.K.mem hmem fun a ha => wr_at ?_
      rw [hfl]
      simp only at ha
      omega
  cases h with
  | bad hb' => exact absurd hb' hb
  | huge _ hf hc => exact .inl ⟨by decide, rfl, rfl⟩
  | full n2 big _ hf hc hz => exact .inl ⟨by decide, rfl, rfl⟩
  | fit q _ hf =>
    right
    have htb := top_bd hR.S.ok
    obtain ⟨f1, f2, f3, f4, f5, f6, f7, f8⟩ := fit_some htb.1 (by omega) (by omega) hf
    have hn : S.parts ≠ [] := by
      intro hn
      have : topEnd S = 0 := by unfold topEnd; rw [hn]; rfl
      omega
    obtain ⟨c1, c2, c3⟩ := hR.cur hn
    have c3' := c3
    unfold PtOk at c3
    have hta : topAt S = (lastP S.parts).2.2.1 := rfl
    have hte : topEnd S = (lastP S.parts).2.2.2 := rfl
    obtain ⟨g1, g2, g3, g4⟩ := fin (at_ := q.1) (m' := m) hR' (last_in_setLast q.2.1 hn) (by simp only; omega) (by simp only; omega) hI.nl (fun b hb => by
      obtain ⟨p, hp, hp1, hp2⟩ := hI.inp b hb
      have hs := hI.sz b hb
      have hpo := hR.po p hp
      unfold PtOk at hpo
      have hrp := hR.S.pi.parts _ (List.mem_map.2 ⟨p, hp, rfl⟩)
      unfold RunOk runP at hrp
      simp only at hrp
      refine ⟨?_, ?_, hI.byt b hb⟩
      · rcases mem_setLast q.2.1 hp with h | h
        · subst h
          exact ⟨_, last_in_setLast q.2.1 hn, hp1, by simp only; omega⟩
        · exact ⟨p, h, hp1, hp2⟩
      · rcases parts_apart hR hp c1 with rfl | h | h
        · right; omega
        · right; omega
        · left; omega) (fun p hp x hx0 hx1 => by
      rcases setLast_mem hp with h | h
      · rcases mem_setLast q.2.1 h with h' | h'
        · subst h'
          exact hI.zr _ c1 x hx0 hx1
        · exact hI.zr p h x hx0 hx1
      · subst h
        simp only at hx0 hx1
        exact hI.zr _ c1 x (by omega) hx1)
    refine ⟨rfl, f5, g3, g4, ?_, g1, g2⟩
    refine List.ext_getElem? fun j => ?_
    by_cases hj : j < n.toNat
    · rw [rdM_get hj, List.getElem?_replicate, if_pos hj]
      congr 1
      exact hI.zr _ c1 _ (by omega) (by omega)
    · rw [List.getElem?_eq_none (by rw [rdM_len]; omega), List.getElem?_eq_none (by simp; omega)]
  | big n2 pg _ hf hc hz =>
    exfalso
    have hr : RunOk P (pg, n2) := by
      obtain ⟨r1, r2, r3, r4, r5⟩ := rnd_chunk (by omega) (by omega) hc
      have := get_hr hR.K n2 1 o ho r3 (by rw [r1, hz])
      rw [r1, hz, hR.hP] at this
      exact this
    obtain ⟨-, f2, f3, f4⟩ := chunk_fit (by omega) (by omega) (by omega) hb hc hP.2 hr
    rw [if_pos rfl] at f4
    omega
  | part n2 pg _ hf hc hz =>
    right
    obtain ⟨r1, r2, r3, r4, r5⟩ := rnd_chunk (by omega) (by omega) hc
    have hr : RunOk P (pg, n2) := by
      have := get_hr hR.K n2 0 o ho r2 (by rw [r1, hz])
      rw [r1, hz, hR.hP] at this
      exact this
    obtain ⟨cf, f2, f3, f4⟩ := chunk_fit (by omega) (by omega) (by omega) hb hc hP.2 hr
    rw [if_neg (by simp)] at f4
    rw [ofI_run hP.2 hr] at cf
    unfold RunOk at hr
    simp only at hr cf
    obtain ⟨k1, k2, k3, k4, k5, k6, k7, k8⟩ := fit_some (by omega) (by omega) (by omega) cf
    simp only at k1 k2 k3 k4 k5 k6
    have hnew : (pg, n2, pg * 4096 + 32 + (-32) % al2 k + n, (pg + n2) * 4096) ∈ S.parts ++ [(pg, n2, pg * 4096 + 32 + (-32) % al2 k + n, (pg + n2) * 4096)] := by simp
    have hold : ∀ p ∈ S.parts, p.1 + p.2.1 ≤ pg ∨ pg + n2 ≤ p.1 := fun p hp => by
      rcases parts_apart hR' (show p ∈ S.parts ++ [_] by simp [hp]) hnew with h | h | h
      · exfalso
        have hd := hR.K.part p.1
        have h3 := hR'.K.part p.1
        have a2 := part_le1 (x := p.1) (P := (getC C n2).1.P)
        rw [gr_app, cnt_append, gotR_cnt] at h3
        have hrp := hR.S.pi.parts _ (List.mem_map.2 ⟨p, hp, rfl⟩)
        unfold RunOk runP at hrp
        simp only at hrp
        have a3 := cnt_nn p.1 (gr oth)
        have a4 := cC_nn p.1 (getC C n2).1
        have a5 := cnt_mem (x := p.1) (r := runP p) (l := S.parts.map runP) (List.mem_map.2 ⟨p, hp, rfl⟩)
        have a6 : ind p.1 (runP p) = 1 := by unfold ind runP; rw [if_pos]; simp only; omega
        have a7 := cnt_nn p.1 S.larges
        unfold cS at h3
        simp only [List.map_append, List.map_cons, List.map_nil] at h3
        rw [cnt_append] at h3
        have a8 : cnt p.1 [runP (pg, n2, pg * 4096 + 32 + (-32) % al2 k + n, (pg + n2) * 4096)] = 1 := by
          have hp1 : p.1 = pg := by rw [h]
          have : ind p.1 (pg, n2) = 1 := by unfold ind; rw [if_pos]; simp only; omega
          show ind p.1 (pg, n2) + 0 = 1
          omega
        omega
      · left; exact h
      · right; exact h
    obtain ⟨g1, g2, g3, g4⟩ := fin (at_ := pg * 4096 + 32 + (-32) % al2 k) hR' hnew (by simp only; omega) (by simp only) hI.nl (fun b hb => by
      obtain ⟨p, hp, hp1, hp2⟩ := hI.inp b hb
      have hs := hI.sz b hb
      have hpo := hR.po p hp
      unfold PtOk at hpo
      have ha := hold p hp
      refine ⟨⟨p, by simp [hp], hp1, hp2⟩, by omega, ?_⟩
      rw [← hI.byt b hb]
      exact rdM_ext fun a h0 h1 => push_frame r4 (by omega)) (fun p hp x hx0 hx1 => by
      rcases List.mem_append.1 hp with hp | hp
      · have hpo := hR.po p hp
        unfold PtOk at hpo
        have ha := hold p hp
        rw [push_frame r4 (by omega)]
        exact hI.zr p hp x hx0 hx1
      · simp at hp
        subst hp
        simp only at hx0 hx1
        exact zero_in (by omega) hx1)
    refine ⟨rfl, k5, g3, g4, ?_, g1, g2⟩
    refine List.ext_getElem? fun j => ?_
    by_cases hj : j < n.toNat
    · rw [rdM_get hj, List.getElem?_replicate, if_pos hj]
      congr 1
      exact zero_in (by omega) (by omega)
    · rw [List.getElem?_eq_none (by rw [rdM_len]; omega), List.getElem?_eq_none (by simp; omega)]
end Go.Proofs.Ytgoocobeoejoaaa.Sep
namespace Go.Proofs.Ytgoocobeoejoaaa.Sep
open Go.RowKit
set_option linter.unusedSimpArgs false
set_option linter.unusedVariables false
/-! what stays when a region is rewound -/
theorem cut_frame (P : Int) (m : Mm) {a : Int} : ∀ (l : List (Int × Int)), (∀ r ∈ l, ¬ (r.1 * 4096 ≤ a ∧ a < r.1 * 4096 + 32)) → (cutM P m l).f a = m.f a
  | [], _ => rfl
  | r :: l, h => by
    rw [cutM_cons]
    show (if r.1 * 4096 ≤ a ∧ a < r.1 * 4096 + 32 then (0 : Int) else (cutM P m l).f a) = m.f a
    rw [if_neg (h r (by simp))]
    exact cut_frame P m l fun q hq => h q (by simp [hq])
theorem parts_apart2 {P : Int} {B : Nat} {o : Int} {C : Co} {m : Int → Int} {S : Sh} {oth : List (Int × Hd)} {l t : List Part} (hR : RInv P B o C m S oth) (hS : S.parts = l ++ t) {p p' : Part} (hp : p ∈ l) (hp' : p' ∈ t) : p.1 + p.2.1 ≤ p'.1 ∨ p'.1 + p'.2.1 ≤ p.1 := by
  have r1 := hR.S.pi.parts _ (List.mem_map.2 ⟨p, by rw [hS]; simp [hp], rfl⟩)
  have r2 := hR.S.pi.parts _ (List.mem_map.2 ⟨p', by rw [hS]; simp [hp'], rfl⟩)
  unfold RunOk runP at r1 r2
  simp only at r1 r2
  by_cases hov : p.1 + p.2.1 ≤ p'.1 ∨ p'.1 + p'.2.1 ≤ p.1
  · exact hov
  exfalso
  have a1 := hR.K.part (max p.1 p'.1)
  have a2 := part_le1 (x := max p.1 p'.1) (P := C.P)
  rw [gr_app, cnt_append, gotR_cnt] at a1
  have a3 := cnt_nn (max p.1 p'.1) (gr oth)
  have a4 := cC_nn (max p.1 p'.1) C
  have a5 := cnt_nn (max p.1 p'.1) S.larges
  have a6 : cnt (max p.1 p'.1) (S.parts.map runP) = cnt (max p.1 p'.1) (l.map runP) + cnt (max p.1 p'.1) (t.map runP) := by
    rw [hS, List.map_append, cnt_append]
  have a7 := cnt_mem (x := max p.1 p'.1) (r := runP p) (l := l.map runP) (List.mem_map.2 ⟨p, hp, rfl⟩)
  have a7' := cnt_mem (x := max p.1 p'.1) (r := runP p') (l := t.map runP) (List.mem_map.2 ⟨p', hp', rfl⟩)
  have a8 : ind (max p.1 p'.1) (runP p) = 1 := by unfold ind runP; rw [if_pos]; simp only; omega
  have a9 : ind (max p.1 p'.1) (runP p') = 1 := by unfold ind runP; rw [if_pos]; simp only; omega
  unfold cS at a1
  omega
theorem ob_rew {P : Int} {B : Nat} {o : Int} {C C4 : Co} {m : Mm} {S s0 : Sh} {oth : List (Int × Hd)} {bs : List Ob} {len : Nat} (hR : RInv P B o C m.f S oth) (hI : ObI m.f S bs) (hg : Grow s0 S) (hin : ∀ b ∈ bs.take len, InP s0 b)
    (hR4 : RInv P B o C4 (rewM P m S s0.parts.length s0.larges.length (topAt s0)).f s0 oth) : ObI (rewM P m S s0.parts.length s0.larges.length (topAt s0)).f s0 (bs.take len) := by
  obtain ⟨⟨a, t, h1, h2⟩, ⟨t2, h3⟩⟩ := hg
  have hl0 : s0.larges = [] := by
    have := hI.nl; rw [h3] at this
    exact (List.append_eq_nil_iff.1 this).1
  have hsub : ∀ b ∈ bs.take len, b ∈ bs := fun b hb => List.mem_of_mem_take hb
  have hlen : (setLast s0.parts a).length = s0.parts.length := setLast_length _ _
  have hcp : (cutS S s0.parts.length s0.larges.length).parts = setLast s0.parts a := by
    unfold cutS; simp only [Int.toNat_natCast]; rw [h1, List.take_left' hlen]
  have hdr : (S.parts.map runP).drop s0.parts.length = t.map runP := by
    rw [h1, List.map_append, List.drop_left' (by simp [hlen])]
  have hta : s0.parts ≠ [] → topAt (cutS S s0.parts.length s0.larges.length) = a := fun hn => by
    unfold topAt; rw [hcp, lastP_setLast _ _ hn]
  have hta0 : s0.parts = [] → topAt (cutS S s0.parts.length s0.larges.length) = 0 := fun hn => by
    unfold topAt; rw [hcp, hn]; rfl
  -- what becomes of a byte
  have key : ∀ x, (∀ q ∈ t, ¬ (q.1 * 4096 ≤ x ∧ x < q.1 * 4096 + 32)) → (rewM P m S s0.parts.length s0.larges.length (topAt s0)).f x = if topAt s0 ≤ x ∧ x < topAt (cutS S s0.parts.length s0.larges.length) then 0 else m.f x := fun x hx => by
    have hcut : (cutM P (cutM P m (S.larges.drop (s0.larges.length : Int).toNat)) ((S.parts.map runP).drop (s0.parts.length : Int).toNat)).f x = m.f x := by
      rw [hI.nl, List.drop_nil]
      simp only [Int.toNat_natCast]
      rw [hdr]
      exact cut_frame P _ _ fun r hr => by
        obtain ⟨q, hq, rfl⟩ := List.mem_map.1 hr
        exact hx q hq
    unfold rewM
    split
    · show (if topAt s0 ≤ x ∧ x < topAt s0 + (topAt (cutS S s0.parts.length s0.larges.length) - topAt s0) then (0 : Int) else _) = _
      rw [show topAt s0 + (topAt (cutS S s0.parts.length s0.larges.length) - topAt s0) = topAt (cutS S s0.parts.length s0.larges.length) from by omega]
      split
      · rfl
      · exact hcut
    · rw [if_neg (by omega)]
      exact hcut
  -- chunks of the mark lie apart from those that are given up
  have hin0 : ∀ p ∈ s0.parts, ∃ p' ∈ setLast s0.parts a, p'.1 = p.1 ∧ p'.2.1 = p.2.1 ∧ p'.2.2.2 = p.2.2.2 ∧ (p'.2.2.1 = p.2.2.1 ∨ (p = lastP s0.parts ∧ p'.2.2.1 = a)) := fun p hp => by
    rcases mem_setLast a hp with h | h
    · subst h
      exact ⟨_, last_in_setLast a (by intro h0; rw [h0] at hp; cases hp), rfl, rfl, rfl, .inr ⟨rfl, rfl⟩⟩
    · exact ⟨p, h, rfl, rfl, rfl, .inl rfl⟩
  have hfar : ∀ p ∈ s0.parts, ∀ x, p.1 * 4096 ≤ x → x < (p.1 + p.2.1) * 4096 → ∀ q ∈ t, ¬ (q.1 * 4096 ≤ x ∧ x < q.1 * 4096 + 32) := fun p hp x hx0 hx1 q hq hh => by
    obtain ⟨p', hp', e1, e2, -⟩ := hin0 p hp
    have := parts_apart2 hR h1 hp' hq
    have hrq := hR.S.pi.parts _ (List.mem_map.2 ⟨q, by rw [h1]; simp [hq], rfl⟩)
    unfold RunOk runP at hrq
    simp only at hrq
    omega
  refine ⟨hin, fun b hb => hI.sz b (hsub b hb), fun b hb => ?_, hI.dis.sublist (List.take_sublist _ _), fun p hp x hx0 hx1 => ?_, hl0⟩
  · obtain ⟨p, hp, hp1, hp2⟩ := hin b hb
    have hs := hI.sz b (hsub b hb)
    have hpo := hR4.po p hp
    unfold PtOk at hpo
    rw [← hI.byt b (hsub b hb)]
    refine rdM_ext fun x hx0 hx1 => ?_
    rw [key x (hfar p hp x (by omega) (by omega)), if_neg]
    intro hh
    have hn : s0.parts ≠ [] := by intro h0; rw [h0] at hp; cases hp
    have hlast := last_mem hn
    have hlo := hR4.po _ hlast
    unfold PtOk at hlo
    have htt : topAt s0 = (lastP s0.parts).2.2.1 := rfl
    have hla := hR.po _ (show ((lastP s0.parts).1, (lastP s0.parts).2.1, a, (lastP s0.parts).2.2.2) ∈ S.parts by rw [h1]; exact List.mem_append_left _ (last_in_setLast a hn))
    unfold PtOk at hla
    simp only at hla
    rw [hta hn] at hh
    rcases parts_apart hR4 hp hlast with h | h | h
    · rw [← h] at htt; omega
    · omega
    · omega
  · have hpo := hR4.po p hp
    unfold PtOk at hpo
    rw [key x (hfar p hp x (by omega) (by omega))]
    split
    · rfl
    · rename_i hh
      obtain ⟨p', hp', e1, e2, e3, e4⟩ := hin0 p hp
      have hp'S : p' ∈ S.parts := by rw [h1]; simp [hp']
      rcases e4 with e4 | ⟨e5, e4⟩
      · exact hI.zr p' hp'S x (by omega) (by omega)
      · have hn : s0.parts ≠ [] := by intro h0; rw [h0] at hp; cases hp
        have htt : topAt s0 = (lastP s0.parts).2.2.1 := rfl
        rw [hta hn] at hh
        rw [← e5] at htt
        exact hI.zr p' hp'S x (by omega) (by omega)
/-- Marks: what stood there stands there still. -/
structure MkI (S : Sh) (bs : List Ob) (ms : List (Sh × Nat)) : Prop where
  one : ∀ q ∈ ms, Grow q.1 S ∧ q.2 ≤ bs.length ∧ (∀ b ∈ bs.take q.2, InP q.1 b) ∧ CurOk q.1 ∧ ShOk q.1
  two : ms.Pairwise fun q r => Grow q.1 r.1 ∧ q.2 ≤ r.2
theorem mk_alloc {S S' : Sh} {bs : List Ob} {ms : List (Sh × Nat)} {b : Ob} (h : MkI S bs ms) (hg : ∀ s, Grow s S → Grow s S') : MkI S' (bs ++ [b]) ms :=
  ⟨fun q hq => by
    obtain ⟨h1, h2, h3, h4⟩ := h.one q hq
    exact ⟨hg _ h1, by simp; omega, by rw [List.take_append_of_le_length h2]; exact h3, h4⟩, h.two⟩
theorem mk_mark {P : Int} {B : Nat} {o : Int} {C : Co} {m : Int → Int} {S : Sh} {oth : List (Int × Hd)} {bs : List Ob} {ms : List (Sh × Nat)} (hR : RInv P B o C m S oth) (hI : ObI m S bs) (h : MkI S bs ms) : MkI S bs (ms ++ [(S, bs.length)]) := by
  refine ⟨fun q hq => ?_, ?_⟩
  · rcases List.mem_append.1 hq with hq | hq
    · exact h.one q hq
    · simp at hq; subst hq
      exact ⟨Grow.refl S, Nat.le_refl _, fun b hb => hI.inp b (List.mem_of_mem_take hb), hR.curOk, hR.S.ok⟩
  · rw [List.pairwise_append]
    refine ⟨h.two, List.pairwise_singleton _ _, fun q hq r hr => ?_⟩
    simp at hr; subst hr
    exact ⟨(h.one q hq).1, (h.one q hq).2.1⟩
theorem mk_rew {S : Sh} {bs : List Ob} {ms : List (Sh × Nat)} {k : Nat} (h : MkI S bs ms) (hk : k < ms.length) : MkI ms[k].1 (bs.take ms[k].2) (ms.take (k + 1)) := by
  have hq0 := h.one ms[k] (List.getElem_mem hk)
  have hle : ∀ q ∈ ms.take (k + 1), (q = ms[k] ∨ (Grow q.1 ms[k].1 ∧ q.2 ≤ ms[k].2)) := fun q hq => by
    rw [List.take_succ_eq_append_getElem hk] at hq
    rcases List.mem_append.1 hq with hq | hq
    · right
      have h2 := h.two
      rw [← List.take_append_drop k ms, List.pairwise_append] at h2
      exact h2.2.2 q hq ms[k] (by have e : ms.drop k = ms[k] :: ms.drop (k + 1) := List.drop_eq_getElem_cons hk; rw [e]; exact List.mem_cons_self ..)
    · left; simpa using hq
  refine ⟨fun q hq => ?_, h.two.sublist (List.take_sublist _ _)⟩
  have h1 := h.one q (List.mem_of_mem_take hq)
  rcases hle q hq with rfl | ⟨g1, g2⟩
  · exact ⟨Grow.refl _, by rw [List.length_take]; omega, by rw [List.take_take, Nat.min_self]; exact h1.2.2.1, h1.2.2.2⟩
  · exact ⟨g1, by rw [List.length_take]; omega, by rw [List.take_take, Nat.min_eq_left g2]; exact h1.2.2.1, h1.2.2.2⟩
end Go.Proofs.Ytgoocobeoejoaaa.Sep
namespace Go.Proofs.Ytgoocobeoejoaaa.Sep
open Go.RowKit
set_option linter.unusedSimpArgs false
set_option linter.unusedVariables false
/-! the document's example of regions -/
def qk0 : Co := ⟨8, [(0, 8)], fun _ => [], 0⟩
def qk1 : Co := (getC qk0 1).1
def qk2 : Co := (getC qk1 2).1
def qs1 : Sh := ⟨[(0, 1, 42, 4096)], [], 10, 0⟩
def qs2 : Sh := ⟨[(0, 1, 68, 4096)], [], 14, 22⟩
def qs3 : Sh := ⟨[(0, 1, 68, 4096), (1, 2, 9128, 12288)], [], 5014, 22⟩
def qs5 : Sh := ⟨[(0, 1, 72, 4096)], [], 18, 22⟩
theorem nb {size align : Int} (h : (decide (size ≠ 0) && (needI 1 align).isSome) = true) : ¬ badA size align := by
  simp at h
  intro h'
  rcases h' with h' | h'
  · exact h.1 h'
  · rw [h.2] at h'; cases h'
theorem awr1 (m : Mm) : ∃ C m', AR 8 qk0 m emptySh 1 10 8 C m' qs1 32 0 ∧ C = qk1 := by
  refine ⟨_, _, AR.part 1 0 (nb (by decide)) (by decide +kernel) (by decide +kernel) (by decide +kernel), rfl⟩
theorem awr2 (C : Co) (m : Mm) : AR 8 C m qs1 1 4 64 C m qs2 64 0 := AR.fit (64, 68, 22) (nb (by decide)) (by decide +kernel)
theorem awr3 (m : Mm) : ∃ C m', AR 8 qk1 m qs2 1 5000 1 C m' qs3 4128 0 ∧ C = qk2 := by
  refine ⟨_, _, AR.part 2 1 (nb (by decide)) (by decide +kernel) (by decide +kernel) (by decide +kernel), rfl⟩
theorem awr5 (C : Co) (m : Mm) : AR 8 C m qs2 1 4 4 C m qs5 68 0 := AR.fit (68, 72, 0) (nb (by decide)) (by decide +kernel)
theorem awr4 : fitsS qs3 1 0 68 = true ∧ setTop (cutS qs3 1 0) 68 14 22 = qs2 := ⟨by decide +kernel, rfl⟩
theorem emptyInv {P : Int} {m : Int → Int} (h1 : 1 ≤ P) (h2 : P ≤ 1048576) (o : Int) : RInv P 0 o ⟨P, [(0, P)], fun _ => [], 0⟩ m emptySh [] := by
  refine ⟨?_, rfl, ⟨⟨fun p hp => (by cases hp), fun p hp => (by cases hp), by decide, by decide⟩, ⟨fun p hp => (by cases hp), fun p hp => (by cases hp)⟩, Nat.le_refl _, Nat.le_refl _⟩, fun p hp => (by cases hp)⟩
  have := knew P m
  rw [show min (max P 1) 1048576 = P from by omega] at this
  exact this
set_option maxHeartbeats 8000000
attribute [local irreducible] X XE XO XD XDi XDa PV RV DV pt base Spec Sl Mp Keeps Pg Kc Pgs Spc Ck XL XLi Pl Rs Rg
theorem awake15_spec : Spec Try.prog 4 [] [] isTrue := by
  refine Spec.intro (IsEnt.out) Try.func4 rfl Try.ntmps4 (by simp) (fun w0 F => ?_)
  simp only [envOf, List.zipIdx, List.map, List.cons_append, List.nil_append, Nat.zero_add, Nat.reduceAdd]
  have hr0 : RInv 8 0 1 qk0 (⟨fun _ => 0, 0⟩ : Mm).f emptySh [] := emptyInv (P := 8) (by decide) (by decide) 1
  repeat (first | refine Zq ?_ | refine Zs ?_ | refine ZT ?_ | refine ZF ?_ | refine Zc ?_ | refine XO_gU (hk := ?_))
  refine XO_call (knew_spec 8) (hk := ?_)
  rintro _ _ ⟨s, sb, rfl, rfl⟩
  generalize hm0 : (⟨fun _ => 0, 0⟩ : Mm) = m0 at hr0 ⊢
  repeat (first | refine Zq ?_ | refine Zs ?_ | refine ZT ?_ | refine ZF ?_ | refine Zc ?_ | refine XO_gU (hk := ?_))
  refine XO_call (rnew_spec s 1) (hk := ?_)
  rintro _ _ ⟨r, rfl, rfl⟩
  repeat (first | refine Zq ?_ | refine Zs ?_ | refine ZT ?_ | refine ZF ?_ | refine Zc ?_ | refine XO_gU (hk := ?_))
  obtain ⟨C1, m1, a1, rfl⟩ := awr1 m0
  have hr1 := a1.inv hr0 (by decide) (by decide) (by decide) (by decide)
  refine XO_call (ralloc_spec r s sb hr0 (by decide) (by decide) (by decide) (by decide) (by decide) a1) (hk := ?_)
  rintro _ _ ⟨rfl, rfl⟩
  repeat (first | refine Zq ?_ | refine Zs ?_ | refine ZT ?_ | refine ZF ?_ | refine Zc ?_ | refine XO_gU (hk := ?_))
  have a2 := awr2 qk1 m1
  have hr2 := a2.inv hr1 (by decide) (by decide) (by decide) (by decide)
  refine XO_call (ralloc_spec r s sb hr1 (by decide) (by decide) (by decide) (by decide) (by decide) a2) (hk := ?_)
  rintro _ _ ⟨rfl, rfl⟩
  repeat (first | refine Zq ?_ | refine Zs ?_ | refine ZT ?_ | refine ZF ?_ | refine Zc ?_ | refine XO_gU (hk := ?_))
  refine XO_call (rmark_spec r s 1 qs2 (by decide) (by decide)) (hk := ?_)
  rintro _ _ ⟨rfl, rfl⟩
  repeat (first | refine Zq ?_ | refine Zs ?_ | refine ZT ?_ | refine ZF ?_ | refine Zc ?_ | refine XO_gU (hk := ?_))
  refine XO_dv (dv_alloc (row := [.int .i64 0, .int .i64 0, .int .u64 0, .int .u64 0, .int .u64 0])) (hk := ?_)
  rintro _ _ ⟨kb, rfl, rfl⟩
  refine XO_dv0 (dv_storeW (vs := [.int .i64 1, .int .i64 0, .int .u64 68, .int .u64 14, .int .u64 22])) (hk := ?_)
  rintro _ _ rfl
  repeat (first | refine Zq ?_ | refine Zs ?_ | refine ZT ?_ | refine ZF ?_ | refine Zc ?_ | refine XO_gU (hk := ?_))
  obtain ⟨C3, m3, a3, rfl⟩ := awr3 m1
  have hr3 := a3.inv hr2 (by decide) (by decide) (by decide) (by decide)
  refine XO_call (ralloc_spec r s sb hr2 (by decide) (by decide) (by decide) (by decide) (by decide) a3) (hk := ?_)
  rintro _ _ ⟨rfl, rfl⟩
  repeat (first | refine Zq ?_ | refine Zs ?_ | refine ZT ?_ | refine ZF ?_ | refine Zc ?_ | refine XO_gU (hk := ?_))
  refine XO_call (rmeter_spec r s 1 qs3 (by decide) (by decide) hr3.bd.1 hr3.bd.2) (hk := ?_)
  rintro _ _ ⟨rfl, rfl⟩
  refine XO_pv (pv_fieldV (vs := [.int .i64 3, .int .i64 0, .int .i64 0, .int .i64 0, .int .u64 5014, .int .u64 22, .int .u64 64, .int .u64 7188]) (v := .int .i64 3)) (hk := ?_)
  repeat (first | refine Zq ?_ | refine Zs ?_ | refine ZT ?_ | refine ZF ?_ | refine Zc ?_ | refine XO_gU (hk := ?_))
  have s4 := rrew_ok r s sb (ob := 14) (pd := 22) hr3 awr4.1 (by decide) (by decide)
  have hr4 := rew_inv (ob := 14) (pd := 22) hr3 awr4.1 (by decide) (by decide) (by decide)
  rw [awr4.2] at s4 hr4
  refine XO_call s4 (hk := ?_)
  rintro _ _ ⟨rfl, rfl⟩
  generalize putsC qk2 qs3 1 0 = C4 at hr4 ⊢
  generalize rewM 8 m3 qs3 1 0 68 = m4 at hr4 ⊢
  repeat (first | refine Zq ?_ | refine Zs ?_ | refine ZT ?_ | refine ZF ?_ | refine Zc ?_ | refine XO_gU (hk := ?_))
  have a5 := awr5 C4 m4
  have hr5 := a5.inv hr4 (by decide) (by decide) (by decide) (by decide)
  refine XO_call (ralloc_spec r s sb hr4 (by decide) (by decide) (by decide) (by decide) (by decide) a5) (hk := ?_)
  rintro _ _ ⟨rfl, rfl⟩
  repeat (first | refine Zq ?_ | refine Zs ?_ | refine ZT ?_ | refine ZF ?_ | refine Zc ?_ | refine XO_gU (hk := ?_))
  refine XO_call (rmeter_spec r s 1 qs5 (by decide) (by decide) hr5.bd.1 hr5.bd.2) (hk := ?_)
  rintro _ _ ⟨rfl, rfl⟩
  repeat (first | refine Zq ?_ | refine Zs ?_ | refine ZT ?_ | refine ZF ?_ | refine Zc ?_ | refine XO_gU (hk := ?_))
  refine XO_pv (pv_buildG [.int .i64 1, .int .i64 0, .int .i64 0, .int .i64 0, .int .u64 18, .int .u64 22, .int .u64 32, .int .u64 4024]) (hk := ?_)
  repeat (first | refine Zq ?_ | refine Zs ?_ | refine ZT ?_ | refine ZF ?_ | refine Zc ?_ | refine XO_gU (hk := ?_))
  refine XO_pv (pv_eqRec [1, 0, 0, 0, 18, 22, 32, 4024] [1, 0, 0, 0, 18, 22, 32, 4024]) (hk := ?_)
  repeat (first | refine Zq ?_ | refine Zs ?_ | refine ZT ?_ | refine ZF ?_ | refine Zc ?_ | refine XO_gU (hk := ?_))
  refine XE_ret (.inl rfl) (tells_tmps rfl rfl) ⟨_, ⟨rfl, rfl⟩, by ((try simp only [List.cons_append, List.nil_append]); repeat (first | exact ent_refl | refine ent_take (by repeat (first | exact Find.here | apply Find.there)) ?_ | refine ent_drop ?_))⟩
end Go.Proofs.Ytgoocobeoejoaaa.Sep
namespace Go.Proofs.Ytgoocobeoejoaaa.Sep
open Go.RowKit
set_option linter.unusedSimpArgs false
set_option linter.unusedVariables false
set_option linter.unusedSectionVars false
/-! bytes that aren't 0; bytes that are -/
section
variable {P : Program} {w0 : World} {n : Nat} {Q : Exit → Act → World → Prop} {k : List KI} {e : Env} {L R : List HP} {all : Array Oper} {rest : List Oper} {ty : TypeId} {pos : String} {aft : Array Edge} {d : Nat}
/-- []byte(s), with its room. -/
theorem dv_bytesOfC {S T el : TypeId} {x : Operand} {s : ByteArray} (bs : List Int) [hs : TU P S .string] [ht : TU P T (.slice el)] [he : TU P el (.int .u8)] (hx : ev e x = some (.string s) := by rfl) (hb : s.data.toList.map (fun b => (b.toNat : Int)) = bs := by rfl) :
    DV P w0 (.convert S T x) ty e L (fun v L' => ∃ b c, bs.length ≤ c ∧ v = .slice (some ⟨b, 0, none⟩) bs.length c ∧ L' = Frz b bs :: L) := dv_of_run fun tm w pos aft h2 h3 => by
  have hrun := run_bytes_of_string (P := P) w S T el s hs.out ht.out he.out
  refine ⟨.slice (some ⟨w.heap.size, 0, none⟩) s.size (grownCap w s.size 0 el), w.drew.alloc (.cells (bytesRow s (grownCap w s.size 0 el)) el ((bytesRow s (grownCap w s.size 0 el)).size, (bytesRow s (grownCap w s.size 0 el)).size + 1)), Frz w.heap.size bs :: L, by simp [execOp, ev_sound h2 hx, hrun], ⟨w.heap.size, _, by rw [← bytes_len hb]; exact grownCap_ge w s.size 0 el, by rw [bytes_len hb], rfl⟩, ?_⟩
  refine ((h3.drew).alloc (o := .cells (bytesRow s (grownCap w s.size 0 el)) el ((bytesRow s (grownCap w s.size 0 el)).size, (bytesRow s (grownCap w s.size 0 el)).size + 1))).map fun _ => SL.head fun H hH => ⟨_, _, _, hH, fun j v hj => ?_⟩
  subst hb
  rw [flat_eI, List.map_map] at hj
  have hl : j < s.data.size := by
    have := (List.getElem?_eq_some_iff.1 hj).1
    simpa using this
  rw [bytesRow_at s _ j hl]
  simpa [Array.getElem?_eq_getElem hl] using hj
end
theorem fillB_byt (n : Nat) (k : Int) : Byt (fillB n k) := fun x hx => by
  obtain ⟨i, _, rfl⟩ := List.mem_map.1 hx
  omega
theorem fillB_get {n i : Nat} {k : Int} (h : i < n) : (fillB n k)[i]? = some (((i : Int) + k) % 255 + 1) := by simp [fillB, h]
abbrev fillS (n : Nat) (k : Int) : Value := .string ⟨(asB (fillB n k)).toArray⟩
set_option maxHeartbeats 8000000
attribute [local irreducible] X XE XO XD XDi XDa PV RV DV pt base Spec Sl Mp Keeps Pg Kc Pgs Spc Ck XL XLi Pl Rs Rg View
theorem fill_spec (n k : Int) (h0 : 1 ≤ n) (h1 : n ≤ 5000) (hk : 0 ≤ k) (hk2 : k ≤ 1000) : Spec Try.prog 12 [.int .i64 n, .int .i64 k] [] (fun v L => v = fillS n.toNat k ∧ L = []) := by
  refine Spec.intro (IsEnt.out) Try.func12 rfl Try.ntmps12 (by simp) (fun w0 F => ?_)
  simp only [envOf, List.zipIdx, List.map, List.cons_append, List.nil_append, Nat.zero_add, Nat.reduceAdd]
  repeat (first | refine Zq ?_ | refine Zs ?_ | refine ZT ?_ | refine ZF ?_ | refine Zc ?_ | refine XO_gU (hk := ?_))
  refine XO_dv (dv_makeSlice (E' := eI .u8) 0) (hk := ?_)
  rintro _ _ ⟨ob, rfl, rfl⟩
  repeat (first | refine Zq ?_ | refine Zs ?_ | refine ZT ?_ | refine ZF ?_ | refine Zc ?_ | refine XO_gU (hk := ?_))
  refine X_loop (ι := Nat) (fun i => i ≤ n.toNat) (fun i => [(0, .int .i64 n), (1, .int .i64 k), (5, .slice (some ⟨ob, 0, none⟩) n.toNat n.toNat), (6, .int .i64 (i : Int))])
    (fun i => Sl (eI .u8) (some ⟨ob, 0, none⟩) n.toNat (cutIn (List.replicate n.toNat 0) 0 ((fillB n.toNat k).take i)) :: F) (fun i => n.toNat - i) 0 (Nat.zero_le _) ?_ (by rw [List.take_zero, cutIn_nil]; ((try simp only [List.cons_append, List.nil_append]); repeat (first | exact ent_refl | refine ent_take (by repeat (first | exact Find.here | apply Find.there)) ?_ | refine ent_drop ?_))) ?_
  · (repeat (first | exact Env.sub_nil _ | refine Env.sub_cons rfl ?_))
  intro i hi
  dsimp only at hi ⊢
  have hfl := fillB_len n.toNat k
  repeat (first | refine Zq ?_ | refine Zs ?_ | refine ZT ?_ | refine ZF ?_ | refine Zc ?_ | refine XO_gU (hk := ?_))
  refine X_cond rfl (fun hc => ?_) (fun hc => ?_) <;> simp only [decide_eq_true_eq, decide_eq_false_iff_not] at hc
  · have hil : i < (fillB n.toNat k).length := by omega
    have hst := cutIn_step (xs := List.replicate n.toNat 0) (l := fillB n.toNat k) (at_ := 0) hil (by simp; omega)
    rw [Nat.zero_add] at hst
    have hgi : (fillB n.toNat k)[i] = ((i : Int) + k) % 255 + 1 := by
      have := fillB_get (n := n.toNat) (i := i) (k := k) (by omega)
      rw [List.getElem?_eq_getElem hil] at this
      exact Option.some.inj this
    have hxl : i < (cutIn (List.replicate n.toNat (0 : Int)) 0 ((fillB n.toNat k).take i)).length := by rw [cutIn_len (by simp; omega)]; simp; omega
    have hw : IntKind.u8.wrap (IntKind.u8.wrap (((i : Int) + k) % 255) + 1) = ((i : Int) + k) % 255 + 1 := by
      simp [IntKind.wrap, IntKind.bits, IntKind.signed]; omega
    repeat (first | refine Zq ?_ | refine Zs ?_ | refine ZT ?_ | refine ZF ?_ | refine Zc ?_ | refine XO_gU (hk := ?_))
    refine XO_reval 21 (.int .u8 (((i : Int) + k) % 255 + 1)) (hv := congrArg (Value.int .u8) hw) (hk := ?_)
    refine XO_dv0 (dv_put1 (E' := eI .u8) i (((i : Int) + k) % 255 + 1)) (hk := ?_)
    rintro _ _ rfl
    rw [← hgi, hst]
    repeat (first | refine Zq ?_ | refine Zs ?_ | refine ZT ?_ | refine ZF ?_ | refine Zc ?_ | refine XO_gU (hk := ?_))
    exact X_round (i + 1) (by show i + 1 ≤ n.toNat; omega) (by show n.toNat - (i + 1) < n.toNat - i; omega) (by (repeat (first | exact Env.sub_nil _ | refine Env.sub_cons rfl ?_))) (by ((try simp only [List.cons_append, List.nil_append]); repeat (first | exact ent_refl | refine ent_take (by repeat (first | exact Find.here | apply Find.there)) ?_ | refine ent_drop ?_)))
  · obtain rfl : i = n.toNat := by omega
    rw [List.take_of_length_le (by omega), cutIn_all (by rw [hfl]; simp)]
    repeat (first | refine Zq ?_ | refine Zs ?_ | refine ZT ?_ | refine ZF ?_ | refine Zc ?_ | refine XO_gU (hk := ?_))
    refine XO_rv (rv_stringOf (asB (fillB n.toNat k)) (b := ob) (o := 0) (m := n.toNat) (c := n.toNat) (A := Sl (eI .u8) (some ⟨ob, 0, none⟩) n.toNat (fillB n.toNat k)) (hx := rfl) (hV := Sl.view) (hm := by omega) (hl := by rw [asB_back (fillB_byt _ _), List.take_of_length_le (by omega)])) (hk := ?_)
    repeat (first | refine Zq ?_ | refine Zs ?_ | refine ZT ?_ | refine ZF ?_ | refine Zc ?_ | refine XO_gU (hk := ?_))
    refine XE_ret (.inl rfl) (tells_tmps rfl rfl) ⟨_, ⟨rfl, rfl⟩, by ((try simp only [List.cons_append, List.nil_append]); repeat (first | exact ent_refl | refine ent_take (by repeat (first | exact Find.here | apply Find.there)) ?_ | refine ent_drop ?_))⟩
theorem zero_spec (A : HP) (a : Option Addr) (c n : Nat) (hn : n ≤ 1048576) (hV : View A (eI .u8) a (List.replicate n 0)) : Spec Try.prog 10 [.slice a n c] [A] (fun v L => v = .bool true ∧ L = [A]) := by
  refine Spec.intro (IsEnt.out) Try.func10 rfl Try.ntmps10 (by simp) (fun w0 F => ?_)
  simp only [envOf, List.zipIdx, List.map, List.cons_append, List.nil_append, Nat.zero_add, Nat.reduceAdd]
  repeat (first | refine Zq ?_ | refine Zs ?_ | refine ZT ?_ | refine ZF ?_ | refine Zc ?_ | refine XO_gU (hk := ?_))
  refine X_loop (ι := Nat) (fun i => i ≤ n) (fun i => [(0, .slice a n c), (3, .int .i64 (i : Int))]) (fun i => A :: F) (fun i => n - i) 0 (Nat.zero_le _) ?_ (by ((try simp only [List.cons_append, List.nil_append]); repeat (first | exact ent_refl | refine ent_take (by repeat (first | exact Find.here | apply Find.there)) ?_ | refine ent_drop ?_))) ?_
  · (repeat (first | exact Env.sub_nil _ | refine Env.sub_cons rfl ?_))
  intro i hi
  dsimp only at hi ⊢
  repeat (first | refine Zq ?_ | refine Zs ?_ | refine ZT ?_ | refine ZF ?_ | refine Zc ?_ | refine XO_gU (hk := ?_))
  refine X_cond rfl (fun hc => ?_) (fun hc => ?_) <;> simp only [decide_eq_true_eq, decide_eq_false_iff_not] at hc
  · have hget : (List.replicate n (0 : Int))[i]? = some 0 := by rw [List.getElem?_replicate, if_pos (by omega)]
    refine X_view (A := A) (by (repeat (first | exact Find.here | apply Find.there))) hV (by simp; omega) ?_
    rintro b1 o1 rfl
    repeat (first | refine Zq ?_ | refine Zs ?_ | refine ZT ?_ | refine ZF ?_ | refine Zc ?_ | refine XO_gU (hk := ?_))
    refine X_cond rfl (fun h => by cases h) (fun _ => ?_)
    repeat (first | refine Zq ?_ | refine Zs ?_ | refine ZT ?_ | refine ZF ?_ | refine Zc ?_ | refine XO_gU (hk := ?_))
    exact X_round (i + 1) (by show i + 1 ≤ n; omega) (by show n - (i + 1) < n - i; omega) (by (repeat (first | exact Env.sub_nil _ | refine Env.sub_cons rfl ?_))) (by ((try simp only [List.cons_append, List.nil_append]); repeat (first | exact ent_refl | refine ent_take (by repeat (first | exact Find.here | apply Find.there)) ?_ | refine ent_drop ?_)))
  · repeat (first | refine Zq ?_ | refine Zs ?_ | refine ZT ?_ | refine ZF ?_ | refine Zc ?_ | refine XO_gU (hk := ?_))
    refine XE_ret (.inl rfl) (tells_tmps rfl rfl) ⟨_, ⟨rfl, rfl⟩, by ((try simp only [List.cons_append, List.nil_append]); repeat (first | exact ent_refl | refine ent_take (by repeat (first | exact Find.here | apply Find.there)) ?_ | refine ent_drop ?_))⟩
theorem load_ok (sb : Nat) {P : Int} {m : Mm} {at_ n : Int} (hP0 : 0 ≤ P) (hP : P ≤ 1048576) (h0 : 0 ≤ at_) (h1 : 0 ≤ n) (h2 : at_ + n ≤ P * 4096) (h3 : n ≤ 1048576) :
    Spec Try.prog 9 [.pointer (some ⟨sb, 0, none⟩), .int .u64 at_, .int .u64 n] [Spc sb P m] (fun v L => ∃ ob, v = .tuple #[.slice (some ⟨ob, 0, none⟩) n.toNat n.toNat, .int .i64 0] ∧ L = [Spc sb P (ldM m at_ n), Sl (eI .u8) (some ⟨ob, 0, none⟩) n.toNat (rdM m.f at_ n.toNat)]) := by
  have h := Load_spec sb P m at_ n hP0 hP h0 (by omega) h1 (by omega)
  unfold loadV at h
  rwa [if_pos (by unfold fitsI; rw [if_pos (by omega), if_neg (by omega)])] at h
theorem store_ok (A : HP) (sb c : Nat) (a : Option Addr) {P : Int} {m : Mm} {at_ : Int} {bs : List Int} (hV : View A (eI .u8) a bs) (hB : Byt bs) (hc : bs.length ≤ c) (hP0 : 0 ≤ P) (hP : P ≤ 1048576) (h0 : 0 ≤ at_) (h2 : at_ + bs.length ≤ P * 4096) (h3 : bs.length ≤ 1048576) :
    Spec Try.prog 11 [.pointer (some ⟨sb, 0, none⟩), .int .u64 at_, .slice a bs.length c] [Spc sb P m, A] (fun v L => v = .int .i64 0 ∧ L = [Spc sb P (stM m at_ bs), A]) := by
  have h := Store_spec A sb c a P m at_ bs hV hB hc (by omega) hP0 hP h0 (by omega)
  unfold storeV at h
  rwa [if_pos (by unfold fitsI; rw [if_pos (by omega), if_neg (by omega)])] at h
end Go.Proofs.Ytgoocobeoejoaaa.Sep
