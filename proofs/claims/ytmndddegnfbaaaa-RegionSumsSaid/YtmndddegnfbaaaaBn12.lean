import Derived.Test.YtmndddegnfbaaaaBn11
import Derived.Test.YtmndddegnfbaaaaBn2
import Derived.Test.YtmndddegnfbaaaaBn10
/- What the laws share: a separation logic over the model, and what the program's functions do, by it. Part 12 of 12: RegD RegE RegF Act15 AwakeR Grow RegG High Sim15. -/
namespace Go.Proofs.Ytmndddegnfbaaaa.Sep
open Go.RowKit
set_option linter.unusedSimpArgs false
set_option linter.unusedVariables false
/-! regions: marks, and what is rewound -/
set_option maxHeartbeats 8000000
attribute [local irreducible] X XE XO XD XDi XDa PV RV DV pt base Spec Sl Mp Keeps Pg Kc Pgs Spc Ck XL XLi Pl Rs Rg
abbrev markV (S : Sh) : Value := .agg #[.int .i64 (S.parts.length : Int), .int .i64 (S.larges.length : Int), .int .u64 (topAt S), .int .u64 S.obj, .int .u64 S.pad]
theorem rmark_spec (r s : Nat) (o : Int) (S : Sh) (hl : S.parts.length ≤ 1048576) (hl2 : S.larges.length ≤ 1048576) : Spec Try.prog 30 [.pointer (some ⟨r, 0, none⟩)] [Rg r s o S] (fun v L => v = markV S ∧ L = [Rg r s o S]) := by
  refine Spec.intro (IsEnt.out) Try.func30 rfl Try.ntmps30 (by simp) (fun w0 F => ?_)
  simp only [envOf, List.zipIdx, List.map, List.cons_append, List.nil_append, Nat.zero_add, Nat.reduceAdd]
  repeat (first | refine Zq ?_ | refine Zs ?_ | refine ZT ?_ | refine ZF ?_ | refine Zc ?_ | refine XO_gU (hk := ?_))
  refine XO_dv dv_alloc (hk := ?_)
  rintro _ _ ⟨gb, rfl, rfl⟩
  repeat (first | refine Zq ?_ | refine Zs ?_ | refine ZT ?_ | refine ZF ?_ | refine Zc ?_ | refine XO_gU (hk := ?_))
  refine X_cond rfl (fun h => by cases h) (fun _ => ?_)
  refine X_open (A := Rg r s o S) (by (repeat (first | exact Find.here | apply Find.there))) Rg.open ?_
  rintro ⟨p0, p1⟩ -
  dsimp only [List.cons_append, List.nil_append]
  refine X_open (A := Rs r s p0 p1 S) (by (repeat (first | exact Find.here | apply Find.there))) Rs.open ?_
  rintro ⟨a, c⟩ -
  dsimp only [List.cons_append, List.nil_append]
  repeat (first | refine Zq ?_ | refine Zs ?_ | refine ZT ?_ | refine ZF ?_ | refine Zc ?_ | refine XO_gU (hk := ?_))
  repeat (first | refine XD_pick (h := ?_) | refine Dq ?_ | refine Ds ?_ | refine XDi_gF (h := ?_) | refine XDi_gU (h := ?_) | refine X_draws (h := ?_))
  refine XD_one (h := ?_)
  refine XDa_dvA (dv_call (plen_spec p1 s 1 o S.larges)) (hk := ?_)
  (rintro _ _ ⟨_, ⟨rfl, rfl⟩, rfl⟩; refine ⟨by (repeat (first | exact keeps_nil | exact keeps_fnil | refine keeps_skip (h := ?_) | refine keeps_takeQ (h := ?_))), ?_⟩)
  repeat (first | refine XD_pick (h := ?_) | refine Dq ?_ | refine Ds ?_ | refine XDi_gF (h := ?_) | refine XDi_gU (h := ?_) | refine X_draws (h := ?_))
  refine XD_one (h := ?_)
  refine XDa_dvA (dv_call (rtop_spec r s p0 p1 S a c (by omega))) (hk := ?_)
  rintro _ _ ⟨_, ⟨cb, oo, A, G, rfl, hCur, hfold, rfl⟩, rfl⟩
  refine ⟨by (repeat (first | exact keeps_nil | exact keeps_fnil | refine keeps_skip (h := ?_) | refine keeps_takeQ (h := ?_))), ?_⟩
  repeat (first | refine XD_pick (h := ?_) | refine Dq ?_ | refine Ds ?_ | refine XDi_gF (h := ?_) | refine XDi_gU (h := ?_) | refine X_draws (h := ?_))
  refine XDi_rvA (hCur.load1 (by (repeat (first | exact Find.here | apply Find.there))) rfl) (h := ?_)
  repeat (first | refine XD_pick (h := ?_) | refine Dq ?_ | refine Ds ?_ | refine XDi_gF (h := ?_) | refine XDi_gU (h := ?_) | refine X_draws (h := ?_))
  refine XD_one (h := ?_)
  refine XDa_dvk0 dv_storeW (K := _) (hk := ?_)
  (rintro _ _ rfl; refine ⟨by (repeat (first | exact keeps_nil | exact keeps_fnil | refine keeps_skip (h := ?_) | refine keeps_takeQ (h := ?_))), ?_⟩)
  (refine XD_end (h := ?_); repeat (first | refine Zq ?_ | refine Zs ?_ | refine ZT ?_ | refine ZF ?_ | refine Zc ?_ | refine XO_gU (hk := ?_)))
  refine XE_fold (by repeat (first | exact FindAll.nil | exact Find.here | apply Find.there | apply FindAll.cons)) (hfold (topAt S) S.obj S.pad) ?_
  rw [setTop_self]
  refine XE_fold (by repeat (first | exact FindAll.nil | exact Find.here | apply Find.there | apply FindAll.cons)) (Rg.fold (r := r) (s := s) (o := o) (S := S) (p0 := p0) (p1 := p1)) ?_
  refine XE_ret (.inl rfl) (tells_cell rfl) ⟨_, ⟨rfl, rfl⟩, by ((try simp only [List.cons_append, List.nil_append]); repeat (first | exact ent_refl | refine ent_take (by repeat (first | exact Find.here | apply Find.there)) ?_ | refine ent_drop ?_))⟩
theorem rcheck_spec (r s : Nat) (o : Int) (S : Sh) (mc ml at_ ob pd : Int) (hl : S.parts.length ≤ 1048576) (hl2 : S.larges.length ≤ 1048576) : Spec Try.prog 64 [.pointer (some ⟨r, 0, none⟩), .agg #[.int .i64 mc, .int .i64 ml, .int .u64 at_, .int .u64 ob, .int .u64 pd]] [Rg r s o S] (fun v L => v = .bool (fitsS S mc ml at_) ∧ L = [Rg r s o S]) := by
  refine Spec.intro (IsEnt.out) Try.func64 rfl Try.ntmps64 (by simp) (fun w0 F => ?_)
  simp only [envOf, List.zipIdx, List.map, List.cons_append, List.nil_append, Nat.zero_add, Nat.reduceAdd]
  refine X_open .here Rg.open ?_
  rintro ⟨p0, p1⟩ -
  dsimp only [List.cons_append, List.nil_append]
  refine X_open (A := Rs r s p0 p1 S) (by (repeat (first | exact Find.here | apply Find.there))) Rs.open ?_
  rintro ⟨a, c⟩ -
  dsimp only [List.cons_append, List.nil_append]
  repeat (first | refine Zq ?_ | refine Zs ?_ | refine ZT ?_ | refine ZF ?_ | refine Zc ?_ | refine XO_gU (hk := ?_))
  refine XO_dv dv_box (hk := ?_)
  rintro _ _ ⟨b3, rfl, rfl⟩
  repeat (first | refine Zq ?_ | refine Zs ?_ | refine ZT ?_ | refine ZF ?_ | refine Zc ?_ | refine XO_gU (hk := ?_))
  repeat (first | refine XD_pick (h := ?_) | refine Dq ?_ | refine Ds ?_ | refine XDi_gF (h := ?_) | refine XDi_gU (h := ?_) | refine X_draws (h := ?_))
  refine XDi_either (hT := fun h => ?_) (hF := fun h => ?_) <;> simp only [decide_eq_true_eq, decide_eq_false_iff_not] at h
  · have hF : fitsS S mc ml at_ = false := by unfold fitsS; rw [if_pos (by omega)]
    rw [hF]
    repeat (first | refine XD_pick (h := ?_) | refine Dq ?_ | refine Ds ?_ | refine XDi_gF (h := ?_) | refine XDi_gU (h := ?_) | refine X_draws (h := ?_))
    (refine XD_head (h := ?_); first | refine XDi_gF (h := ?_) | refine XDi_gU (h := ?_))
    repeat (first | refine XD_pick (h := ?_) | refine Dq ?_ | refine Ds ?_ | refine XDi_gF (h := ?_) | refine XDi_gU (h := ?_) | refine X_draws (h := ?_))
    (refine XD_end (h := ?_); repeat (first | refine Zq ?_ | refine Zs ?_ | refine ZT ?_ | refine ZF ?_ | refine Zc ?_ | refine XO_gU (hk := ?_)))
    refine X_cond rfl (fun _ => ?_) (fun h => by cases h)
    repeat (first | refine Zq ?_ | refine Zs ?_ | refine ZT ?_ | refine ZF ?_ | refine Zc ?_ | refine XO_gU (hk := ?_))
    refine XE_fold (by repeat (first | exact FindAll.nil | exact Find.here | apply Find.there | apply FindAll.cons)) (Rs.fold (S := S)) ?_
    refine XE_fold (by repeat (first | exact FindAll.nil | exact Find.here | apply Find.there | apply FindAll.cons)) (Rg.fold (S := S)) ?_
    refine XE_ret (.inl rfl) (tells_tmps rfl rfl) ⟨_, ⟨rfl, rfl⟩, by ((try simp only [List.cons_append, List.nil_append]); repeat (first | exact ent_refl | refine ent_take (by repeat (first | exact Find.here | apply Find.there)) ?_ | refine ent_drop ?_))⟩
  repeat (first | refine XD_pick (h := ?_) | refine Dq ?_ | refine Ds ?_ | refine XDi_gF (h := ?_) | refine XDi_gU (h := ?_) | refine X_draws (h := ?_))
  refine XDi_either (hT := fun h => ?_) (hF := fun h => ?_) <;> simp only [decide_eq_true_eq, decide_eq_false_iff_not] at h
  · have hF : fitsS S mc ml at_ = false := by unfold fitsS; rw [if_pos (by omega)]
    rw [hF]
    repeat (first | refine XD_pick (h := ?_) | refine Dq ?_ | refine Ds ?_ | refine XDi_gF (h := ?_) | refine XDi_gU (h := ?_) | refine X_draws (h := ?_))
    (refine XD_head (h := ?_); first | refine XDi_gF (h := ?_) | refine XDi_gU (h := ?_))
    repeat (first | refine XD_pick (h := ?_) | refine Dq ?_ | refine Ds ?_ | refine XDi_gF (h := ?_) | refine XDi_gU (h := ?_) | refine X_draws (h := ?_))
    (refine XD_end (h := ?_); repeat (first | refine Zq ?_ | refine Zs ?_ | refine ZT ?_ | refine ZF ?_ | refine Zc ?_ | refine XO_gU (hk := ?_)))
    refine X_cond rfl (fun _ => ?_) (fun h => by cases h)
    repeat (first | refine Zq ?_ | refine Zs ?_ | refine ZT ?_ | refine ZF ?_ | refine Zc ?_ | refine XO_gU (hk := ?_))
    refine XE_fold (by repeat (first | exact FindAll.nil | exact Find.here | apply Find.there | apply FindAll.cons)) (Rs.fold (S := S)) ?_
    refine XE_fold (by repeat (first | exact FindAll.nil | exact Find.here | apply Find.there | apply FindAll.cons)) (Rg.fold (S := S)) ?_
    refine XE_ret (.inl rfl) (tells_tmps rfl rfl) ⟨_, ⟨rfl, rfl⟩, by ((try simp only [List.cons_append, List.nil_append]); repeat (first | exact ent_refl | refine ent_take (by repeat (first | exact Find.here | apply Find.there)) ?_ | refine ent_drop ?_))⟩
  repeat (first | refine XD_pick (h := ?_) | refine Dq ?_ | refine Ds ?_ | refine XDi_gF (h := ?_) | refine XDi_gU (h := ?_) | refine X_draws (h := ?_))
  refine XDi_either (hT := fun h => ?_) (hF := fun h => ?_) <;> simp only [decide_eq_true_eq, decide_eq_false_iff_not] at h
  · have hF : fitsS S mc ml at_ = false := by unfold fitsS; rw [if_pos (by omega)]
    rw [hF]
    repeat (first | refine XD_pick (h := ?_) | refine Dq ?_ | refine Ds ?_ | refine XDi_gF (h := ?_) | refine XDi_gU (h := ?_) | refine X_draws (h := ?_))
    (refine XD_head (h := ?_); first | refine XDi_gF (h := ?_) | refine XDi_gU (h := ?_))
    repeat (first | refine XD_pick (h := ?_) | refine Dq ?_ | refine Ds ?_ | refine XDi_gF (h := ?_) | refine XDi_gU (h := ?_) | refine X_draws (h := ?_))
    (refine XD_end (h := ?_); repeat (first | refine Zq ?_ | refine Zs ?_ | refine ZT ?_ | refine ZF ?_ | refine Zc ?_ | refine XO_gU (hk := ?_)))
    refine X_cond rfl (fun _ => ?_) (fun h => by cases h)
    repeat (first | refine Zq ?_ | refine Zs ?_ | refine ZT ?_ | refine ZF ?_ | refine Zc ?_ | refine XO_gU (hk := ?_))
    refine XE_fold (by repeat (first | exact FindAll.nil | exact Find.here | apply Find.there | apply FindAll.cons)) (Rs.fold (S := S)) ?_
    refine XE_fold (by repeat (first | exact FindAll.nil | exact Find.here | apply Find.there | apply FindAll.cons)) (Rg.fold (S := S)) ?_
    refine XE_ret (.inl rfl) (tells_tmps rfl rfl) ⟨_, ⟨rfl, rfl⟩, by ((try simp only [List.cons_append, List.nil_append]); repeat (first | exact ent_refl | refine ent_take (by repeat (first | exact Find.here | apply Find.there)) ?_ | refine ent_drop ?_))⟩
  repeat (first | refine XD_pick (h := ?_) | refine Dq ?_ | refine Ds ?_ | refine XDi_gF (h := ?_) | refine XDi_gU (h := ?_) | refine X_draws (h := ?_))
  refine XD_one (h := ?_)
  refine XDa_dvA (dv_call (plen_spec p1 s 1 o S.larges)) (hk := ?_)
  (rintro _ _ ⟨_, ⟨rfl, rfl⟩, rfl⟩; refine ⟨by (repeat (first | exact keeps_nil | exact keeps_fnil | refine keeps_skip (h := ?_) | refine keeps_takeQ (h := ?_))), ?_⟩)
  repeat (first | refine XD_pick (h := ?_) | refine Dq ?_ | refine Ds ?_ | refine XDi_gF (h := ?_) | refine XDi_gU (h := ?_) | refine X_draws (h := ?_))
  (refine XD_end (h := ?_); repeat (first | refine Zq ?_ | refine Zs ?_ | refine ZT ?_ | refine ZF ?_ | refine Zc ?_ | refine XO_gU (hk := ?_)))
  refine X_cond rfl (fun h => ?_) (fun h => ?_) <;> simp only [decide_eq_true_eq, decide_eq_false_iff_not] at h
  · have hF : fitsS S mc ml at_ = false := by unfold fitsS; rw [if_pos (by omega)]
    rw [hF]
    repeat (first | refine Zq ?_ | refine Zs ?_ | refine ZT ?_ | refine ZF ?_ | refine Zc ?_ | refine XO_gU (hk := ?_))
    refine XE_fold (by repeat (first | exact FindAll.nil | exact Find.here | apply Find.there | apply FindAll.cons)) (Rs.fold (S := S)) ?_
    refine XE_fold (by repeat (first | exact FindAll.nil | exact Find.here | apply Find.there | apply FindAll.cons)) (Rg.fold (S := S)) ?_
    refine XE_ret (.inl rfl) (tells_tmps rfl rfl) ⟨_, ⟨rfl, rfl⟩, by ((try simp only [List.cons_append, List.nil_append]); repeat (first | exact ent_refl | refine ent_take (by repeat (first | exact Find.here | apply Find.there)) ?_ | refine ent_drop ?_))⟩
  have hbad : ¬ (mc < 0 ∨ (S.parts.length : Int) < mc ∨ ml < 0 ∨ (S.larges.length : Int) < ml) := by omega
  repeat (first | refine Zq ?_ | refine Zs ?_ | refine ZT ?_ | refine ZF ?_ | refine Zc ?_ | refine XO_gU (hk := ?_))
  refine X_cond rfl (fun h => ?_) (fun h => ?_)
  · have h0 : mc = 0 := by simpa using h
    have hF : fitsS S mc ml at_ = (at_ == 0) := by unfold fitsS; rw [if_neg hbad, if_pos h0]
    rw [hF]
    repeat (first | refine Zq ?_ | refine Zs ?_ | refine ZT ?_ | refine ZF ?_ | refine Zc ?_ | refine XO_gU (hk := ?_))
    refine XE_fold (by repeat (first | exact FindAll.nil | exact Find.here | apply Find.there | apply FindAll.cons)) (Rs.fold (S := S)) ?_
    refine XE_fold (by repeat (first | exact FindAll.nil | exact Find.here | apply Find.there | apply FindAll.cons)) (Rg.fold (S := S)) ?_
    refine XE_ret (.inl rfl) (tells_tmps rfl rfl) ⟨_, ⟨rfl, rfl⟩, by ((try simp only [List.cons_append, List.nil_append]); repeat (first | exact ent_refl | refine ent_take (by repeat (first | exact Find.here | apply Find.there)) ?_ | refine ent_drop ?_))⟩
  · have h0 : ¬ mc = 0 := by simpa using h
    have hi : (mc - 1).toNat < S.parts.length := by omega
    have hg : S.parts.getD (mc.toNat - 1) (0, 0, 0, 0) = S.parts[(mc - 1).toNat] := by
      simp only [List.getD, show mc.toNat - 1 = (mc - 1).toNat from by omega, List.getElem?_eq_getElem hi, Option.getD_some]
    have hF : fitsS S mc ml at_ = (decide ((ofI S.parts[(mc - 1).toNat].1 S.parts[(mc - 1).toNat].2.1).1 ≤ at_) && decide (at_ ≤ S.parts[(mc - 1).toNat].2.2.1)) := by unfold fitsS; rw [if_neg hbad, if_neg h0, hg]
    rw [hF]
    have hget : S.parts[(mc - 1).toNat]? = some S.parts[(mc - 1).toNat] := List.getElem?_eq_getElem hi
    generalize S.parts[(mc - 1).toNat]'hi = q at hg hF hget ⊢
    refine X_slopen (E' := eRP) (a := a) (c := c) (xs := S.parts) (by (repeat (first | exact Find.here | apply Find.there))) (by omega) ?_
    rintro qb qo rfl
    repeat (first | refine Zq ?_ | refine Zs ?_ | refine ZT ?_ | refine ZF ?_ | refine Zc ?_ | refine XO_gU (hk := ?_))
    repeat (first | refine XD_pick (h := ?_) | refine Dq ?_ | refine Ds ?_ | refine XDi_gF (h := ?_) | refine XDi_gU (h := ?_) | refine X_draws (h := ?_))
    refine XD_one (h := ?_)
    refine XDa_dvA (dv_alloc (row := [.int .u64 0, .int .u64 0, .int .u64 0])) (hk := ?_)
    rintro _ _ ⟨b5, rfl, rfl⟩
    refine ⟨by (repeat (first | exact keeps_nil | exact keeps_fnil | refine keeps_skip (h := ?_) | refine keeps_takeQ (h := ?_))), ?_⟩
    repeat (first | refine XD_pick (h := ?_) | refine Dq ?_ | refine Ds ?_ | refine XDi_gF (h := ?_) | refine XDi_gU (h := ?_) | refine X_draws (h := ?_))
    refine XD_one (h := ?_)
    refine XDa_dvk0 (dv_storeW (vs := [.int .u64 (ofI q.1 q.2.1).1, .int .u64 q.2.2.1, .int .u64 q.2.2.2])) (K := _) (hk := ?_)
    (rintro _ _ rfl; refine ⟨by (repeat (first | exact keeps_nil | exact keeps_fnil | refine keeps_skip (h := ?_) | refine keeps_takeQ (h := ?_))), ?_⟩)
    (refine XD_end (h := ?_); repeat (first | refine Zq ?_ | refine Zs ?_ | refine ZT ?_ | refine ZF ?_ | refine Zc ?_ | refine XO_gU (hk := ?_)))
    refine XO_either (hT := fun h2 => ?_) (hF := fun h2 => ?_) <;> simp only [decide_eq_true_eq, decide_eq_false_iff_not] at h2
    · rw [decide_eq_true h2, Bool.true_and]
      repeat (first | refine Zq ?_ | refine Zs ?_ | refine ZT ?_ | refine ZF ?_ | refine Zc ?_ | refine XO_gU (hk := ?_))
      refine XE_fold (by repeat (first | exact FindAll.nil | exact Find.here | apply Find.there | apply FindAll.cons)) (Rs.fold (S := S)) ?_
      refine XE_fold (by repeat (first | exact FindAll.nil | exact Find.here | apply Find.there | apply FindAll.cons)) (Rg.fold (S := S)) ?_
      refine XE_ret (.inl rfl) (tells_tmps rfl rfl) ⟨_, ⟨rfl, rfl⟩, by ((try simp only [List.cons_append, List.nil_append]); repeat (first | exact ent_refl | refine ent_take (by repeat (first | exact Find.here | apply Find.there)) ?_ | refine ent_drop ?_))⟩
    · rw [decide_eq_false h2, Bool.false_and]
      repeat (first | refine Zq ?_ | refine Zs ?_ | refine ZT ?_ | refine ZF ?_ | refine Zc ?_ | refine XO_gU (hk := ?_))
      refine XE_fold (by repeat (first | exact FindAll.nil | exact Find.here | apply Find.there | apply FindAll.cons)) (Rs.fold (S := S)) ?_
      refine XE_fold (by repeat (first | exact FindAll.nil | exact Find.here | apply Find.there | apply FindAll.cons)) (Rg.fold (S := S)) ?_
      refine XE_ret (.inl rfl) (tells_tmps rfl rfl) ⟨_, ⟨rfl, rfl⟩, by ((try simp only [List.cons_append, List.nil_append]); repeat (first | exact ent_refl | refine ent_take (by repeat (first | exact Find.here | apply Find.there)) ?_ | refine ent_drop ?_))⟩
end Go.Proofs.Ytmndddegnfbaaaa.Sep
namespace Go.Proofs.Ytmndddegnfbaaaa.Sep
open Go.RowKit
set_option linter.unusedSimpArgs false
set_option linter.unusedVariables false
/-! regions: rewound -/
set_option maxHeartbeats 8000000
attribute [local irreducible] X XE XO XD XDi XDa PV RV DV pt base Spec Sl Mp Keeps Pg Kc Pgs Spc Ck XL XLi Pl Rs Rg
theorem rrew_no (r s : Nat) (o : Int) (S : Sh) (mc ml at_ ob pd : Int) (hl : S.parts.length ≤ 1048576) (hl2 : S.larges.length ≤ 1048576) (hf : fitsS S mc ml at_ = false) :
    Spec Try.prog 35 [.pointer (some ⟨r, 0, none⟩), .agg #[.int .i64 mc, .int .i64 ml, .int .u64 at_, .int .u64 ob, .int .u64 pd]] [Rg r s o S] (fun v L => v = .int .i64 2 ∧ L = [Rg r s o S]) := by
  refine Spec.intro (IsEnt.out) Try.func35 rfl Try.ntmps35 (by simp) (fun w0 F => ?_)
  simp only [envOf, List.zipIdx, List.map, List.cons_append, List.nil_append, Nat.zero_add, Nat.reduceAdd]
  have hs := rcheck_spec r s o S mc ml at_ ob pd hl hl2
  rw [hf] at hs
  repeat (first | refine Zq ?_ | refine Zs ?_ | refine ZT ?_ | refine ZF ?_ | refine Zc ?_ | refine XO_gU (hk := ?_))
  refine XO_dv dv_box (hk := ?_)
  rintro _ _ ⟨b3, rfl, rfl⟩
  repeat (first | refine Zq ?_ | refine Zs ?_ | refine ZT ?_ | refine ZF ?_ | refine Zc ?_ | refine XO_gU (hk := ?_))
  refine XO_call hs (hk := ?_)
  rintro _ _ ⟨rfl, rfl⟩
  repeat (first | refine Zq ?_ | refine Zs ?_ | refine ZT ?_ | refine ZF ?_ | refine Zc ?_ | refine XO_gU (hk := ?_))
  refine X_cond rfl (fun _ => ?_) (fun h => by cases h)
  repeat (first | refine Zq ?_ | refine Zs ?_ | refine ZT ?_ | refine ZF ?_ | refine Zc ?_ | refine XO_gU (hk := ?_))
  refine XE_ret (.inl rfl) (tells_tmps rfl rfl) ⟨_, ⟨rfl, rfl⟩, by ((try simp only [List.cons_append, List.nil_append]); repeat (first | exact ent_refl | refine ent_take (by repeat (first | exact Find.here | apply Find.there)) ?_ | refine ent_drop ?_))⟩
theorem rrew_ok (r s sb : Nat) {P : Int} {B : Nat} {o : Int} {C : Co} {m : Mm} {S : Sh} {oth : List (Int × Hd)} {mc ml at_ ob pd : Int} (hR : RInv P B o C m.f S oth) (hf : fitsS S mc ml at_ = true) (h0 : 0 ≤ at_) (h1 : at_ ≤ 18446744073709551615) :
    Spec Try.prog 35 [.pointer (some ⟨r, 0, none⟩), .agg #[.int .i64 mc, .int .i64 ml, .int .u64 at_, .int .u64 ob, .int .u64 pd]] [Rg r s o S, Ck s sb C, Spc sb P m]
      (fun v L => v = .int .i64 0 ∧ L = [Rg r s o (setTop (cutS S mc ml) at_ ob pd), Ck s sb (putsC C S mc ml), Spc sb P (rewM P m S mc ml at_)]) := by
  refine Spec.intro (IsEnt.out) Try.func35 rfl Try.ntmps35 (by simp) (fun w0 F => ?_)
  simp only [envOf, List.zipIdx, List.map, List.cons_append, List.nil_append, Nat.zero_add, Nat.reduceAdd]
  have hlen := hR.len
  have hPb := hR.P1
  have hs := rcheck_spec r s o S mc ml at_ ob pd hlen.1 hlen.2
  rw [hf] at hs
  obtain ⟨f1, f2, f3, f4, f5, f6⟩ := fits_bds hf
  repeat (first | refine Zq ?_ | refine Zs ?_ | refine ZT ?_ | refine ZF ?_ | refine Zc ?_ | refine XO_gU (hk := ?_))
  refine XO_dv dv_box (hk := ?_)
  rintro _ _ ⟨b3, rfl, rfl⟩
  repeat (first | refine Zq ?_ | refine Zs ?_ | refine ZT ?_ | refine ZF ?_ | refine Zc ?_ | refine XO_gU (hk := ?_))
  refine XO_call hs (hk := ?_)
  rintro _ _ ⟨rfl, rfl⟩
  repeat (first | refine Zq ?_ | refine Zs ?_ | refine ZT ?_ | refine ZF ?_ | refine Zc ?_ | refine XO_gU (hk := ?_))
  refine X_cond rfl (fun h => by cases h) (fun _ => ?_)
  refine X_open (A := Rg r s o S) (by (repeat (first | exact Find.here | apply Find.there))) Rg.open ?_
  rintro ⟨p0, p1⟩ -
  dsimp only [List.cons_append, List.nil_append]
  refine X_open (A := Rs r s p0 p1 S) (by (repeat (first | exact Find.here | apply Find.there))) Rs.open ?_
  rintro ⟨a, c⟩ -
  dsimp only [List.cons_append, List.nil_append]
  have hK1 := hR.k1
  have s1 := pcut_spec p1 s sb hK1 hR.hP hlen.2 (n := ml) f3
  obtain ⟨k1, k2⟩ := pcut_inv hK1 hR.hP hlen.2 ml.toNat
  have hK2 : KInv (cutC C (S.larges.drop ml.toNat)) (cutM P m (S.larges.drop ml.toNat)).f (plH 0 o 0 (S.parts.map runP) ++ (plH 1 o 0 (S.larges.take ml.toNat) ++ oth)) := by
    refine k1.perm ?_
    refine (List.Perm.of_eq (List.append_assoc _ _ _).symm).trans (((List.perm_append_comm).append_right oth).trans (List.Perm.of_eq (List.append_assoc _ _ _)))
  have s2 := pcut_spec p0 s sb hK2 k2 (by simp; exact hlen.1) (n := mc) f1
  have hC : putsC C S mc ml = cutC (cutC C (S.larges.drop ml.toNat)) ((S.parts.map runP).drop mc.toNat) := rfl
  unfold rewM
  rw [hC]
  repeat (first | refine Zq ?_ | refine Zs ?_ | refine ZT ?_ | refine ZF ?_ | refine Zc ?_ | refine XO_gU (hk := ?_))
  repeat (first | refine XD_pick (h := ?_) | refine Dq ?_ | refine Ds ?_ | refine XDi_gF (h := ?_) | refine XDi_gU (h := ?_) | refine X_draws (h := ?_))
  refine XD_one (h := ?_)
  refine XDa_dvA (dv_call s1) (hk := ?_)
  (rintro _ _ ⟨_, ⟨rfl, rfl⟩, rfl⟩; refine ⟨by (repeat (first | exact keeps_nil | exact keeps_fnil | refine keeps_skip (h := ?_) | refine keeps_takeQ (h := ?_))), ?_⟩)
  (refine XD_end (h := ?_); repeat (first | refine Zq ?_ | refine Zs ?_ | refine ZT ?_ | refine ZF ?_ | refine Zc ?_ | refine XO_gU (hk := ?_)))
  repeat (first | refine XD_pick (h := ?_) | refine Dq ?_ | refine Ds ?_ | refine XDi_gF (h := ?_) | refine XDi_gU (h := ?_) | refine X_draws (h := ?_))
  refine XD_one (h := ?_)
  refine XDa_dvA (dv_call s2) (hk := ?_)
  (rintro _ _ ⟨_, ⟨rfl, rfl⟩, rfl⟩; refine ⟨by (repeat (first | exact keeps_nil | exact keeps_fnil | refine keeps_skip (h := ?_) | refine keeps_takeQ (h := ?_))), ?_⟩)
  (refine XD_end (h := ?_); repeat (first | refine Zq ?_ | refine Zs ?_ | refine ZT ?_ | refine ZF ?_ | refine Zc ?_ | refine XO_gU (hk := ?_)))
  clear s1 s2
  generalize cutM P (cutM P m (S.larges.drop ml.toNat)) ((S.parts.map runP).drop mc.toNat) = m1
  generalize cutC (cutC C (S.larges.drop ml.toNat)) ((S.parts.map runP).drop mc.toNat) = C1
  refine X_fact (A := Sl eRP a c S.parts) (by (repeat (first | exact Find.here | apply Find.there))) Sl.cap (fun hcap => ?_)
  repeat (first | refine Zq ?_ | refine Zs ?_ | refine ZT ?_ | refine ZF ?_ | refine Zc ?_ | refine XO_gU (hk := ?_))
  repeat (first | refine XD_pick (h := ?_) | refine Dq ?_ | refine Ds ?_ | refine XDi_gF (h := ?_) | refine XDi_gU (h := ?_) | refine X_draws (h := ?_))
  refine XD_one (h := ?_)
  refine XDa_dvk0 dv_store (K := _) (hk := ?_)
  (rintro _ _ rfl; refine ⟨by (repeat (first | exact keeps_nil | exact keeps_fnil | refine keeps_skip (h := ?_) | refine keeps_takeQ (h := ?_))), ?_⟩)
  (refine XD_end (h := ?_); repeat (first | refine Zq ?_ | refine Zs ?_ | refine ZT ?_ | refine ZF ?_ | refine Zc ?_ | refine XO_gU (hk := ?_)))
  have hln : mc.toNat = (cutS S mc ml).parts.length := by simp [cutS]; omega
  have hruns := cut_runs S mc ml
  have hlar : (cutS S mc ml).larges = S.larges.take ml.toNat := rfl
  refine XO_conv (fun _ => SL_take (E' := eRP) (a := a) (c := c) (xs := S.parts) mc.toNat (by (repeat (first | exact Find.here | apply Find.there)))) ?_
  refine XO_fold (by repeat (first | exact FindAll.nil | exact Find.here | apply Find.there | apply FindAll.cons)) (Rs.foldN (r := r) (s := s) (p0 := p0) (p1 := p1) (S := cutS S mc ml) (a := a) (c := c) (n := mc.toNat) hln) ?_
  have hsl : (cutS S mc ml).parts.length ≤ 4611686018427387904 := by omega
  have htop : at_ < topAt (cutS S mc ml) → 0 ≤ topAt (cutS S mc ml) ∧ topAt (cutS S mc ml) ≤ P * 4096 := fun hlt => by
    have hmc : mc ≠ 0 := by
      intro h
      have h2 := f5 h
      have : topAt (cutS S mc ml) = 0 := by unfold topAt cutS; rw [h]; rfl
      omega
    obtain ⟨e1, e2, e3, e4⟩ := f6 hmc
    have hm1 : lastP (cutS S mc ml).parts ∈ S.parts := List.mem_of_mem_take (last_mem e1)
    have hrun := hR.S.pi.parts _ (List.mem_map.2 ⟨_, hm1, rfl⟩)
    have hpo := hR.po _ hm1
    unfold RunOk runP at hrun
    unfold PtOk at hpo
    unfold topAt
    simp only at hrun
    omega
  clear hln f6
  generalize cutS S mc ml = S1 at hruns hlar hsl htop ⊢
  refine XO_open (A := Rs r s p0 p1 S1) (by (repeat (first | exact Find.here | apply Find.there))) Rs.open ?_
  rintro ⟨a1, c1⟩ -
  dsimp only [List.cons_append, List.nil_append]
  refine XO_call (rtop_spec r s p0 p1 S1 a1 c1 hsl) (hk := ?_)
  rintro _ _ ⟨cb, oo, A, G, rfl, hCur, hfold, rfl⟩
  repeat (first | refine Zq ?_ | refine Zs ?_ | refine ZT ?_ | refine ZF ?_ | refine Zc ?_ | refine XO_gU (hk := ?_))
  refine XO_rv (hCur.load1 (by (repeat (first | exact Find.here | apply Find.there))) rfl) (hk := ?_)
  refine XO_fold (by repeat (first | exact FindAll.nil | exact Find.here | apply Find.there | apply FindAll.cons)) (hfold (topAt S1) S1.obj S1.pad) ?_
  rw [setTop_self]
  clear hCur hfold
  refine XO_open (A := Rs r s p0 p1 S1) (by (repeat (first | exact Find.here | apply Find.there))) Rs.open ?_
  rintro ⟨a2, c2⟩ -
  dsimp only [List.cons_append, List.nil_append]
  repeat (first | refine Zq ?_ | refine Zs ?_ | refine ZT ?_ | refine ZF ?_ | refine Zc ?_ | refine XO_gU (hk := ?_))
  refine X_cond rfl (fun hlt => ?_) (fun hlt => ?_) <;> simp only [decide_eq_true_eq, decide_eq_false_iff_not] at hlt
  · rw [if_pos hlt]
    have ht := htop hlt
    have hz := Zero_spec sb P m1 at_ (topAt S1 - at_) (by omega) hPb.2 h0 h1 (by omega) (by omega)
    unfold zeroV at hz
    rw [if_pos (by omega)] at hz
    repeat (first | refine Zq ?_ | refine Zs ?_ | refine ZT ?_ | refine ZF ?_ | refine Zc ?_ | refine XO_gU (hk := ?_))
    repeat (first | refine XD_pick (h := ?_) | refine Dq ?_ | refine Ds ?_ | refine XDi_gF (h := ?_) | refine XDi_gU (h := ?_) | refine X_draws (h := ?_))
    refine XD_one (h := ?_)
    refine XDa_dvA (dv_call (kspace_spec s sb C1)) (hk := ?_)
    (rintro _ _ ⟨_, ⟨rfl, rfl⟩, rfl⟩; refine ⟨by (repeat (first | exact keeps_nil | exact keeps_fnil | refine keeps_skip (h := ?_) | refine keeps_takeQ (h := ?_))), ?_⟩)
    repeat (first | refine XD_pick (h := ?_) | refine Dq ?_ | refine Ds ?_ | refine XDi_gF (h := ?_) | refine XDi_gU (h := ?_) | refine X_draws (h := ?_))
    refine XD_one (h := ?_)
    refine XDa_dvA (dv_call hz) (hk := ?_)
    (rintro _ _ ⟨_, ⟨rfl, rfl⟩, rfl⟩; refine ⟨by (repeat (first | exact keeps_nil | exact keeps_fnil | refine keeps_skip (h := ?_) | refine keeps_takeQ (h := ?_))), ?_⟩)
    (refine XD_end (h := ?_); repeat (first | refine Zq ?_ | refine Zs ?_ | refine ZT ?_ | refine ZF ?_ | refine Zc ?_ | refine XO_gU (hk := ?_)))
    repeat (first | refine Zq ?_ | refine Zs ?_ | refine ZT ?_ | refine ZF ?_ | refine Zc ?_ | refine XO_gU (hk := ?_))
    repeat (first | refine XD_pick (h := ?_) | refine Dq ?_ | refine Ds ?_ | refine XDi_gF (h := ?_) | refine XDi_gU (h := ?_) | refine X_draws (h := ?_))
    refine XD_one (h := ?_)
    refine XDa_dvA (dv_call (rtop_spec r s p0 p1 S1 a2 c2 hsl)) (hk := ?_)
    rintro _ _ ⟨_, ⟨cb2, o2, A2, G2, rfl, hCur2, hfold2, rfl⟩, rfl⟩
    refine ⟨by (repeat (first | exact keeps_nil | exact keeps_fnil | refine keeps_skip (h := ?_) | refine keeps_takeQ (h := ?_))), ?_⟩
    repeat (first | refine XD_pick (h := ?_) | refine Dq ?_ | refine Ds ?_ | refine XDi_gF (h := ?_) | refine XDi_gU (h := ?_) | refine X_draws (h := ?_))
    refine XD_one (h := ?_)
    refine XDa_dvk0 (hCur2.store1 (a' := at_) (by (repeat (first | exact Find.here | apply Find.there))) rfl rfl) (K := _) (hk := ?_)
    (rintro _ _ rfl; refine ⟨by (repeat (first | exact keeps_nil | exact keeps_fnil | refine keeps_skip (h := ?_) | refine keeps_takeQ (h := ?_))), ?_⟩)
    (refine XD_end (h := ?_); repeat (first | refine Zq ?_ | refine Zs ?_ | refine ZT ?_ | refine ZF ?_ | refine Zc ?_ | refine XO_gU (hk := ?_)))
    refine XO_dv0 (dv_storeP (vs := [.int .u64 ob, .int .u64 pd])) (hk := ?_)
    rintro _ _ rfl
    refine XO_fold (by repeat (first | exact FindAll.nil | exact Find.here | apply Find.there | apply FindAll.cons)) (hfold2 at_ ob pd) ?_
    rw [← hruns, ← hlar]
    refine XO_fold (by repeat (first | exact FindAll.nil | exact Find.here | apply Find.there | apply FindAll.cons)) (Rg.foldT (r := r) (s := s) (o := o) (S := S1) (p0 := p0) (p1 := p1) (a := at_) (b := ob) (c := pd)) ?_
    repeat (first | refine Zq ?_ | refine Zs ?_ | refine ZT ?_ | refine ZF ?_ | refine Zc ?_ | refine XO_gU (hk := ?_))
    refine XE_ret (.inl rfl) (tells_tmps rfl rfl) ⟨_, ⟨rfl, rfl⟩, by ((try simp only [List.cons_append, List.nil_append]); repeat (first | exact ent_refl | refine ent_take (by repeat (first | exact Find.here | apply Find.there)) ?_ | refine ent_drop ?_))⟩
  · rw [if_neg hlt]
    repeat (first | refine Zq ?_ | refine Zs ?_ | refine ZT ?_ | refine ZF ?_ | refine Zc ?_ | refine XO_gU (hk := ?_))
    repeat (first | refine XD_pick (h := ?_) | refine Dq ?_ | refine Ds ?_ | refine XDi_gF (h := ?_) | refine XDi_gU (h := ?_) | refine X_draws (h := ?_))
    refine XD_one (h := ?_)
    refine XDa_dvA (dv_call (rtop_spec r s p0 p1 S1 a2 c2 hsl)) (hk := ?_)
    rintro _ _ ⟨_, ⟨cb2, o2, A2, G2, rfl, hCur2, hfold2, rfl⟩, rfl⟩
    refine ⟨by (repeat (first | exact keeps_nil | exact keeps_fnil | refine keeps_skip (h := ?_) | refine keeps_takeQ (h := ?_))), ?_⟩
    repeat (first | refine XD_pick (h := ?_) | refine Dq ?_ | refine Ds ?_ | refine XDi_gF (h := ?_) | refine XDi_gU (h := ?_) | refine X_draws (h := ?_))
    refine XD_one (h := ?_)
    refine XDa_dvk0 (hCur2.store1 (a' := at_) (by (repeat (first | exact Find.here | apply Find.there))) rfl rfl) (K := _) (hk := ?_)
    (rintro _ _ rfl; refine ⟨by (repeat (first | exact keeps_nil | exact keeps_fnil | refine keeps_skip (h := ?_) | refine keeps_takeQ (h := ?_))), ?_⟩)
    (refine XD_end (h := ?_); repeat (first | refine Zq ?_ | refine Zs ?_ | refine ZT ?_ | refine ZF ?_ | refine Zc ?_ | refine XO_gU (hk := ?_)))
    refine XO_dv0 (dv_storeP (vs := [.int .u64 ob, .int .u64 pd])) (hk := ?_)
    rintro _ _ rfl
    refine XO_fold (by repeat (first | exact FindAll.nil | exact Find.here | apply Find.there | apply FindAll.cons)) (hfold2 at_ ob pd) ?_
    rw [← hruns, ← hlar]
    refine XO_fold (by repeat (first | exact FindAll.nil | exact Find.here | apply Find.there | apply FindAll.cons)) (Rg.foldT (r := r) (s := s) (o := o) (S := S1) (p0 := p0) (p1 := p1) (a := at_) (b := ob) (c := pd)) ?_
    repeat (first | refine Zq ?_ | refine Zs ?_ | refine ZT ?_ | refine ZF ?_ | refine Zc ?_ | refine XO_gU (hk := ?_))
    refine XE_ret (.inl rfl) (tells_tmps rfl rfl) ⟨_, ⟨rfl, rfl⟩, by ((try simp only [List.cons_append, List.nil_append]); repeat (first | exact ent_refl | refine ent_take (by repeat (first | exact Find.here | apply Find.there)) ?_ | refine ent_drop ?_))⟩
theorem rreset_spec (r s sb : Nat) {P : Int} {B : Nat} {o : Int} {C : Co} {m : Mm} {S : Sh} {oth : List (Int × Hd)} (hR : RInv P B o C m.f S oth) :
    Spec Try.prog 28 [.pointer (some ⟨r, 0, none⟩)] [Rg r s o S, Ck s sb C, Spc sb P m]
      (fun v L => v = .int .i64 0 ∧ L = [Rg r s o emptySh, Ck s sb (putsC C S 0 0), Spc sb P (rewM P m S 0 0 0)]) := by
  refine Spec.intro (IsEnt.out) Try.func28 rfl Try.ntmps28 (by simp) (fun w0 F => ?_)
  simp only [envOf, List.zipIdx, List.map, List.cons_append, List.nil_append, Nat.zero_add, Nat.reduceAdd]
  have hf : fitsS S 0 0 0 = true := by
    unfold fitsS
    rw [if_neg (by omega), if_pos rfl]
    rfl
  have hs := rrew_ok r s sb (ob := 0) (pd := 0) hR hf (Int.le_refl _) (by decide)
  repeat (first | refine Zq ?_ | refine Zs ?_ | refine ZT ?_ | refine ZF ?_ | refine Zc ?_ | refine XO_gU (hk := ?_))
  refine XO_call hs (hk := ?_)
  rintro _ _ ⟨rfl, rfl⟩
  repeat (first | refine Zq ?_ | refine Zs ?_ | refine ZT ?_ | refine ZF ?_ | refine Zc ?_ | refine XO_gU (hk := ?_))
  refine XE_ret (.inl rfl) (tells_tmps rfl rfl) ⟨_, ⟨rfl, rfl⟩, by ((try simp only [List.cons_append, List.nil_append]); repeat (first | exact ent_refl | refine ent_take (by repeat (first | exact Find.here | apply Find.there)) ?_ | refine ent_drop ?_))⟩
end Go.Proofs.Ytmndddegnfbaaaa.Sep
namespace Go.Proofs.Ytmndddegnfbaaaa.Sep
open Go.RowKit
set_option linter.unusedSimpArgs false
set_option linter.unusedVariables false
/-! regions: what they use; their chunks; fresh ones -/
/-- An element of an array that is at hand. -/
theorem pv_indexAg {P : Program} {T el len s by' : Nat} {ty : TypeId} {e : Env} {x i : Operand} {kk : IntKind} {iv : Int} {z v : Value} {vs : List Value} {dd : TypeDesc} [hu : TU P T (.array len el)] [hft : TU P el dd] [hi : TI P el z s by'] (hg : aggD dd = false := by rfl)
    (hx : ev e x = some (.agg vs.toArray) := by rfl) (hiv : ev e i = some (.int kk iv) := by rfl) (h0 : 0 ≤ iv := by omega) (h1 : iv < (len : Int) := by omega) (hv : vs[iv.toNat * s]? = some v := by rfl) : PV P (.index T x i) ty e v := fun tm w pos aft h => by
  have h2 : (underlying T).run P w = .ok (.array len el) w := run_und hu.out
  have h6 : vs.toArray[iv.toNat * s]? = some v := by simpa using hv
  simp [execOp, Instr.index, ev_sound h hx, ev_sound h hiv, asIntOf, h2, h0, h1, run_size hi, part, run_isAgg hft.out, hg, hv]
abbrev meterV (S : Sh) : Value := .agg #[.int .i64 (shPages S), .int .i64 0, .int .i64 0, .int .i64 0, .int .u64 S.obj, .int .u64 S.pad, .int .u64 (shHdr S), .int .u64 (IntKind.u64.wrap (shPages S * 4096 - shHdr S - S.obj - S.pad))]
theorem wrap_sub (x y : Int) : IntKind.u64.wrap (IntKind.u64.wrap x - y) = IntKind.u64.wrap (x - y) := by
  simp only [wrap_u64_eq]; omega
theorem RInv.bd {P : Int} {B : Nat} {o : Int} {C : Co} {m : Int → Int} {s : Sh} {oth : List (Int × Hd)} (h : RInv P B o C m s oth) : Bd (s.parts.map runP) ∧ Bd s.larges := by
  have hP := h.P1
  refine ⟨fun r hr => ?_, fun r hr => ?_⟩
  · have := h.S.pi.parts r hr; unfold RunOk at this; omega
  · have := h.S.pi.larges r hr; unfold RunOk at this; omega
theorem tot_bd0 : ∀ {l : List (Int × Int)}, Bd l → l.length ≤ 1048576 → 0 ≤ totI l ∧ totI l ≤ 1099511627776 := by
  have key : ∀ l : List (Int × Int), Bd l → 0 ≤ totI l ∧ totI l ≤ 1048576 * (l.length : Int) := by
    intro l
    induction l with
    | nil => intro _; simp [totI]
    | cons r l ih =>
      intro h
      have h1 := h r (by simp)
      have h2 := ih fun q hq => h q (by simp [hq])
      rw [tot_cons]; simp; omega
  intro l h hl
  have := key l h
  omega
def mH (S : Sh) : Nat → Int
  | 0 => 0
  | 1 => totI (S.parts.map runP)
  | _ => totI (S.parts.map runP) + totI S.larges
def mN (S : Sh) : Nat → Int
  | 0 => 0
  | 1 => 32 * (S.parts.length : Int)
  | _ => 32 * (S.parts.length : Int) + 32 * (S.larges.length : Int)
inductive NewSt
  | a
  | b (p : Nat)
  | c (p q : Nat)
def NewSt.k : NewSt → Int
  | .a => 0
  | .b _ => 1
  | .c _ _ => 2
def NewSt.n : NewSt → Nat
  | .a => 2
  | .b _ => 1
  | .c _ _ => 0
def NewSt.L (r s : Nat) (o : Int) : NewSt → List HP
  | .a => [pt r (.cells [.int .u64 0, .int .u64 0, .pointer (some ⟨s, 0, none⟩), .pointer none, .pointer none, .slice none 0 0].toArray 113 (0, 0))]
  | .b p => [pt r (.cells [.int .u64 0, .int .u64 0, .pointer (some ⟨s, 0, none⟩), .pointer (some ⟨p, 0, none⟩), .pointer none, .slice none 0 0].toArray 113 (0, 0)), Pl p s 0 o []]
  | .c p q => [pt r (.cells [.int .u64 0, .int .u64 0, .pointer (some ⟨s, 0, none⟩), .pointer (some ⟨p, 0, none⟩), .pointer (some ⟨q, 0, none⟩), .slice none 0 0].toArray 113 (0, 0)), Pl p s 0 o [], Pl q s 1 o []]
set_option maxHeartbeats 8000000
attribute [local irreducible] X XE XO XD XDi XDa PV RV DV pt base Spec Sl Mp Keeps Pg Kc Pgs Spc Ck XL XLi Pl Rs Rg
theorem rnew_spec (s : Nat) (o : Int) : Spec Try.prog 27 [.pointer (some ⟨s, 0, none⟩), .int .u64 o] [] (fun v L => ∃ r, v = .pointer (some ⟨r, 0, none⟩) ∧ L = [Rg r s o emptySh]) := by
  refine Spec.intro (IsEnt.out) Try.func27 rfl Try.ntmps27 (by simp) (fun w0 F => ?_)
  simp only [envOf, List.zipIdx, List.map, List.cons_append, List.nil_append, Nat.zero_add, Nat.reduceAdd]
  repeat (first | refine Zq ?_ | refine Zs ?_ | refine ZT ?_ | refine ZF ?_ | refine Zc ?_ | refine XO_gU (hk := ?_))
  refine XO_pv (pv_buildG [.int .u64 0, .int .u64 0, .pointer (some ⟨s, 0, none⟩), .pointer none, .pointer none, .slice none 0 0]) (hk := ?_)
  repeat (first | refine Zq ?_ | refine Zs ?_ | refine ZT ?_ | refine ZF ?_ | refine Zc ?_ | refine XO_gU (hk := ?_))
  refine XO_dv dv_box (hk := ?_)
  rintro _ _ ⟨r, rfl, rfl⟩
  repeat (first | refine Zq ?_ | refine Zs ?_ | refine ZT ?_ | refine ZF ?_ | refine Zc ?_ | refine XO_gU (hk := ?_))
  refine X_loop (ι := NewSt) (fun _ => True) (fun q => [(0, .pointer (some ⟨s, 0, none⟩)), (1, .int .u64 o), (5, .pointer (some ⟨r, 0, none⟩)), (10, .int .i64 q.k)]) (fun q => q.L r s o ++ F) (fun q => q.n) .a trivial ?_ (by show ∀ H, _ → SL (pt r _ :: F) H; ((try simp only [List.cons_append, List.nil_append]); repeat (first | exact ent_refl | refine ent_take (by repeat (first | exact Find.here | apply Find.there)) ?_ | refine ent_drop ?_))) ?_
  · (repeat (first | exact Env.sub_nil _ | refine Env.sub_cons rfl ?_))
  rintro (_ | p | ⟨p, q⟩) -
  · simp only [NewSt.L, NewSt.k, NewSt.n, List.cons_append, List.nil_append]
    repeat (first | refine Zq ?_ | refine Zs ?_ | refine ZT ?_ | refine ZF ?_ | refine Zc ?_ | refine XO_gU (hk := ?_))
    refine X_cond rfl (fun _ => ?_) (fun h => by cases h)
    repeat (first | refine Zq ?_ | refine Zs ?_ | refine ZT ?_ | refine ZF ?_ | refine Zc ?_ | refine XO_gU (hk := ?_))
    repeat (first | refine XD_pick (h := ?_) | refine Dq ?_ | refine Ds ?_ | refine XDi_gF (h := ?_) | refine XDi_gU (h := ?_) | refine X_draws (h := ?_))
    refine XD_one (h := ?_)
    refine XDa_dvA (dv_call (plnew_spec s 0 o)) (hk := ?_)
    rintro _ _ ⟨_, ⟨p, rfl, rfl⟩, rfl⟩
    refine ⟨by (repeat (first | exact keeps_nil | exact keeps_fnil | refine keeps_skip (h := ?_) | refine keeps_takeQ (h := ?_))), ?_⟩
    repeat (first | refine XD_pick (h := ?_) | refine Dq ?_ | refine Ds ?_ | refine XDi_gF (h := ?_) | refine XDi_gU (h := ?_) | refine X_draws (h := ?_))
    refine XD_one (h := ?_)
    refine XDa_dvk0 dv_store (K := _) (hk := ?_)
    (rintro _ _ rfl; refine ⟨by (repeat (first | exact keeps_nil | exact keeps_fnil | refine keeps_skip (h := ?_) | refine keeps_takeQ (h := ?_))), ?_⟩)
    (refine XD_end (h := ?_); repeat (first | refine Zq ?_ | refine Zs ?_ | refine ZT ?_ | refine ZF ?_ | refine Zc ?_ | refine XO_gU (hk := ?_)))
    exact X_round (.b p) trivial (by show 1 < 2; decide) (by (repeat (first | exact Env.sub_nil _ | refine Env.sub_cons rfl ?_))) (by show ∀ H, _ → SL (pt r _ :: Pl p s 0 o [] :: F) H; ((try simp only [List.cons_append, List.nil_append]); repeat (first | exact ent_refl | refine ent_take (by repeat (first | exact Find.here | apply Find.there)) ?_ | refine ent_drop ?_)))
  · simp only [NewSt.L, NewSt.k, NewSt.n, List.cons_append, List.nil_append]
    repeat (first | refine Zq ?_ | refine Zs ?_ | refine ZT ?_ | refine ZF ?_ | refine Zc ?_ | refine XO_gU (hk := ?_))
    refine X_cond rfl (fun _ => ?_) (fun h => by cases h)
    repeat (first | refine Zq ?_ | refine Zs ?_ | refine ZT ?_ | refine ZF ?_ | refine Zc ?_ | refine XO_gU (hk := ?_))
    repeat (first | refine XD_pick (h := ?_) | refine Dq ?_ | refine Ds ?_ | refine XDi_gF (h := ?_) | refine XDi_gU (h := ?_) | refine X_draws (h := ?_))
    refine XD_one (h := ?_)
    refine XDa_dvA (dv_call (plnew_spec s 1 o)) (hk := ?_)
    rintro _ _ ⟨_, ⟨q, rfl, rfl⟩, rfl⟩
    refine ⟨by (repeat (first | exact keeps_nil | exact keeps_fnil | refine keeps_skip (h := ?_) | refine keeps_takeQ (h := ?_))), ?_⟩
    repeat (first | refine XD_pick (h := ?_) | refine Dq ?_ | refine Ds ?_ | refine XDi_gF (h := ?_) | refine XDi_gU (h := ?_) | refine X_draws (h := ?_))
    refine XD_one (h := ?_)
    refine XDa_dvk0 dv_store (K := _) (hk := ?_)
    (rintro _ _ rfl; refine ⟨by (repeat (first | exact keeps_nil | exact keeps_fnil | refine keeps_skip (h := ?_) | refine keeps_takeQ (h := ?_))), ?_⟩)
    (refine XD_end (h := ?_); repeat (first | refine Zq ?_ | refine Zs ?_ | refine ZT ?_ | refine ZF ?_ | refine Zc ?_ | refine XO_gU (hk := ?_)))
    exact X_round (.c p q) trivial (by show 0 < 1; decide) (by (repeat (first | exact Env.sub_nil _ | refine Env.sub_cons rfl ?_))) (by show ∀ H, _ → SL (pt r _ :: Pl p s 0 o [] :: Pl q s 1 o [] :: F) H; ((try simp only [List.cons_append, List.nil_append]); repeat (first | exact ent_refl | refine ent_take (by repeat (first | exact Find.here | apply Find.there)) ?_ | refine ent_drop ?_)))
  · simp only [NewSt.L, NewSt.k, NewSt.n, List.cons_append, List.nil_append]
    repeat (first | refine Zq ?_ | refine Zs ?_ | refine ZT ?_ | refine ZF ?_ | refine Zc ?_ | refine XO_gU (hk := ?_))
    refine X_cond rfl (fun h => by cases h) (fun _ => ?_)
    repeat (first | refine Zq ?_ | refine Zs ?_ | refine ZT ?_ | refine ZF ?_ | refine Zc ?_ | refine XO_gU (hk := ?_))
    refine XE_conv (fun _ h => SL_nilSl eRP h) ?_
    refine XE_fold (by repeat (first | exact FindAll.nil | exact Find.here | apply Find.there | apply FindAll.cons)) (Rs.fold (r := r) (s := s) (p0 := p) (p1 := q) (S := emptySh) (a := none) (c := 0)) ?_
    refine XE_fold (by repeat (first | exact FindAll.nil | exact Find.here | apply Find.there | apply FindAll.cons)) (Rg.fold (r := r) (s := s) (o := o) (S := emptySh) (p0 := p) (p1 := q)) ?_
    refine XE_ret (.inl rfl) (tells_tmps rfl rfl) ⟨_, ⟨r, rfl, rfl⟩, by ((try simp only [List.cons_append, List.nil_append]); repeat (first | exact ent_refl | refine ent_take (by repeat (first | exact Find.here | apply Find.there)) ?_ | refine ent_drop ?_))⟩
theorem rmeter_spec (r s : Nat) (o : Int) (S : Sh) (hl : S.parts.length ≤ 1048576) (hl2 : S.larges.length ≤ 1048576) (hB0 : Bd (S.parts.map runP)) (hB1 : Bd S.larges) : Spec Try.prog 31 [.pointer (some ⟨r, 0, none⟩)] [Rg r s o S] (fun v L => v = meterV S ∧ L = [Rg r s o S]) := by
  refine Spec.intro (IsEnt.out) Try.func31 rfl Try.ntmps31 (by simp) (fun w0 F => ?_)
  simp only [envOf, List.zipIdx, List.map, List.cons_append, List.nil_append, Nat.zero_add, Nat.reduceAdd]
  have hml : (S.parts.map runP).length = S.parts.length := List.length_map ..
  have ht0 := tot_bd0 hB0 (by omega)
  have ht1 := tot_bd0 hB1 hl2
  repeat (first | refine Zq ?_ | refine Zs ?_ | refine ZT ?_ | refine ZF ?_ | refine Zc ?_ | refine XO_gU (hk := ?_))
  refine XO_dv dv_alloc (hk := ?_)
  rintro _ _ ⟨gb, rfl, rfl⟩
  repeat (first | refine Zq ?_ | refine Zs ?_ | refine ZT ?_ | refine ZF ?_ | refine Zc ?_ | refine XO_gU (hk := ?_))
  refine X_cond rfl (fun h => by cases h) (fun _ => ?_)
  refine X_open (A := Rg r s o S) (by (repeat (first | exact Find.here | apply Find.there))) Rg.open ?_
  rintro ⟨p0, p1⟩ -
  dsimp only [List.cons_append, List.nil_append]
  refine X_open (A := Rs r s p0 p1 S) (by (repeat (first | exact Find.here | apply Find.there))) Rs.open ?_
  rintro ⟨a, c⟩ -
  dsimp only [List.cons_append, List.nil_append]
  repeat (first | refine Zq ?_ | refine Zs ?_ | refine ZT ?_ | refine ZF ?_ | refine Zc ?_ | refine XO_gU (hk := ?_))
  repeat (first | refine XD_pick (h := ?_) | refine Dq ?_ | refine Ds ?_ | refine XDi_gF (h := ?_) | refine XDi_gU (h := ?_) | refine X_draws (h := ?_))
  refine XDi_pvA (pv_buildG [.int .i64 0, .int .i64 0, .int .i64 0, .int .i64 0, .int .u64 S.obj, .int .u64 S.pad, .int .u64 0, .int .u64 0]) (h := ?_)
  repeat (first | refine XD_pick (h := ?_) | refine Dq ?_ | refine Ds ?_ | refine XDi_gF (h := ?_) | refine XDi_gU (h := ?_) | refine X_draws (h := ?_))
  refine XD_one (h := ?_)
  refine XDa_dvA (dv_alloc (row := [.int .i64 0, .int .i64 0, .int .i64 0, .int .i64 0, .int .u64 0, .int .u64 0, .int .u64 0, .int .u64 0])) (hk := ?_)
  rintro _ _ ⟨mb, rfl, rfl⟩
  refine ⟨by (repeat (first | exact keeps_nil | exact keeps_fnil | refine keeps_skip (h := ?_) | refine keeps_takeQ (h := ?_))), ?_⟩
  repeat (first | refine XD_pick (h := ?_) | refine Dq ?_ | refine Ds ?_ | refine XDi_gF (h := ?_) | refine XDi_gU (h := ?_) | refine X_draws (h := ?_))
  refine XD_one (h := ?_)
  refine XDa_dvk0 dv_storeW (K := _) (hk := ?_)
  (rintro _ _ rfl; refine ⟨by (repeat (first | exact keeps_nil | exact keeps_fnil | refine keeps_skip (h := ?_) | refine keeps_takeQ (h := ?_))), ?_⟩)
  (refine XD_end (h := ?_); repeat (first | refine Zq ?_ | refine Zs ?_ | refine ZT ?_ | refine ZF ?_ | refine Zc ?_ | refine XO_gU (hk := ?_)))
  refine X_loop (ι := Nat) (fun j => j ≤ 2) (fun j => [(2, .pointer (some ⟨gb, 0, none⟩)), (3, .pointer (some ⟨mb, 0, none⟩)), (23, .agg #[.pointer (some ⟨p0, 0, none⟩), .pointer (some ⟨p1, 0, none⟩)]), (24, .int .i64 (j : Int))])
    (fun j => pt mb (.cells [.int .i64 (mH S j), .int .i64 0, .int .i64 0, .int .i64 0, .int .u64 S.obj, .int .u64 S.pad, .int .u64 (mN S j), .int .u64 0].toArray 67 (0, 0)) :: pt gb (.cells [.int .i64 0, .int .i64 0, .int .i64 0, .int .i64 0, .int .u64 0, .int .u64 0, .int .u64 0, .int .u64 0].toArray 67 (0, 0)) :: pt r (.cells (rgRow s p0 p1 S.obj S.pad a S.parts.length c).toArray 113 (0, 0)) :: Sl eRP a c S.parts :: Pl p0 s 0 o (S.parts.map runP) :: Pl p1 s 1 o S.larges :: F) (fun j => 2 - j) 0 (by decide) ?_ (by simp only [mH, mN]; ((try simp only [List.cons_append, List.nil_append]); repeat (first | exact ent_refl | refine ent_take (by repeat (first | exact Find.here | apply Find.there)) ?_ | refine ent_drop ?_))) ?_
  · (repeat (first | exact Env.sub_nil _ | refine Env.sub_cons rfl ?_))
  intro j hj
  rcases j with _ | _ | _ | j
  · simp only [mH, mN]
    repeat (first | refine Zq ?_ | refine Zs ?_ | refine ZT ?_ | refine ZF ?_ | refine Zc ?_ | refine XO_gU (hk := ?_))
    refine X_cond rfl (fun _ => ?_) (fun h => by cases h)
    repeat (first | refine Zq ?_ | refine Zs ?_ | refine ZT ?_ | refine ZF ?_ | refine Zc ?_ | refine XO_gU (hk := ?_))
    refine XO_pv (pv_indexAg (vs := [.pointer (some ⟨p0, 0, none⟩), .pointer (some ⟨p1, 0, none⟩)]) (v := .pointer (some ⟨p0, 0, none⟩))) (hk := ?_)
    repeat (first | refine Zq ?_ | refine Zs ?_ | refine ZT ?_ | refine ZF ?_ | refine Zc ?_ | refine XO_gU (hk := ?_))
    repeat (first | refine XD_pick (h := ?_) | refine Dq ?_ | refine Ds ?_ | refine XDi_gF (h := ?_) | refine XDi_gU (h := ?_) | refine X_draws (h := ?_))
    refine XD_one (h := ?_)
    refine XDa_dvA (dv_call (plpages_spec p0 s 0 o (S.parts.map runP) (by omega) hB0)) (hk := ?_)
    (rintro _ _ ⟨_, ⟨rfl, rfl⟩, rfl⟩; refine ⟨by (repeat (first | exact keeps_nil | exact keeps_fnil | refine keeps_skip (h := ?_) | refine keeps_takeQ (h := ?_))), ?_⟩)
    repeat (first | refine XD_pick (h := ?_) | refine Dq ?_ | refine Ds ?_ | refine XDi_gF (h := ?_) | refine XDi_gU (h := ?_) | refine X_draws (h := ?_))
    refine XD_one (h := ?_)
    refine XDa_dvk0 dv_store (K := _) (hk := ?_)
    (rintro _ _ rfl; refine ⟨by (repeat (first | exact keeps_nil | exact keeps_fnil | refine keeps_skip (h := ?_) | refine keeps_takeQ (h := ?_))), ?_⟩)
    (refine XD_end (h := ?_); repeat (first | refine Zq ?_ | refine Zs ?_ | refine ZT ?_ | refine ZF ?_ | refine Zc ?_ | refine XO_gU (hk := ?_)))
    repeat (first | refine XD_pick (h := ?_) | refine Dq ?_ | refine Ds ?_ | refine XDi_gF (h := ?_) | refine XDi_gU (h := ?_) | refine X_draws (h := ?_))
    refine XD_one (h := ?_)
    refine XDa_dvA (dv_call (plen_spec p0 s 0 o (S.parts.map runP))) (hk := ?_)
    (rintro _ _ ⟨_, ⟨rfl, rfl⟩, rfl⟩; refine ⟨by (repeat (first | exact keeps_nil | exact keeps_fnil | refine keeps_skip (h := ?_) | refine keeps_takeQ (h := ?_))), ?_⟩)
    rw [hml]
    repeat (first | refine XD_pick (h := ?_) | refine Dq ?_ | refine Ds ?_ | refine XDi_gF (h := ?_) | refine XDi_gU (h := ?_) | refine X_draws (h := ?_))
    refine XD_one (h := ?_)
    refine XDa_dvk0 dv_store (K := _) (hk := ?_)
    (rintro _ _ rfl; refine ⟨by (repeat (first | exact keeps_nil | exact keeps_fnil | refine keeps_skip (h := ?_) | refine keeps_takeQ (h := ?_))), ?_⟩)
    (refine XD_end (h := ?_); repeat (first | refine Zq ?_ | refine Zs ?_ | refine ZT ?_ | refine ZF ?_ | refine Zc ?_ | refine XO_gU (hk := ?_)))
    exact X_round 1 (by decide) (by decide) (by (repeat (first | exact Env.sub_nil _ | refine Env.sub_cons rfl ?_))) (by simp only [mH, mN, Int.zero_add]; ((try simp only [List.cons_append, List.nil_append]); repeat (first | exact ent_refl | refine ent_take (by repeat (first | exact Find.here | apply Find.there)) ?_ | refine ent_drop ?_)))
  · simp only [mH, mN]
    repeat (first | refine Zq ?_ | refine Zs ?_ | refine ZT ?_ | refine ZF ?_ | refine Zc ?_ | refine XO_gU (hk := ?_))
    refine X_cond rfl (fun _ => ?_) (fun h => by cases h)
    repeat (first | refine Zq ?_ | refine Zs ?_ | refine ZT ?_ | refine ZF ?_ | refine Zc ?_ | refine XO_gU (hk := ?_))
    refine XO_pv (pv_indexAg (vs := [.pointer (some ⟨p0, 0, none⟩), .pointer (some ⟨p1, 0, none⟩)]) (v := .pointer (some ⟨p1, 0, none⟩))) (hk := ?_)
    repeat (first | refine Zq ?_ | refine Zs ?_ | refine ZT ?_ | refine ZF ?_ | refine Zc ?_ | refine XO_gU (hk := ?_))
    repeat (first | refine XD_pick (h := ?_) | refine Dq ?_ | refine Ds ?_ | refine XDi_gF (h := ?_) | refine XDi_gU (h := ?_) | refine X_draws (h := ?_))
    refine XD_one (h := ?_)
    refine XDa_dvA (dv_call (plpages_spec p1 s 1 o S.larges hl2 hB1)) (hk := ?_)
    (rintro _ _ ⟨_, ⟨rfl, rfl⟩, rfl⟩; refine ⟨by (repeat (first | exact keeps_nil | exact keeps_fnil | refine keeps_skip (h := ?_) | refine keeps_takeQ (h := ?_))), ?_⟩)
    repeat (first | refine XD_pick (h := ?_) | refine Dq ?_ | refine Ds ?_ | refine XDi_gF (h := ?_) | refine XDi_gU (h := ?_) | refine X_draws (h := ?_))
    refine XD_one (h := ?_)
    refine XDa_dvk0 dv_store (K := _) (hk := ?_)
    (rintro _ _ rfl; refine ⟨by (repeat (first | exact keeps_nil | exact keeps_fnil | refine keeps_skip (h := ?_) | refine keeps_takeQ (h := ?_))), ?_⟩)
    (refine XD_end (h := ?_); repeat (first | refine Zq ?_ | refine Zs ?_ | refine ZT ?_ | refine ZF ?_ | refine Zc ?_ | refine XO_gU (hk := ?_)))
    repeat (first | refine XD_pick (h := ?_) | refine Dq ?_ | refine Ds ?_ | refine XDi_gF (h := ?_) | refine XDi_gU (h := ?_) | refine X_draws (h := ?_))
    refine XD_one (h := ?_)
    refine XDa_dvA (dv_call (plen_spec p1 s 1 o S.larges)) (hk := ?_)
    (rintro _ _ ⟨_, ⟨rfl, rfl⟩, rfl⟩; refine ⟨by (repeat (first | exact keeps_nil | exact keeps_fnil | refine keeps_skip (h := ?_) | refine keeps_takeQ (h := ?_))), ?_⟩)
    repeat (first | refine XD_pick (h := ?_) | refine Dq ?_ | refine Ds ?_ | refine XDi_gF (h := ?_) | refine XDi_gU (h := ?_) | refine X_draws (h := ?_))
    refine XD_one (h := ?_)
    refine XDa_dvk0 dv_store (K := _) (hk := ?_)
    (rintro _ _ rfl; refine ⟨by (repeat (first | exact keeps_nil | exact keeps_fnil | refine keeps_skip (h := ?_) | refine keeps_takeQ (h := ?_))), ?_⟩)
    (refine XD_end (h := ?_); repeat (first | refine Zq ?_ | refine Zs ?_ | refine ZT ?_ | refine ZF ?_ | refine Zc ?_ | refine XO_gU (hk := ?_)))
    exact X_round 2 (by decide) (by decide) (by (repeat (first | exact Env.sub_nil _ | refine Env.sub_cons rfl ?_))) (by simp only [mH, mN]; ((try simp only [List.cons_append, List.nil_append]); repeat (first | exact ent_refl | refine ent_take (by repeat (first | exact Find.here | apply Find.there)) ?_ | refine ent_drop ?_)))
  · have e1 : totI (S.parts.map runP) + totI S.larges = shPages S := rfl
    have e2 : 32 * (S.parts.length : Int) + 32 * (S.larges.length : Int) = shHdr S := by unfold shHdr; omega
    simp only [mH, mN]
    rw [e1, e2]
    have e3 : 0 ≤ shPages S ∧ shPages S ≤ 2199023255552 := by unfold shPages; omega
    have e4 : IntKind.u64.wrap (shPages S * 4096 - shHdr S - S.obj - S.pad) = IntKind.u64.wrap (IntKind.u64.wrap (IntKind.u64.wrap (shPages S * 4096 - shHdr S) - S.obj) - S.pad) := by simp only [wrap_u64_eq]; omega
    repeat (first | refine Zq ?_ | refine Zs ?_ | refine ZT ?_ | refine ZF ?_ | refine Zc ?_ | refine XO_gU (hk := ?_))
    refine X_cond rfl (fun h => by cases h) (fun _ => ?_)
    repeat (first | refine Zq ?_ | refine Zs ?_ | refine ZT ?_ | refine ZF ?_ | refine Zc ?_ | refine XO_gU (hk := ?_))
    refine XO_dv0 dv_store (hk := ?_)
    rintro _ _ rfl
    rw [← e4]
    repeat (first | refine Zq ?_ | refine Zs ?_ | refine ZT ?_ | refine ZF ?_ | refine Zc ?_ | refine XO_gU (hk := ?_))
    refine XO_dv0 dv_storeW (hk := ?_)
    rintro _ _ rfl
    repeat (first | refine Zq ?_ | refine Zs ?_ | refine ZT ?_ | refine ZF ?_ | refine Zc ?_ | refine XO_gU (hk := ?_))
    refine XE_fold (by repeat (first | exact FindAll.nil | exact Find.here | apply Find.there | apply FindAll.cons)) (Rs.fold (r := r) (s := s) (p0 := p0) (p1 := p1) (S := S) (a := a) (c := c)) ?_
    refine XE_fold (by repeat (first | exact FindAll.nil | exact Find.here | apply Find.there | apply FindAll.cons)) (Rg.fold (r := r) (s := s) (o := o) (S := S) (p0 := p0) (p1 := p1)) ?_
    refine XE_ret (.inl rfl) (tells_cell rfl) ⟨_, ⟨rfl, rfl⟩, by ((try simp only [List.cons_append, List.nil_append]); repeat (first | exact ent_refl | refine ent_take (by repeat (first | exact Find.here | apply Find.there)) ?_ | refine ent_drop ?_))⟩
  · omega
theorem rchunks_spec (r s sb : Nat) {P : Int} {B : Nat} {o : Int} {C : Co} {m : Mm} {S : Sh} {oth : List (Int × Hd)} (hR : RInv P B o C m.f S oth) : Spec Try.prog 33 [.pointer (some ⟨r, 0, none⟩)] [Rg r s o S, Ck s sb C, Spc sb P m]
      (fun v L => ∃ a c a' c', v = .tuple #[.slice a (S.parts.map runP).reverse.length c, .slice a' S.larges.reverse.length c'] ∧ L = [Sl eRun a c (S.parts.map runP).reverse, Sl eRun a' c' S.larges.reverse, Rg r s o S, Ck s sb C, Spc sb P (walkM P (walkM P m (S.parts.map runP)) S.larges)]) := by
  refine Spec.intro (IsEnt.out) Try.func33 rfl Try.ntmps33 (by simp) (fun w0 F => ?_)
  simp only [envOf, List.zipIdx, List.map, List.cons_append, List.nil_append, Nat.zero_add, Nat.reduceAdd]
  have hlen := hR.len
  repeat (first | refine Zq ?_ | refine Zs ?_ | refine ZT ?_ | refine ZF ?_ | refine Zc ?_ | refine XO_gU (hk := ?_))
  refine X_cond rfl (fun h => by cases h) (fun _ => ?_)
  refine X_open (A := Rg r s o S) (by (repeat (first | exact Find.here | apply Find.there))) Rg.open ?_
  rintro ⟨p0, p1⟩ -
  dsimp only [List.cons_append, List.nil_append]
  refine X_open (A := Rs r s p0 p1 S) (by (repeat (first | exact Find.here | apply Find.there))) Rs.open ?_
  rintro ⟨a, c⟩ -
  dsimp only [List.cons_append, List.nil_append]
  repeat (first | refine Zq ?_ | refine Zs ?_ | refine ZT ?_ | refine ZF ?_ | refine Zc ?_ | refine XO_gU (hk := ?_))
  refine XO_call (pwalk_spec p0 s sb hR.k0 hR.hP (by simp; exact hlen.1)) (hk := ?_)
  rintro _ _ ⟨wa, wc, rfl, rfl⟩
  have hK2 : KInv C (walkM P m (S.parts.map runP)).f (plH 1 o 0 S.larges ++ (plH 0 o 0 (S.parts.map runP) ++ oth)) := by rw [walkM_f]; exact hR.k1
  repeat (first | refine Zq ?_ | refine Zs ?_ | refine ZT ?_ | refine ZF ?_ | refine Zc ?_ | refine XO_gU (hk := ?_))
  refine XO_call (pwalk_spec p1 s sb hK2 hR.hP hlen.2) (hk := ?_)
  rintro _ _ ⟨xa, xc, rfl, rfl⟩
  repeat (first | refine Zq ?_ | refine Zs ?_ | refine ZT ?_ | refine ZF ?_ | refine Zc ?_ | refine XO_gU (hk := ?_))
  refine XE_fold (by repeat (first | exact FindAll.nil | exact Find.here | apply Find.there | apply FindAll.cons)) (Rs.fold (r := r) (s := s) (p0 := p0) (p1 := p1) (S := S) (a := a) (c := c)) ?_
  refine XE_fold (by repeat (first | exact FindAll.nil | exact Find.here | apply Find.there | apply FindAll.cons)) (Rg.fold (r := r) (s := s) (o := o) (S := S) (p0 := p0) (p1 := p1)) ?_
  refine XE_ret (.inl rfl) (tells_tmps rfl rfl) ⟨_, ⟨wa, wc, xa, xc, rfl, rfl⟩, by ((try simp only [List.cons_append, List.nil_append]); repeat (first | exact ent_refl | refine ent_take (by repeat (first | exact Find.here | apply Find.there)) ?_ | refine ent_drop ?_))⟩
theorem RInv.walk {P : Int} {B : Nat} {o : Int} {C : Co} {m : Mm} {s : Sh} {oth : List (Int × Hd)} (h : RInv P B o C m.f s oth) (l l' : List (Int × Int)) : RInv P B o C (walkM P (walkM P m l) l').f s oth := by rw [walkM_f, walkM_f]; exact h
end Go.Proofs.Ytmndddegnfbaaaa.Sep
namespace Go.Proofs.Ytmndddegnfbaaaa.Sep
open Go.ChangeShapes Go.WideShapes Go.ChangeAt Go.RowKit Go.Deep
set_option linter.unusedSimpArgs false
set_option linter.unusedVariables false
/-! acts of regions -/
structure A15 where
  d : Int
  w : Bool
  sz : Int
  al : Int
  k : Int
  mc : Int
  ml : Int
  at_ : Int
  ob : Int
  pd : Int
def eAct : E A15 := ⟨10, true, fun x => [.int .u8 x.d, .bool x.w, .int .u64 x.sz, .int .u64 x.al, .int .u8 x.k, .int .i64 x.mc, .int .i64 x.ml, .int .u64 x.at_, .int .u64 x.ob, .int .u64 x.pd], fun _ => rfl, fun _ _ h => by simp at h; rcases h with rfl | rfl | rfl | rfl | rfl | rfl | rfl | rfl | rfl | rfl <;> rfl, by decide, fun h => by cases h⟩
structure OkA (x : A15) : Prop where
  d : 0 ≤ x.d ∧ x.d ≤ 255
  sz : 0 ≤ x.sz ∧ x.sz ≤ 18446744073709551615
  al : 0 ≤ x.al ∧ x.al ≤ 18446744073709551615
  k : 0 ≤ x.k ∧ x.k ≤ 255
abbrev pInt (k : IntKind) : Nat × (List Value → Prop) := (1, fun cs => ∃ n, (Lit.int k n).wf = true ∧ cs = [.int k n])
abbrev pBool : Nat × (List Value → Prop) := (1, fun cs => ∃ b, cs = [.bool b])
def markPs : List (Nat × (List Value → Prop)) := [pInt .i64, pInt .i64, pInt .u64, pInt .u64, pInt .u64]
def actPs : List (Nat × (List Value → Prop)) := [pInt .u8, pBool, pInt .u64, pInt .u64, pInt .u8, (5, fun cs => Parts cs markPs)]
theorem flat_mark : FlatP Try.prog 59 5 (fun cs => Parts cs markPs) :=
  flatP_struct Try.underlying59 markPs ⟨rfl, flatP_int Try.underlying3 (by kernel_rfl), rfl, flatP_int Try.underlying3 (by kernel_rfl), rfl, flatP_int Try.underlying28 (by kernel_rfl), rfl, flatP_int Try.underlying28 (by kernel_rfl), rfl, flatP_int Try.underlying28 (by kernel_rfl), trivial⟩ (by kernel_rfl)
theorem flat_act15 : FlatP Try.prog 61 10 (fun cs => Parts cs actPs) :=
  flatP_struct Try.underlying61 actPs ⟨rfl, flatP_int Try.underlying5 (by kernel_rfl), rfl, flatP_bool Try.underlying4 (by kernel_rfl), rfl, flatP_int Try.underlying28 (by kernel_rfl), rfl, flatP_int Try.underlying28 (by kernel_rfl), rfl, flatP_int Try.underlying5 (by kernel_rfl), rfl, flat_mark, trivial⟩ (by kernel_rfl)
theorem take_eq {cs a : List Value} {n : Nat} (h : cs.take n = a) : cs = a ++ cs.drop n := by rw [← h, List.take_append_drop]
theorem parts_act (cs : List Value) (h : Parts cs actPs) : ∃ y : A15, OkA y ∧ cs = eAct.cells y := by
  obtain ⟨⟨d, w1, e1⟩, ⟨w, e2⟩, ⟨sz, w3, e3⟩, ⟨al, w4, e4⟩, ⟨k, w5, e5⟩, hm, hn⟩ := h
  obtain ⟨⟨mc, w6, e6⟩, ⟨ml, w7, e7⟩, ⟨at_, w8, e8⟩, ⟨ob, w9, e9⟩, ⟨pd, w10, e10⟩, hn2⟩ := hm
  refine ⟨⟨d, w, sz, al, k, mc, ml, at_, ob, pd⟩, ⟨wf_u8 w1, wf_u64 w3, wf_u64 w4, wf_u8 w5⟩, ?_⟩
  have f1 := take_eq e1
  have f2 := take_eq e2
  have f3 := take_eq e3
  have f4 := take_eq e4
  have f5 := take_eq e5
  have f6 := take_eq e6
  have f7 := take_eq e7
  have f8 := take_eq e8
  have f9 := take_eq e9
  have f10 := take_eq e10
  have fm := List.take_append_drop 5 (List.drop 1 (List.drop 1 (List.drop 1 (List.drop 1 (List.drop 1 cs)))))
  rw [f1, f2, f3, f4, f5, ← fm]
  have hn' : List.drop 5 (List.drop 1 (List.drop 1 (List.drop 1 (List.drop 1 (List.drop 1 cs))))) = [] := hn
  rw [hn', List.append_nil, f6, f7, f8, f9, f10]
  have hn2' : List.drop 1 (List.drop 1 (List.drop 1 (List.drop 1 (List.drop 1 (List.take 5 (List.drop 1 (List.drop 1 (List.drop 1 (List.drop 1 (List.drop 1 cs))))))))))= [] := hn2
  rw [hn2']
  rfl
/-- An alignment. -/
def al2 (k : Int) : Int := ((2 ^ (k % 13).toNat : Nat) : Int)
theorem al2_bd {k : Int} (h : 0 ≤ k) : 1 ≤ al2 k ∧ al2 k ≤ 4096 := by
  unfold al2
  have h1 : 0 < 2 ^ (k % 13).toNat := Nat.pow_pos (by decide)
  have h2 : 2 ^ (k % 13).toNat ≤ 2 ^ 12 := Nat.pow_le_pow_right (by decide) (by omega)
  omega
theorem al2_pow (k : Int) : powB (al2 k) = true := (powB_iff (Int.natCast_nonneg _)).2 ⟨_, rfl⟩
theorem al2_shl {k : Int} (h : 0 ≤ k) : IntKind.u64.wrap (1 * (2 ^ (min (k % 13).toNat IntKind.u64.bits) : Nat)) = al2 k := by
  have h1 : min (k % 13).toNat IntKind.u64.bits = (k % 13).toNat := Nat.min_eq_left (by show (k % 13).toNat ≤ 64; omega)
  rw [h1, Int.one_mul]
  have := al2_bd h
  exact wrap_u64 (by unfold al2 at this; omega) (by unfold al2 at this; omega)
theorem al2_good {size k : Int} (h : 0 ≤ k) (hs : size ≠ 0) : ¬ badA size (al2 k) := by
  have hb := al2_bd h
  unfold badA
  rw [need1_iff (by omega) (by omega), al2_pow, decide_eq_true hb.2]
  simp [hs]
set_option maxHeartbeats 8000000
attribute [local irreducible] X XE XO XD XDi XDa PV RV DV pt base Spec Sl Mp Keeps Pg Kc Pgs Spc Ck XL XLi Pl Rs Rg View
theorem play_spec (r s sb : Nat) {P : Int} {o : Int} {oth : List (Int × Hd)} (A : HP) (a : Option Addr) (c : Nat) (xs : List A15) (hV : View A eAct a xs) (hok : ∀ x ∈ xs, OkA x) (hl : xs.length ≤ 100) (ho : 0 ≤ o ∧ o < 18446744073709551616)
    (I : Nat → Co → Mm → Sh → Prop) (hI : ∀ (i : Nat) (x : A15) B C m S C' m' S' at_ e, OkA x → xs[i]? = some x → RInv P B o C m.f S oth → I i C m S → AR P C m S o (x.sz % 600000) (al2 x.k) C' m' S' at_ e → I (i + 1) C' m' S')
    {B : Nat} {C : Co} {m : Mm} {S : Sh} (hR : RInv P B o C m.f S oth) (h0 : I 0 C m S) :
    Spec Try.prog 32 [.pointer (some ⟨r, 0, none⟩), .slice a xs.length c] [Rg r s o S, Ck s sb C, Spc sb P m, A]
      (fun v L => v = .tuple #[] ∧ ∃ C' m' S', RInv P (B + xs.length) o C' m'.f S' oth ∧ I xs.length C' m' S' ∧ L = [Rg r s o S', Ck s sb C', Spc sb P m', A]) := by
  refine Spec.intro (IsEnt.out) Try.func32 rfl Try.ntmps32 (by simp) (fun w0 F => ?_)
  simp only [envOf, List.zipIdx, List.map, List.cons_append, List.nil_append, Nat.zero_add, Nat.reduceAdd]
  repeat (first | refine Zq ?_ | refine Zs ?_ | refine ZT ?_ | refine ZF ?_ | refine Zc ?_ | refine XO_gU (hk := ?_))
  refine X_loop (ι := Nat × Co × Mm × Sh) (fun z => z.1 ≤ xs.length ∧ RInv P (B + z.1) o z.2.1 z.2.2.1.f z.2.2.2 oth ∧ I z.1 z.2.1 z.2.2.1 z.2.2.2)
    (fun z => [(0, .pointer (some ⟨r, 0, none⟩)), (1, .slice a xs.length c), (4, .int .i64 (z.1 : Int))])
    (fun z => Rg r s o z.2.2.2 :: Ck s sb z.2.1 :: Spc sb P z.2.2.1 :: A :: F) (fun z => xs.length - z.1) (0, C, m, S) ⟨Nat.zero_le _, hR, h0⟩ ?_ (by ((try simp only [List.cons_append, List.nil_append]); repeat (first | exact ent_refl | refine ent_take (by repeat (first | exact Find.here | apply Find.there)) ?_ | refine ent_drop ?_))) ?_
  · (repeat (first | exact Env.sub_nil _ | refine Env.sub_cons rfl ?_))
  clear hR h0 C m S
  rintro ⟨i, C, m, S⟩ ⟨hi, hR, hII⟩
  dsimp only at hi hR hII ⊢
  repeat (first | refine Zq ?_ | refine Zs ?_ | refine ZT ?_ | refine ZF ?_ | refine Zc ?_ | refine XO_gU (hk := ?_))
  refine X_cond rfl (fun hc => ?_) (fun hc => ?_) <;> simp only [decide_eq_true_eq, decide_eq_false_iff_not] at hc
  · have hil : i < xs.length := by omega
    have hget : xs[i]? = some xs[i] := List.getElem?_eq_getElem hil
    have hx := hok xs[i] (List.getElem_mem hil)
    generalize xs[i] = x at hget hx
    have hsz := hx.sz
    have hk := hx.k
    have hab := al2_bd hk.1
    obtain ⟨C', m', S', at_, e, har⟩ := AR.ex P C m S o (x.sz % 600000) (al2 x.k)
    have s1 := ralloc_spec r s sb hR ho (by omega) (by omega) (by omega) (by omega) har
    have hR' := har.inv hR ho (by omega) (by omega) (by omega)
    have hI' := hI i x _ C m S C' m' S' at_ e hx hget hR hII har
    refine X_view (A := A) (by (repeat (first | exact Find.here | apply Find.there))) hV (by omega) ?_
    rintro b1 o1 rfl
    repeat (first | refine Zq ?_ | refine Zs ?_ | refine ZT ?_ | refine ZF ?_ | refine Zc ?_ | refine XO_gU (hk := ?_))
    repeat (first | refine XD_pick (h := ?_) | refine Dq ?_ | refine Ds ?_ | refine XDi_gF (h := ?_) | refine XDi_gU (h := ?_) | refine X_draws (h := ?_))

    refine Dp (pv_shlN (b := x.k % 13) (hw := al2_shl hk.1)) ?_
    repeat (first | refine XD_pick (h := ?_) | refine Dq ?_ | refine Ds ?_ | refine XDi_gF (h := ?_) | refine XDi_gU (h := ?_) | refine X_draws (h := ?_))
    refine XD_one (h := ?_)
    refine XDa_dvA (dv_call s1) (hk := ?_)
    (rintro _ _ ⟨_, ⟨rfl, rfl⟩, rfl⟩; refine ⟨by (repeat (first | exact keeps_nil | exact keeps_fnil | refine keeps_skip (h := ?_) | refine keeps_takeQ (h := ?_))), ?_⟩)
    (refine XD_end (h := ?_); repeat (first | refine Zq ?_ | refine Zs ?_ | refine ZT ?_ | refine ZF ?_ | refine Zc ?_ | refine XO_gU (hk := ?_)))
    exact X_round (i + 1, C', m', S') ⟨by show i + 1 ≤ xs.length; omega, hR', hI'⟩ (by show xs.length - (i + 1) < xs.length - i; omega) (by (repeat (first | exact Env.sub_nil _ | refine Env.sub_cons rfl ?_))) (by ((try simp only [List.cons_append, List.nil_append]); repeat (first | exact ent_refl | refine ent_take (by repeat (first | exact Find.here | apply Find.there)) ?_ | refine ent_drop ?_)))
  · obtain rfl : i = xs.length := by omega
    repeat (first | refine Zq ?_ | refine Zs ?_ | refine ZT ?_ | refine ZF ?_ | refine Zc ?_ | refine XO_gU (hk := ?_))
    refine XE_ret (.inr rfl) (tells_tmps rfl rfl) ⟨_, ⟨rfl, C, m, S, hR, hII, rfl⟩, by ((try simp only [List.cons_append, List.nil_append]); repeat (first | exact ent_refl | refine ent_take (by repeat (first | exact Find.here | apply Find.there)) ?_ | refine ent_drop ?_))⟩
end Go.Proofs.Ytmndddegnfbaaaa.Sep
namespace Go.Proofs.Ytmndddegnfbaaaa.Sep
open Go.RowKit
set_option linter.unusedSimpArgs false
set_option linter.unusedVariables false
/-! the document's example of regions -/
def qk0 : Co := ⟨8, [(0, 8)], fun _ => [], 0⟩
def qk1 : Co := (getC qk0 1).1
def qk2 : Co := (getC qk1 2).1
def qs1 : Sh := ⟨[(0, 1, 42, 4096)], [], 10, 0⟩
def qs2 : Sh := ⟨[(0, 1, 68, 4096)], [], 14, 22⟩
def qs3 : Sh := ⟨[(0, 1, 68, 4096), (1, 2, 9128, 12288)], [], 5014, 22⟩
def qs5 : Sh := ⟨[(0, 1, 72, 4096)], [], 18, 22⟩
theorem nb {size align : Int} (h : (decide (size ≠ 0) && (needI 1 align).isSome) = true) : ¬ badA size align := by
  simp at h
  intro h'
  rcases h' with h' | h'
  · exact h.1 h'
  · rw [h.2] at h'; cases h'
theorem awr1 (m : Mm) : ∃ C m', AR 8 qk0 m emptySh 1 10 8 C m' qs1 32 0 ∧ C = qk1 := by
  refine ⟨_, _, AR.part 1 0 (nb (by decide)) (by decide +kernel) (by decide +kernel) (by decide +kernel), rfl⟩
theorem awr2 (C : Co) (m : Mm) : AR 8 C m qs1 1 4 64 C m qs2 64 0 := AR.fit (64, 68, 22) (nb (by decide)) (by decide +kernel)
theorem awr3 (m : Mm) : ∃ C m', AR 8 qk1 m qs2 1 5000 1 C m' qs3 4128 0 ∧ C = qk2 := by
  refine ⟨_, _, AR.part 2 1 (nb (by decide)) (by decide +kernel) (by decide +kernel) (by decide +kernel), rfl⟩
theorem awr5 (C : Co) (m : Mm) : AR 8 C m qs2 1 4 4 C m qs5 68 0 := AR.fit (68, 72, 0) (nb (by decide)) (by decide +kernel)
theorem awr4 : fitsS qs3 1 0 68 = true ∧ setTop (cutS qs3 1 0) 68 14 22 = qs2 := ⟨by decide +kernel, rfl⟩
theorem emptyInv {P : Int} {m : Int → Int} (h1 : 1 ≤ P) (h2 : P ≤ 1048576) (o : Int) : RInv P 0 o ⟨P, [(0, P)], fun _ => [], 0⟩ m emptySh [] := by
  refine ⟨?_, rfl, ⟨⟨fun p hp => (by cases hp), fun p hp => (by cases hp), by decide, by decide⟩, ⟨fun p hp => (by cases hp), fun p hp => (by cases hp)⟩, Nat.le_refl _, Nat.le_refl _⟩, fun p hp => (by cases hp)⟩
  have := knew P m
  rw [show min (max P 1) 1048576 = P from by omega] at this
  exact this
set_option maxHeartbeats 8000000
attribute [local irreducible] X XE XO XD XDi XDa PV RV DV pt base Spec Sl Mp Keeps Pg Kc Pgs Spc Ck XL XLi Pl Rs Rg
theorem awake15_spec : Spec Try.prog 26 [] [] isTrue := by
  refine Spec.intro (IsEnt.out) Try.func26 rfl Try.ntmps26 (by simp) (fun w0 F => ?_)
  simp only [envOf, List.zipIdx, List.map, List.cons_append, List.nil_append, Nat.zero_add, Nat.reduceAdd]
  have hr0 : RInv 8 0 1 qk0 (⟨fun _ => 0, 0⟩ : Mm).f emptySh [] := emptyInv (P := 8) (by decide) (by decide) 1
  repeat (first | refine Zq ?_ | refine Zs ?_ | refine ZT ?_ | refine ZF ?_ | refine Zc ?_ | refine XO_gU (hk := ?_))
  refine XO_call (knew_spec 8) (hk := ?_)
  rintro _ _ ⟨s, sb, rfl, rfl⟩
  generalize hm0 : (⟨fun _ => 0, 0⟩ : Mm) = m0 at hr0 ⊢
  repeat (first | refine Zq ?_ | refine Zs ?_ | refine ZT ?_ | refine ZF ?_ | refine Zc ?_ | refine XO_gU (hk := ?_))
  refine XO_call (rnew_spec s 1) (hk := ?_)
  rintro _ _ ⟨r, rfl, rfl⟩
  repeat (first | refine Zq ?_ | refine Zs ?_ | refine ZT ?_ | refine ZF ?_ | refine Zc ?_ | refine XO_gU (hk := ?_))
  obtain ⟨C1, m1, a1, rfl⟩ := awr1 m0
  have hr1 := a1.inv hr0 (by decide) (by decide) (by decide) (by decide)
  refine XO_call (ralloc_spec r s sb hr0 (by decide) (by decide) (by decide) (by decide) (by decide) a1) (hk := ?_)
  rintro _ _ ⟨rfl, rfl⟩
  repeat (first | refine Zq ?_ | refine Zs ?_ | refine ZT ?_ | refine ZF ?_ | refine Zc ?_ | refine XO_gU (hk := ?_))
  have a2 := awr2 qk1 m1
  have hr2 := a2.inv hr1 (by decide) (by decide) (by decide) (by decide)
  refine XO_call (ralloc_spec r s sb hr1 (by decide) (by decide) (by decide) (by decide) (by decide) a2) (hk := ?_)
  rintro _ _ ⟨rfl, rfl⟩
  repeat (first | refine Zq ?_ | refine Zs ?_ | refine ZT ?_ | refine ZF ?_ | refine Zc ?_ | refine XO_gU (hk := ?_))
  refine XO_call (rmark_spec r s 1 qs2 (by decide) (by decide)) (hk := ?_)
  rintro _ _ ⟨rfl, rfl⟩
  repeat (first | refine Zq ?_ | refine Zs ?_ | refine ZT ?_ | refine ZF ?_ | refine Zc ?_ | refine XO_gU (hk := ?_))
  refine XO_dv (dv_alloc (row := [.int .i64 0, .int .i64 0, .int .u64 0, .int .u64 0, .int .u64 0])) (hk := ?_)
  rintro _ _ ⟨kb, rfl, rfl⟩
  refine XO_dv0 (dv_storeW (vs := [.int .i64 1, .int .i64 0, .int .u64 68, .int .u64 14, .int .u64 22])) (hk := ?_)
  rintro _ _ rfl
  repeat (first | refine Zq ?_ | refine Zs ?_ | refine ZT ?_ | refine ZF ?_ | refine Zc ?_ | refine XO_gU (hk := ?_))
  obtain ⟨C3, m3, a3, rfl⟩ := awr3 m1
  have hr3 := a3.inv hr2 (by decide) (by decide) (by decide) (by decide)
  refine XO_call (ralloc_spec r s sb hr2 (by decide) (by decide) (by decide) (by decide) (by decide) a3) (hk := ?_)
  rintro _ _ ⟨rfl, rfl⟩
  repeat (first | refine Zq ?_ | refine Zs ?_ | refine ZT ?_ | refine ZF ?_ | refine Zc ?_ | refine XO_gU (hk := ?_))
  refine XO_call (rmeter_spec r s 1 qs3 (by decide) (by decide) hr3.bd.1 hr3.bd.2) (hk := ?_)
  rintro _ _ ⟨rfl, rfl⟩
  refine XO_pv (pv_fieldV (vs := [.int .i64 3, .int .i64 0, .int .i64 0, .int .i64 0, .int .u64 5014, .int .u64 22, .int .u64 64, .int .u64 7188]) (v := .int .i64 3)) (hk := ?_)
  repeat (first | refine Zq ?_ | refine Zs ?_ | refine ZT ?_ | refine ZF ?_ | refine Zc ?_ | refine XO_gU (hk := ?_))
  have s4 := rrew_ok r s sb (ob := 14) (pd := 22) hr3 awr4.1 (by decide) (by decide)
  have hr4 := rew_inv (ob := 14) (pd := 22) hr3 awr4.1 (by decide) (by decide) (by decide)
  rw [awr4.2] at s4 hr4
  refine XO_call s4 (hk := ?_)
  rintro _ _ ⟨rfl, rfl⟩
  generalize putsC qk2 qs3 1 0 = C4 at hr4 ⊢
  generalize rewM 8 m3 qs3 1 0 68 = m4 at hr4 ⊢
  repeat (first | refine Zq ?_ | refine Zs ?_ | refine ZT ?_ | refine ZF ?_ | refine Zc ?_ | refine XO_gU (hk := ?_))
  have a5 := awr5 C4 m4
  have hr5 := a5.inv hr4 (by decide) (by decide) (by decide) (by decide)
  refine XO_call (ralloc_spec r s sb hr4 (by decide) (by decide) (by decide) (by decide) (by decide) a5) (hk := ?_)
  rintro _ _ ⟨rfl, rfl⟩
  repeat (first | refine Zq ?_ | refine Zs ?_ | refine ZT ?_ | refine ZF ?_ | refine Zc ?_ | refine XO_gU (hk := ?_))
  refine XO_call (rmeter_spec r s 1 qs5 (by decide) (by decide) hr5.bd.1 hr5.bd.2) (hk := ?_)
  rintro _ _ ⟨rfl, rfl⟩
  repeat (first | refine Zq ?_ | refine Zs ?_ | refine ZT ?_ | refine ZF ?_ | refine Zc ?_ | refine XO_gU (hk := ?_))
  refine XO_pv (pv_buildG [.int .i64 1, .int .i64 0, .int .i64 0, .int .i64 0, .int .u64 18, .int .u64 22, .int .u64 32, .int .u64 4024]) (hk := ?_)
  repeat (first | refine Zq ?_ | refine Zs ?_ | refine ZT ?_ | refine ZF ?_ | refine Zc ?_ | refine XO_gU (hk := ?_))
  refine XO_pv (pv_eqRec [1, 0, 0, 0, 18, 22, 32, 4024] [1, 0, 0, 0, 18, 22, 32, 4024]) (hk := ?_)
  repeat (first | refine Zq ?_ | refine Zs ?_ | refine ZT ?_ | refine ZF ?_ | refine Zc ?_ | refine XO_gU (hk := ?_))
  refine XE_ret (.inl rfl) (tells_tmps rfl rfl) ⟨_, ⟨rfl, rfl⟩, by ((try simp only [List.cons_append, List.nil_append]); repeat (first | exact ent_refl | refine ent_take (by repeat (first | exact Find.here | apply Find.there)) ?_ | refine ent_drop ?_))⟩
end Go.Proofs.Ytmndddegnfbaaaa.Sep
namespace Go.Proofs.Ytmndddegnfbaaaa.Sep
open Go.RowKit
set_option linter.unusedSimpArgs false
set_option linter.unusedVariables false
/-! the plain law of marks: rewound, a region is as it was -/
theorem setLast_append (l t : List Part) (a : Int) (h : t ≠ []) : setLast (l ++ t) a = l ++ setLast t a := by
  have hp : 0 < t.length := List.length_pos_iff.2 h
  have hl : lastP (l ++ t) = lastP t := by
    unfold lastP
    rw [List.length_append, show l.length + t.length - 1 = l.length + (t.length - 1) from by omega]
    simp only [List.getD, List.getElem?_append_right (Nat.le_add_right _ _), Nat.add_sub_cancel_left]
  unfold setLast
  rw [hl, List.length_append, show l.length + t.length - 1 = l.length + (t.length - 1) from by omega, List.set_append_right _ _ (Nat.le_add_right _ _), Nat.add_sub_cancel_left]
theorem lastP_setLast (l : List Part) (a : Int) (h : l ≠ []) : lastP (setLast l a) = ((lastP l).1, (lastP l).2.1, a, (lastP l).2.2.2) := by
  have hp : 0 < l.length := List.length_pos_iff.2 h
  have hi : l.length - 1 < l.length := by omega
  unfold lastP
  rw [setLast_length]
  unfold setLast
  simp [List.getD, hi, lastP]
theorem setLast_setLast (l : List Part) (a a' : Int) : setLast (setLast l a) a' = setLast l a' := by
  by_cases h : l = []
  · subst h; rfl
  · have h1 := lastP_setLast l a h
    unfold setLast at h1 ⊢
    rw [h1]
    simp
/-- What a region has grown to since: its last chunk may be fuller, and there may be more. -/
structure Grow (s0 s : Sh) : Prop where
  parts : ∃ a t, s.parts = setLast s0.parts a ++ t ∧ topAt s0 ≤ a
  larges : ∃ t, s.larges = s0.larges ++ t
theorem Grow.refl (s : Sh) : Grow s s := ⟨⟨topAt s, [], by rw [List.append_nil]; exact (setLast_self _).symm, Int.le_refl _⟩, ⟨[], (List.append_nil _).symm⟩⟩
theorem Grow.top {s0 s : Sh} {en o p : Int} (h : Grow s0 s) (ht : topAt s ≤ en) : Grow s0 (setTop s en o p) := by
  obtain ⟨⟨a, t, h1, h2⟩, h3⟩ := h
  refine ⟨?_, h3⟩
  show ∃ a t, setLast s.parts en = setLast s0.parts a ++ t ∧ topAt s0 ≤ a
  by_cases h0 : t = []
  · subst h0
    rw [List.append_nil] at h1
    by_cases hn : s0.parts = []
    · refine ⟨a, [], ?_, h2⟩
      rw [h1, hn]; rfl
    · refine ⟨en, [], by rw [h1, setLast_setLast, List.append_nil], ?_⟩
      have : topAt s = a := by unfold topAt; rw [h1, lastP_setLast _ _ hn]
      omega
  · exact ⟨a, setLast t en, by rw [h1, setLast_append _ _ _ h0], h2⟩
theorem Grow.part {s0 s : Sh} {r cur : Int × Int} (h : Grow s0 s) : Grow s0 (partS s r cur) := by
  obtain ⟨⟨a, t, h1, h2⟩, h3⟩ := h
  exact ⟨⟨a, t ++ [(r.1, r.2, cur.1, cur.2)], by unfold partS; simp only; rw [h1, List.append_assoc], h2⟩, h3⟩
theorem Grow.big {s0 s : Sh} {r : Int × Int} {size : Int} (f : Option (Int × Int × Int)) (h : Grow s0 s) : Grow s0 (bigS s r size f) := by
  have hp : (bigS s r size f).parts = s.parts := by cases f <;> rfl
  have hl : (bigS s r size f).larges = s.larges ++ [r] := by cases f <;> rfl
  obtain ⟨h1, ⟨t, h3⟩⟩ := h
  exact ⟨by rw [hp]; exact h1, ⟨t ++ [r], by rw [hl, h3, List.append_assoc]⟩⟩
theorem Grow.made {s0 s s' : Sh} {size align : Int} (h : Grow s0 s) (hs : ShOk s) (h0 : 0 ≤ size) (h2 : 0 ≤ align) (hm : madeS s size align = some s') : Grow s0 s' := by
  unfold madeS at hm
  cases hf : fitI (topAt s) (topEnd s) size align with
  | none => rw [hf] at hm; cases hm
  | some q =>
    rw [hf, Option.map_some, Option.some.injEq] at hm
    subst hm
    exact h.top (fit_bd (top_bd hs).1 h2 h0 hf).1
theorem Grow.alloc {C : Co} {B : Nat} {s0 s : Sh} {size align : Int} (h : Grow s0 s) (hC : CInv C) (hs : SInv C.P B s) (hd : ∀ x, cC x C + cS x s ≤ 1) (h0 : 0 ≤ size) (h2 : 0 ≤ align) : Grow s0 (allocS C s size align).1.2 := by
  have hP := hC.ok.p2
  unfold allocS
  split
  · exact h
  · cases hm : madeS s size align with
    | some s' => exact h.made hs.ok h0 h2 hm
    | none =>
      dsimp only
      split
      · exact h
      · rename_i hok
        obtain ⟨n, big, ok, hch⟩ : ∃ n big ok, chunkI size align = (n, big, ok) := ⟨_, _, _, rfl⟩
        rw [hch] at hok ⊢
        have hok : ok = true := by simpa using hok
        subst hok
        obtain ⟨c1, c2, c3⟩ := chunk_n h0 h2 hch
        obtain ⟨g1, g2, g3, g4⟩ := get_inv (n := n) hC (fun x => by have := hd x; have := cS_nn x s; omega) c1 c2
        dsimp only
        unfold growS
        split
        · rename_i he
          obtain ⟨a1, _, _⟩ := g3 he
          split
          · exact h.big _
          · cases hm2 : madeS (partS s ((getC C n).2.1, n) (ofI (getC C n).2.1 n)) size align with
            | none => exact h.part
            | some s2 => exact h.part.made (part_inv hP hs a1 (ofI_bd _ _)).1.ok h0 h2 hm2
        · exact h
/-- Cursors stand behind their chunks' headers. -/
def CurOk (s : Sh) : Prop := ∀ p ∈ s.parts, (ofI p.1 p.2.1).1 ≤ p.2.2.1
theorem CurOk.made {s s' : Sh} {size align : Int} (h : CurOk s) (hs : ShOk s) (h0 : 0 ≤ size) (h2 : 0 ≤ align) (hm : madeS s size align = some s') : CurOk s' := by
  unfold madeS at hm
  cases hf : fitI (topAt s) (topEnd s) size align with
  | none => rw [hf] at hm; cases hm
  | some q =>
    rw [hf, Option.map_some, Option.some.injEq] at hm
    subst hm
    have hq := (fit_bd (top_bd hs).1 h2 h0 hf).1
    intro p hp
    have hp : p ∈ setLast s.parts q.2.1 := hp
    unfold setLast at hp
    rcases List.mem_or_eq_of_mem_set hp with hp | rfl
    · exact h p hp
    · have hne : s.parts ≠ [] := by rintro h0; rw [h0] at hp; simp at hp
      have h1 := h _ (last_mem hne)
      unfold topAt at hq
      dsimp only
      omega
theorem CurOk.alloc {C : Co} {B : Nat} {s : Sh} {size align : Int} (h : CurOk s) (hC : CInv C) (hs : SInv C.P B s) (hd : ∀ x, cC x C + cS x s ≤ 1) (h0 : 0 ≤ size) (h2 : 0 ≤ align) : CurOk (allocS C s size align).1.2 := by
  have hP := hC.ok.p2
  unfold allocS
  split
  · exact h
  · cases hm : madeS s size align with
    | some s' => exact h.made hs.ok h0 h2 hm
    | none =>
      dsimp only
      split
      · exact h
      · rename_i hok
        obtain ⟨n, big, ok, hch⟩ : ∃ n big ok, chunkI size align = (n, big, ok) := ⟨_, _, _, rfl⟩
        rw [hch] at hok ⊢
        have hok : ok = true := by simpa using hok
        subst hok
        obtain ⟨c1, c2, c3⟩ := chunk_n h0 h2 hch
        obtain ⟨g1, g2, g3, g4⟩ := get_inv (n := n) hC (fun x => by have := hd x; have := cS_nn x s; omega) c1 c2
        dsimp only
        unfold growS
        split
        · rename_i he
          obtain ⟨a1, _, _⟩ := g3 he
          have hpart : CurOk (partS s ((getC C n).2.1, n) (ofI (getC C n).2.1 n)) := by
            intro p hp
            rcases List.mem_append.1 hp with hp | hp
            · exact h p hp
            · simp at hp; subst hp; exact Int.le_refl _
          split
          · intro p hp
            have hpp : (bigS s ((getC C n).2.1, n) size (fitI (ofI (getC C n).2.1 n).1 (ofI (getC C n).2.1 n).2 size align)).parts = s.parts := by cases fitI (ofI (getC C n).2.1 n).1 (ofI (getC C n).2.1 n).2 size align <;> rfl
            rw [hpp] at hp
            exact h p hp
          · cases hm2 : madeS (partS s ((getC C n).2.1, n) (ofI (getC C n).2.1 n)) size align with
            | none => exact hpart
            | some s2 => exact hpart.made (part_inv hP hs a1 (ofI_bd _ _)).1.ok h0 h2 hm2
        · exact h
/-- Rewound up to its mark, it is as it was. -/
theorem rew_back {C : Co} {s0 s : Sh} (h : Grow s0 s) (hc : CurOk s0) : rewS C s s0.parts.length s0.larges.length (topAt s0) s0.obj s0.pad = some (putsC C s s0.parts.length s0.larges.length, s0) := by
  obtain ⟨⟨a, t, h1, h2⟩, ⟨t2, h3⟩⟩ := h
  have hlen : (setLast s0.parts a).length = s0.parts.length := setLast_length _ _
  have hfit : fitsS s s0.parts.length s0.larges.length (topAt s0) = true := by
    unfold fitsS
    rw [if_neg (by rw [h1, h3]; simp [hlen]; omega)]
    by_cases hn : s0.parts = []
    · rw [if_pos (by rw [hn]; rfl)]
      unfold topAt; rw [hn]; rfl
    · have hp : 0 < s0.parts.length := List.length_pos_iff.2 hn
      rw [if_neg (by omega)]
      have hg : s.parts.getD ((s0.parts.length : Int).toNat - 1) (0, 0, 0, 0) = ((lastP s0.parts).1, (lastP s0.parts).2.1, a, (lastP s0.parts).2.2.2) := by
        rw [← lastP_setLast s0.parts a hn]
        unfold lastP
        rw [h1, hlen, Int.toNat_natCast]
        simp only [List.getD, List.getElem?_append_left (show s0.parts.length - 1 < (setLast s0.parts a).length by omega)]
      rw [hg]
      have h4 := hc _ (last_mem hn)
      have h5 : topAt s0 = (lastP s0.parts).2.2.1 := rfl
      rw [Bool.and_eq_true, decide_eq_true_eq, decide_eq_true_eq]
      exact ⟨by rw [h5]; exact h4, h2⟩
  unfold rewS
  rw [if_pos hfit]
  congr 1
  congr 1
  have hcut : setTop (cutS s s0.parts.length s0.larges.length) (topAt s0) s0.obj s0.pad = s0 := by
    unfold setTop cutS
    simp only [Int.toNat_natCast]
    rw [h1, h3, List.take_left' hlen, List.take_left' rfl, setLast_setLast]
    have : setLast s0.parts (topAt s0) = s0.parts := setLast_self _
    rw [this]
  rw [hcut]
  split
  · rename_i hz
    simp only [List.cons.injEq] at hz
    obtain ⟨z1, z2, z3, z4, z5, _⟩ := hz
    have e1 : s0.parts = [] := List.length_eq_zero_iff.1 (by omega)
    have e2 : s0.larges = [] := List.length_eq_zero_iff.1 (by omega)
    obtain ⟨p, l, o, d⟩ := s0
    simp only at e1 e2 z4 z5
    subst e1 e2 z4 z5
    rfl
  · rfl
end Go.Proofs.Ytmndddegnfbaaaa.Sep
namespace Go.Proofs.Ytmndddegnfbaaaa.Sep
open Go.RowKit
set_option linter.unusedSimpArgs false
set_option linter.unusedVariables false
/-! regions, plain: grown, and rewound -/
theorem AR.grow {P : Int} {B : Nat} {o : Int} {C C' : Co} {m m' : Mm} {s0 s s' : Sh} {oth : List (Int × Hd)} {size align at_ e : Int} (hR : RInv P B o C m.f s oth) (ho : 0 ≤ o ∧ o < 18446744073709551616) (h0 : 0 ≤ size) (h2 : 0 ≤ align) (h3 : align ≤ 18446744073709551615) (h : AR P C m s o size align C' m' s' at_ e) (hg : Grow s0 s) : Grow s0 s' := by
  have hsh := h.shadow hR ho h0 h2 h3
  have hd : ∀ x, cC x C + cS x s ≤ 1 := fun x => by
    have a1 := hR.K.part x
    have a2 := part_le1 (x := x) (P := C.P)
    rw [gr_app, cnt_append, gotR_cnt] at a1
    have a3 := cnt_nn x (gr oth)
    omega
  have := hg.alloc (size := size) (align := align) hR.K.ci (by rw [hR.hP]; exact hR.S) hd h0 h2
  rw [hsh] at this
  exact this
theorem RInv.curOk {P : Int} {B : Nat} {o : Int} {C : Co} {m : Int → Int} {s : Sh} {oth : List (Int × Hd)} (h : RInv P B o C m s oth) : CurOk s := fun p hp => by
  have h1 := h.S.pi.parts _ (List.mem_map.2 ⟨p, hp, rfl⟩)
  have h2 := h.po p hp
  have h3 := ofI_run h.P1.2 h1
  have h4 : ofI p.1 p.2.1 = (p.1 * 4096 + 32, (p.1 + p.2.1) * 4096) := h3
  rw [h4]
  exact h2.2.1
/-- Rewound up to its mark a region is as it was. -/
theorem grow_fits {s0 s : Sh} (h : Grow s0 s) (hc : CurOk s0) : fitsS s s0.parts.length s0.larges.length (topAt s0) = true ∧ setTop (cutS s s0.parts.length s0.larges.length) (topAt s0) s0.obj s0.pad = s0 := by
  have h1 := rew_back (C := ⟨0, [], fun _ => [], 0⟩) h hc
  have h2 : fitsS s s0.parts.length s0.larges.length (topAt s0) = true := by
    by_cases hf : fitsS s s0.parts.length s0.larges.length (topAt s0) = true
    · exact hf
    · unfold rewS at h1
      rw [if_neg hf] at h1
      cases h1
  refine ⟨h2, ?_⟩
  rw [rew_shadow h2] at h1
  simp only [Option.some.injEq, Prod.mk.injEq, true_and] at h1
  exact h1
end Go.Proofs.Ytmndddegnfbaaaa.Sep
namespace Go.Proofs.Ytmndddegnfbaaaa.Sep
open Go.RowKit
set_option linter.unusedSimpArgs false
set_option linter.unusedVariables false
/-! what lies behind a page is free: there is room -/
theorem cnt_lo {P x : Int} : ∀ {l : List (Int × Int)} {lo : Int}, RightFrom P lo l → x < lo → cnt x l = 0
  | [], _, _, _ => rfl
  | r :: l, lo, ⟨h1, h2, h3, h4⟩, hx => by
    have := cnt_lo h4 (x := x) (by omega)
    have h0 : ind x r = 0 := by unfold ind; rw [if_neg (by omega)]
    simp only [cnt]; omega
/-- Pages that are all free lie in one run. -/
theorem span {P a b : Int} (hab : a < b) : ∀ {l : List (Int × Int)} {lo : Int}, RightFrom P lo l → (∀ x, a ≤ x → x < b → 1 ≤ cnt x l) → ∃ r ∈ l, r.1 ≤ a ∧ b ≤ r.1 + r.2
  | [], _, _, h => by have := h a (Int.le_refl _) hab; simp [cnt] at this
  | r :: l, lo, ⟨h1, h2, h3, h4⟩, h => by
    by_cases ha : r.1 + r.2 ≤ a
    · obtain ⟨q, hq, h5⟩ := span hab h4 (fun x hx hxb => by
        have := h x hx hxb
        have h0 : ind x r = 0 := by unfold ind; rw [if_neg (by omega)]
        simp only [cnt] at this; omega)
      exact ⟨q, by simp [hq], h5⟩
    · have h6 : r.1 ≤ a := by
        by_cases h7 : r.1 ≤ a
        · exact h7
        · exfalso
          have h8 := h a (Int.le_refl _) hab
          have h0 : ind a r = 0 := by unfold ind; rw [if_neg (by omega)]
          have := cnt_lo h4 (x := a) (by omega)
          simp only [cnt] at h8; omega
      refine ⟨r, by simp, h6, ?_⟩
      by_cases h7 : b ≤ r.1 + r.2
      · exact h7
      · exfalso
        have h8 := h (r.1 + r.2) (by omega) (by omega)
        have h0 : ind (r.1 + r.2) r = 0 := by unfold ind; rw [if_neg (by omega)]
        have := cnt_lo h4 (x := r.1 + r.2) (by omega)
        simp only [cnt] at h8; omega
/-- Ahead of a run no page is free. -/
theorem start0 {P : Int} : ∀ {l : List (Int × Int)} {lo : Int}, RightFrom P lo l → ∀ r ∈ l, cnt (r.1 - 1) l = 0
  | [], _, _, r, hr => by cases hr
  | q :: l, lo, ⟨h1, h2, h3, h4⟩, r, hr => by
    rcases List.mem_cons.1 hr with rfl | hr
    · have h0 : ind (r.1 - 1) r = 0 := by unfold ind; rw [if_neg (by omega)]
      have := cnt_lo h4 (x := r.1 - 1) (by omega)
      simp only [cnt]; omega
    · have hm := rf_mem h4 r hr
      have h0 : ind (r.1 - 1) q = 0 := by unfold ind; rw [if_neg (by omega)]
      have := start0 h4 r hr
      simp only [cnt]; omega
def HW (C : Co) (B : Int) : Prop := ∀ x, B ≤ x → x < C.P → 1 ≤ cnt x C.fr
theorem HW.up {C : Co} {B B' : Int} (h : HW C B) (hB : B ≤ B') : HW C B' := fun x h1 h2 => h x (by omega) h2
theorem hw_new (P : Int) (k : Nat → List Int) (t : Int) : HW ⟨P, [(0, P)], k, t⟩ 0 := fun x h1 h2 => by
  show 1 ≤ cnt x [(0, P)]
  have h2 : x < P := h2
  have h0 : ind x (0, P) = 1 := by unfold ind; rw [if_pos]; simp only; omega
  simp only [cnt]; omega
theorem hw_trim {C : Co} {m : Int → Int} {got : List (Int × Hd)} {B : Int} (h : KInv C m got) (hw : HW C B) : HW (trimC C) B := fun x h1 h2 => by
  obtain ⟨-, g2, -⟩ := trim_inv h.ci h.le
  have h3 : cC x (trimC C) = cnt x (trimC C).fr := by
    show cnt x (trimC C).fr + cnt x (kall (fun _ => []) 7) = _
    rw [kall_nil]; simp [cnt]
  have h4 := g2 x
  rw [h3] at h4
  have h5 := hw x h1 h2
  have h6 := cnt_nn x (kall C.ks 7)
  unfold cC at h4
  omega
theorem hw_put {C : Co} {m : Int → Int} {l1 l2 : List (Int × Hd)} {p B : Int} {hd : Hd} (h : KInv C m (l1 ++ (p, hd) :: l2)) (hw : HW C B) : HW (putC C (p, hd.pages)) B := by
  have hr : RunOk C.P (p, hd.pages) := h.run (p, hd) (by simp)
  unfold putC
  split
  · exact hw
  · have hd' : ∀ x, cnt x C.fr + ind x (p, hd.pages) ≤ 1 := fun x => by
      have h1 := h.part x
      have h2 := part_le1 (x := x) (P := C.P)
      rw [gr_app, cnt_append] at h1
      have h3 := cnt_nn x (gr l1)
      have h4 : cnt x (gr ((p, hd) :: l2)) = ind x (p, hd.pages) + cnt x (gr l2) := rfl
      have h5 := cnt_nn x (gr l2)
      have h6 := cnt_nn x (kall C.ks 7)
      unfold cC at h1
      omega
    obtain ⟨g1, -⟩ := give_inv h.ci.ok hr hd'
    intro x h1 h2
    rw [g1 x]
    have := hw x h1 h2
    have := ind_nn x (p, hd.pages)
    omega
theorem take_hw {C : Co} {n B : Int} (hC : CoOk C) (hw : HW C B) (h0 : 0 ≤ B) (hn : 1 ≤ n) : HW (takeC C n).1 (B + n) := by
  unfold takeC
  rw [if_neg (by omega)]
  cases ht : takeI C.fr n with
  | none => exact hw.up (by omega)
  | some q =>
    obtain ⟨p, ys⟩ := q
    obtain ⟨g1, g2, g3, g4, g5, g6⟩ := takeI_right hC.right ht
    have hp : ∃ r ∈ C.fr, p = r.1 := by
      unfold takeI at ht
      cases hb : bestU C.fr n C.fr.length with
      | none => rw [hb] at ht; cases ht
      | some i =>
        rw [hb, Option.map_some, Option.some.injEq] at ht
        have hi := bestU_lt hb
        have hg : C.fr.getD i (0, 0) = C.fr[i] := by simp [List.getD, hi]
        have hp : p = (C.fr.getD i (0, 0)).1 := by rw [takeAt] at ht; exact (Prod.mk.inj ht).1.symm
        rw [hg] at hp
        exact ⟨_, List.getElem_mem hi, hp⟩
    obtain ⟨r, hr, hp⟩ := hp
    have hs := start0 hC.right r hr
    have hle : p ≤ B := by
      by_cases hle : p ≤ B
      · exact hle
      · exfalso
        have := hw (r.1 - 1) (by omega) (by omega)
        omega
    intro x h1 h2
    have h3 := g5 x
    have h4 : ind x (p, n) = 0 := by unfold ind; rw [if_neg]; simp only; omega
    have h5 := hw x (by omega) h2
    show 1 ≤ cnt x ys
    omega
theorem hw_get {C : Co} {m : Int → Int} {got : List (Int × Hd)} {B n : Int} (h : KInv C m got) (hw : HW C B) (h0 : 0 ≤ B) (hn : 1 ≤ n) (hB : B + n ≤ C.P) : (getC C n).2.2 = 0 ∧ HW (getC C n).1 (B + n) := by
  constructor
  · by_cases hz : (getC C n).2.2 = 0
    · exact hz
    · exfalso
      obtain ⟨-, -, h3⟩ := get_full h.ci.ok hn hz
      have ht := hw_trim h hw
      have hr := (ktrim h).ci.ok.right
      obtain ⟨r, hr1, hr2, hr3⟩ := span (a := B) (b := C.P) (by omega) hr (fun x h1 h2 => ht x h1 h2)
      have := h3 r hr1
      omega
  · unfold getC
    split
    · exact hw.up (by omega)
    · split
      · split
        · exact take_hw (ktrim h).ci.ok (hw_trim h hw) h0 hn
        · exact (hw_trim h hw).up (by omega)
      · exact take_hw h.ci.ok hw h0 hn
theorem hw_cut {k o P : Int} {oth : List (Int × Hd)} : ∀ (r2 : List (Int × Int)) (rs : List (Int × Int)) (C : Co) (m : Mm) (B : Int), KInv C m.f (plH k o 0 (rs ++ r2) ++ oth) → C.P = P → (rs ++ r2).length ≤ 1048576 → HW C B → HW (cutC C r2) B := by
  intro r2
  induction r2 with
  | nil => intro rs C m B _ _ _ hw; exact hw
  | cons r r2 ih =>
    intro rs C m B hK hP hl hw
    have e : rs ++ r :: r2 = (rs ++ [r]) ++ r2 := by simp
    rw [e] at hK hl
    have h1 := ih (rs ++ [r]) C m B hK hP hl hw
    obtain ⟨h2, h3⟩ := pcut_ok 0 0 0 (P := P) (k := k) (o := o) (oth := oth) (by have := hK.ci.ok.p2; omega) r2 (rs ++ [r]) C m hK hP hl
    rw [cutC_cons]
    exact hw_put (p := r.1) (hd := ⟨r.2, k, o, lastL 0 rs⟩) (plH_top (pg := r.1) (n := r.2) h2) h1
end Go.Proofs.Ytmndddegnfbaaaa.Sep
namespace Go.Proofs.Ytmndddegnfbaaaa.Sep
open Go.RowKit
set_option linter.unusedSimpArgs false
set_option linter.unusedVariables false
/-! regions that have the same shape, wherever their pages lie -/
def shp (p : Part) : Int × Int × Int := (p.2.1, p.2.2.1 - p.1 * 4096, p.2.2.2 - p.1 * 4096)
structure Sim (S S' : Sh) : Prop where
  ps : S.parts.map shp = S'.parts.map shp
  ls : S.larges.map (·.2) = S'.larges.map (·.2)
  ob : S.obj = S'.obj
  pd : S.pad = S'.pad
theorem Sim.len {S S' : Sh} (h : Sim S S') : S.parts.length = S'.parts.length ∧ S.larges.length = S'.larges.length := by
  have h1 := congrArg List.length h.ps
  have h2 := congrArg List.length h.ls
  rw [List.length_map, List.length_map] at h1 h2
  exact ⟨h1, h2⟩
theorem Sim.last {S S' : Sh} (h : Sim S S') (hn : S.parts ≠ []) : S'.parts ≠ [] ∧ shp (lastP S.parts) = shp (lastP S'.parts) := by
  have hl := h.len.1
  have hp : 0 < S.parts.length := List.length_pos_iff.2 hn
  have hn' : S'.parts ≠ [] := by
    intro h0
    have : S'.parts.length = 0 := by rw [h0]; rfl
    omega
  refine ⟨hn', ?_⟩
  rcases List.eq_nil_or_concat S.parts with h0 | ⟨l, x, h0⟩
  · exact absurd h0 hn
  rcases List.eq_nil_or_concat S'.parts with h1 | ⟨l', x', h1⟩
  · exact absurd h1 hn'
  rw [List.concat_eq_append] at h0 h1
  have hps := h.ps
  rw [h0, h1] at hps ⊢
  rw [lastP_append, lastP_append]
  rw [List.map_append, List.map_append] at hps
  have := List.append_inj_right' hps (by simp)
  simpa using this
theorem shp_tot : ∀ {l l' : List Part}, l.map shp = l'.map shp → totI (l.map runP) = totI (l'.map runP)
  | [], [], _ => rfl
  | [], _ :: _, h => by cases h
  | _ :: _, [], h => by cases h
  | p :: l, p' :: l', h => by
    simp only [List.map_cons, List.cons.injEq] at h
    rw [List.map_cons, List.map_cons, tot_cons, tot_cons, shp_tot h.2]
    have : p.2.1 = p'.2.1 := (Prod.mk.inj h.1).1
    show p.2.1 + _ = p'.2.1 + _
    rw [this]
theorem snd_tot : ∀ {l l' : List (Int × Int)}, l.map (·.2) = l'.map (·.2) → totI l = totI l'
  | [], [], _ => rfl
  | [], _ :: _, h => by cases h
  | _ :: _, [], h => by cases h
  | p :: l, p' :: l', h => by
    simp only [List.map_cons, List.cons.injEq] at h
    rw [tot_cons, tot_cons, snd_tot h.2, h.1]
theorem Sim.meter {S S' : Sh} (h : Sim S S') : shPages S = shPages S' ∧ shHdr S = shHdr S' := by
  have h1 := h.len
  unfold shPages shHdr
  rw [shp_tot h.ps, snd_tot h.ls, h1.1, h1.2]
  exact ⟨rfl, rfl⟩
theorem Sim.top {S S' : Sh} (h : Sim S S') : topAt S % 4096 = topAt S' % 4096 := by
  by_cases hn : S.parts = []
  · have hl := h.len.1
    have hn' : S'.parts = [] := by
      rw [hn] at hl; exact List.length_eq_zero_iff.1 hl.symm
    unfold topAt; rw [hn, hn']
  · obtain ⟨h1, h2⟩ := h.last hn
    unfold shp at h2
    have h3 := (Prod.mk.inj (Prod.mk.inj h2).2).1
    unfold topAt
    omega
theorem Sim.fit {P P' : Int} {B B' : Nat} {o o' : Int} {C C' : Co} {m m' : Int → Int} {S S' : Sh} {oth oth' : List (Int × Hd)} {size align : Int} {q : Int × Int × Int} (hR : RInv P B o C m S oth) (hR' : RInv P' B' o' C' m' S' oth') (h : Sim S S') (hb : ¬ badA size align) (h0 : 0 ≤ size) (h2 : 0 ≤ align) (h3 : align ≤ 18446744073709551615) (hf : fitI (topAt S) (topEnd S) size align = some q) :
    ∃ q', fitI (topAt S') (topEnd S') size align = some q' ∧ q'.2.2 = q.2.2 ∧ Sim (setTop S q.2.1 (IntKind.u64.wrap (S.obj + size)) (IntKind.u64.wrap (S.pad + q.2.2))) (setTop S' q'.2.1 (IntKind.u64.wrap (S'.obj + size)) (IntKind.u64.wrap (S'.pad + q'.2.2))) := by
  obtain ⟨g1, g2, g3, g4, g5⟩ := good_al h2 h3 hb
  have htb := top_bd hR.S.ok
  have htb' := top_bd hR'.S.ok
  obtain ⟨f1, f2, f3, f4, f5, f6, f7, f8⟩ := fit_some htb.1 g3 h0 hf
  have hn : S.parts ≠ [] := by
    intro hn
    have : topEnd S = 0 := by unfold topEnd; rw [hn]; rfl
    omega
  obtain ⟨hn', hl⟩ := h.last hn
  unfold shp at hl
  obtain ⟨l1, l23⟩ := Prod.mk.inj hl
  obtain ⟨l2, l3⟩ := Prod.mk.inj l23
  have e1 : topAt S = (lastP S.parts).2.2.1 := rfl
  have e2 : topEnd S = (lastP S.parts).2.2.2 := rfl
  have e1' : topAt S' = (lastP S'.parts).2.2.1 := rfl
  have e2' : topEnd S' = (lastP S'.parts).2.2.2 := rfl
  have hm1 : (-(topAt S)) % align = (-(topAt S - (lastP S.parts).1 * 4096)) % align := by
    have := page_mod g5 (topAt S - (lastP S.parts).1 * 4096) (pg := (lastP S.parts).1)
    rw [← this]; congr 1; omega
  have hm2 : (-(topAt S')) % align = (-(topAt S' - (lastP S'.parts).1 * 4096)) % align := by
    have := page_mod g5 (topAt S' - (lastP S'.parts).1 * 4096) (pg := (lastP S'.parts).1)
    rw [← this]; congr 1; omega
  have hmm : (-(topAt S')) % align = (-(topAt S)) % align := by
    rw [hm1, hm2]; congr 1; omega
  obtain ⟨-, c2', c3'⟩ := hR'.cur hn'
  have hP' := hR'.P1
  unfold PtOk at c3'
  unfold RunOk runP at c2'
  simp only at c2'
  have hq := fit_make (at_ := topAt S') (en := topEnd S') (size := size) (align := align) htb'.1 g3 g2 g1 h0 (by rw [hmm]; omega) (by omega)
  refine ⟨_, hq, by rw [hmm]; exact f3.symm, ?_, h.ls, by show IntKind.u64.wrap _ = IntKind.u64.wrap _; rw [h.ob], by show IntKind.u64.wrap _ = IntKind.u64.wrap _; rw [h.pd, hmm, f3]⟩
  show (setLast S.parts q.2.1).map shp = (setLast S'.parts (topAt S' + (-(topAt S')) % align + size)).map shp
  rcases List.eq_nil_or_concat S.parts with h0' | ⟨l, x, h0'⟩
  · exact absurd h0' hn
  rcases List.eq_nil_or_concat S'.parts with h1 | ⟨l', x', h1⟩
  · exact absurd h1 hn'
  rw [List.concat_eq_append] at h0' h1
  have hps := h.ps
  rw [h0', h1] at hps
  rw [List.map_append, List.map_append] at hps
  have hinj := List.append_inj_left' hps (by simp)
  have hx : lastP S.parts = x := by rw [h0', lastP_append]
  have hx' : lastP S'.parts = x' := by rw [h1, lastP_append]
  rw [hx, hx'] at l1 l2 l3
  rw [hx] at e1 e2
  rw [hx'] at e1' e2'
  rw [h0', h1, setLast_app, setLast_app, List.map_append, List.map_append, hinj]
  congr 1
  simp only [List.map_cons, List.map_nil, shp]
  congr 1
  refine Prod.ext l1 (Prod.ext ?_ ?_)
  · show q.2.1 - x.1 * 4096 = topAt S' + (-(topAt S')) % align + size - x'.1 * 4096
    rw [hmm]; omega
  · show x.2.2.2 - x.1 * 4096 = x'.2.2.2 - x'.1 * 4096
    exact l3
theorem Sim.symm {S S' : Sh} (h : Sim S S') : Sim S' S := ⟨h.ps.symm, h.ls.symm, h.ob.symm, h.pd.symm⟩
theorem chunk75 {size align n : Int} {big : Bool} (h0 : 0 ≤ size) (h1 : size < 300000) (h2 : 0 ≤ align) (h3 : align ≤ 18446744073709551615) (hb : ¬ badA size align) (hc : chunkI size align = (n, big, true)) : n ≤ 80 := by
  obtain ⟨g1, g2, g3, g4, g5⟩ := good_al h2 h3 hb
  obtain ⟨c1, c2, c3⟩ := chunk_n h0 h2 hc
  have hr : RunOk 1048576 (0, n) := ⟨by show (0 : Int) ≤ 0; omega, c1, by show 0 + n ≤ 1048576; omega⟩
  obtain ⟨-, f2, f3, f4⟩ := chunk_fit h0 h2 h3 hb hc (Int.le_refl _) hr
  split at f4 <;> omega
/-- What comes of an alloc where there is always room: with another region of the same shape it is the same. -/
theorem AR.sim {P P' : Int} {B B' : Nat} {o o' : Int} {C C1 C' C1' : Co} {m m1 m' m1' : Mm} {S S1 S' S1' : Sh} {oth oth' : List (Int × Hd)} {size align at_ e at' e' H H' : Int}
    (hR : RInv P B o C m.f S oth) (hR' : RInv P' B' o' C' m'.f S' oth') (hs : Sim S S') (h0 : 0 ≤ size) (h1 : size < 300000) (h2 : 0 ≤ align) (h3 : align ≤ 18446744073709551615)
    (hH : HW C H) (hH0 : 0 ≤ H) (hHP : H + 80 ≤ P) (hH' : HW C' H') (hH0' : 0 ≤ H') (hHP' : H' + 80 ≤ P')
    (h : AR P C m S o size align C1 m1 S1 at_ e) (h' : AR P' C' m' S' o' size align C1' m1' S1' at' e') : e = e' ∧ Sim S1 S1' ∧ HW C1 (H + 80) ∧ HW C1' (H' + 80) := by
  have room : ∀ n big, ¬ badA size align → chunkI size align = (n, big, true) → (getC C n).2.2 = 0 ∧ HW (getC C n).1 (H + 80) := fun n big hb hc => by
    have hn := chunk75 h0 h1 h2 h3 hb hc
    obtain ⟨z1, z2⟩ := hw_get hR.K hH hH0 (chunk_n h0 h2 hc).1 (by rw [hR.hP]; omega)
    exact ⟨z1, z2.up (by omega)⟩
  have room' : ∀ n big, ¬ badA size align → chunkI size align = (n, big, true) → (getC C' n).2.2 = 0 ∧ HW (getC C' n).1 (H' + 80) := fun n big hb hc => by
    have hn := chunk75 h0 h1 h2 h3 hb hc
    obtain ⟨z1, z2⟩ := hw_get hR'.K hH' hH0' (chunk_n h0 h2 hc).1 (by rw [hR'.hP]; omega)
    exact ⟨z1, z2.up (by omega)⟩
  have u1 := hH.up (show H ≤ H + 80 by omega)
  have u2 := hH'.up (show H' ≤ H' + 80 by omega)
  cases h with
  | bad hb =>
    cases h' with
    | bad _ => exact ⟨rfl, hs, u1, u2⟩
    | fit q hb' _ => exact absurd hb hb'
    | huge hb' _ _ => exact absurd hb hb'
    | full n big hb' _ _ _ => exact absurd hb hb'
    | big n pg hb' _ _ _ => exact absurd hb hb'
    | part n pg hb' _ _ _ => exact absurd hb hb'
  | fit q hb hf =>
    obtain ⟨q', hf', hp, hsim⟩ := Sim.fit hR hR' hs hb h0 h2 h3 hf
    cases h' with
    | bad hb' => exact absurd hb' hb
    | fit q2 _ hf2 =>
      rw [hf'] at hf2
      cases hf2
      exact ⟨rfl, hsim, u1, u2⟩
    | huge _ hf2 _ => rw [hf'] at hf2; cases hf2
    | full n big _ hf2 _ _ => rw [hf'] at hf2; cases hf2
    | big n pg _ hf2 _ _ => rw [hf'] at hf2; cases hf2
    | part n pg _ hf2 _ _ => rw [hf'] at hf2; cases hf2
  | huge hb hf hc =>
    cases h' with
    | bad hb' => exact absurd hb' hb
    | fit q2 _ hf2 => obtain ⟨q', hq', -⟩ := Sim.fit hR' hR hs.symm hb h0 h2 h3 hf2; rw [hf] at hq'; cases hq'
    | huge _ _ _ => exact ⟨rfl, hs, u1, u2⟩
    | full n big _ _ hc2 _ => rw [hc2] at hc; cases hc
    | big n pg _ _ hc2 _ => rw [hc2] at hc; cases hc
    | part n pg _ _ hc2 _ => rw [hc2] at hc; cases hc
  | full n big hb hf hc hz => exact absurd (room n big hb hc).1 hz
  | big n pg hb hf hc hz =>
    have r1 := (room n true hb hc).2
    cases h' with
    | bad hb' => exact absurd hb' hb
    | fit q2 _ hf2 => obtain ⟨q', hq', -⟩ := Sim.fit hR' hR hs.symm hb h0 h2 h3 hf2; rw [hf] at hq'; cases hq'
    | huge _ _ hc2 => rw [hc] at hc2; cases hc2
    | full n2 big2 _ _ hc2 hz2 => exact absurd (room' n2 big2 hb hc2).1 hz2
    | part n2 pg2 _ _ hc2 _ => rw [hc] at hc2; cases hc2
    | big n2 pg2 _ _ hc2 hz2 =>
      rw [hc] at hc2
      cases hc2
      exact ⟨rfl, ⟨hs.ps, by simp [hs.ls], by show IntKind.u64.wrap _ = IntKind.u64.wrap _; rw [hs.ob], by show IntKind.u64.wrap _ = IntKind.u64.wrap _; rw [hs.pd]⟩, r1, (room' n true hb hc).2⟩
  | part n pg hb hf hc hz =>
    have r1 := (room n false hb hc).2
    cases h' with
    | bad hb' => exact absurd hb' hb
    | fit q2 _ hf2 => obtain ⟨q', hq', -⟩ := Sim.fit hR' hR hs.symm hb h0 h2 h3 hf2; rw [hf] at hq'; cases hq'
    | huge _ _ hc2 => rw [hc] at hc2; cases hc2
    | full n2 big2 _ _ hc2 hz2 => exact absurd (room' n2 big2 hb hc2).1 hz2
    | big n2 pg2 _ _ hc2 _ => rw [hc] at hc2; cases hc2
    | part n2 pg2 _ _ hc2 hz2 =>
      rw [hc] at hc2
      cases hc2
      refine ⟨rfl, ⟨?_, hs.ls, by show IntKind.u64.wrap _ = IntKind.u64.wrap _; rw [hs.ob], by show IntKind.u64.wrap _ = IntKind.u64.wrap _; rw [hs.pd]⟩, r1, (room' n false hb hc).2⟩
      show (S.parts ++ [_]).map shp = (S'.parts ++ [_]).map shp
      rw [List.map_append, List.map_append, hs.ps]
      congr 1
      simp only [List.map_cons, List.map_nil, shp]
      congr 1
      refine Prod.ext rfl (Prod.ext ?_ ?_)
      · show pg * 4096 + 32 + (-32) % align + size - pg * 4096 = pg2 * 4096 + 32 + (-32) % align + size - pg2 * 4096
        omega
      · show (pg + n) * 4096 - pg * 4096 = (pg2 + n) * 4096 - pg2 * 4096
        omega
end Go.Proofs.Ytmndddegnfbaaaa.Sep
