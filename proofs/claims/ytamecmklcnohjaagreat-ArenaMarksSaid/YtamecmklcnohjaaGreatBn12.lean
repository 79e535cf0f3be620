import Derived.Test.YtamecmklcnohjaaGreatBn11
import Derived.Test.YtamecmklcnohjaaGreatBn4
import Derived.Test.YtamecmklcnohjaaGreatBn10
import Derived.Test.YtamecmklcnohjaaGreatBn8
/- What the laws share: a separation logic over the model, and what the program's functions do, by it. Part 12 of 15: RegD RegE RegF Star Tree Handle Tab. -/
namespace Go.Proofs.YtamecmklcnohjaaGreat.Sep
open Go.RowKit
set_option linter.unusedSimpArgs false
set_option linter.unusedVariables false
/-! regions: marks, and what is rewound -/
set_option maxHeartbeats 8000000
attribute [local irreducible] X XE XO XD XDi XDa PV RV DV pt base Spec Sl Mp Keeps Pg Kc Pgs Spc Ck XL XLi Pl Rs Rg
abbrev markV (S : Sh) : Value := .agg #[.int .i64 (S.parts.length : Int), .int .i64 (S.larges.length : Int), .int .u64 (topAt S), .int .u64 S.obj, .int .u64 S.pad]
theorem rmark_spec (r s : Nat) (o : Int) (S : Sh) (hl : S.parts.length ≤ 1048576) (hl2 : S.larges.length ≤ 1048576) : Spec Tryz.prog 20 [.pointer (some ⟨r, 0, none⟩)] [Rg r s o S] (fun v L => v = markV S ∧ L = [Rg r s o S]) := by
  refine Spec.intro (IsEnt.out) Tryz.func20 rfl Tryz.ntmps20 (by simp) (fun w0 F => ?_)
  simp only [envOf, List.zipIdx, List.map, List.cons_append, List.nil_append, Nat.zero_add, Nat.reduceAdd]
  repeat (first | refine Zq ?_ | refine Zs ?_ | refine ZT ?_ | refine ZF ?_ | refine Zc ?_ | refine XO_gU (hk := ?_))
  refine XO_dv dv_alloc (hk := ?_)
  rintro _ _ ⟨gb, rfl, rfl⟩
  repeat (first | refine Zq ?_ | refine Zs ?_ | refine ZT ?_ | refine ZF ?_ | refine Zc ?_ | refine XO_gU (hk := ?_))
  refine X_cond rfl (fun h => by cases h) (fun _ => ?_)
  refine X_open (A := Rg r s o S) (by (repeat (first | exact Find.here | apply Find.there))) Rg.open ?_
  rintro ⟨p0, p1⟩ -
  dsimp only [List.cons_append, List.nil_append]
  refine X_open (A := Rs r s p0 p1 S) (by (repeat (first | exact Find.here | apply Find.there))) Rs.open ?_
  rintro ⟨a, c⟩ -
  dsimp only [List.cons_append, List.nil_append]
  repeat (first | refine Zq ?_ | refine Zs ?_ | refine ZT ?_ | refine ZF ?_ | refine Zc ?_ | refine XO_gU (hk := ?_))
  repeat (first | refine XD_pick (h := ?_) | refine Dq ?_ | refine Ds ?_ | refine XDi_gF (h := ?_) | refine XDi_gU (h := ?_) | refine X_draws (h := ?_))
  refine XD_one (h := ?_)
  refine XDa_dvA (dv_call (plen_spec p1 s 1 o S.larges)) (hk := ?_)
  (rintro _ _ ⟨_, ⟨rfl, rfl⟩, rfl⟩; refine ⟨by (repeat (first | exact keeps_nil | exact keeps_fnil | refine keeps_skip (h := ?_) | refine keeps_takeQ (h := ?_))), ?_⟩)
  repeat (first | refine XD_pick (h := ?_) | refine Dq ?_ | refine Ds ?_ | refine XDi_gF (h := ?_) | refine XDi_gU (h := ?_) | refine X_draws (h := ?_))
  refine XD_one (h := ?_)
  refine XDa_dvA (dv_call (rtop_spec r s p0 p1 S a c (by omega))) (hk := ?_)
  rintro _ _ ⟨_, ⟨cb, oo, A, G, rfl, hCur, hfold, rfl⟩, rfl⟩
  refine ⟨by (repeat (first | exact keeps_nil | exact keeps_fnil | refine keeps_skip (h := ?_) | refine keeps_takeQ (h := ?_))), ?_⟩
  repeat (first | refine XD_pick (h := ?_) | refine Dq ?_ | refine Ds ?_ | refine XDi_gF (h := ?_) | refine XDi_gU (h := ?_) | refine X_draws (h := ?_))
  refine XDi_rvA (hCur.load1 (by (repeat (first | exact Find.here | apply Find.there))) rfl) (h := ?_)
  repeat (first | refine XD_pick (h := ?_) | refine Dq ?_ | refine Ds ?_ | refine XDi_gF (h := ?_) | refine XDi_gU (h := ?_) | refine X_draws (h := ?_))
  refine XD_one (h := ?_)
  refine XDa_dvk0 dv_storeW (K := _) (hk := ?_)
  (rintro _ _ rfl; refine ⟨by (repeat (first | exact keeps_nil | exact keeps_fnil | refine keeps_skip (h := ?_) | refine keeps_takeQ (h := ?_))), ?_⟩)
  (refine XD_end (h := ?_); repeat (first | refine Zq ?_ | refine Zs ?_ | refine ZT ?_ | refine ZF ?_ | refine Zc ?_ | refine XO_gU (hk := ?_)))
  refine XE_fold (by repeat (first | exact FindAll.nil | exact Find.here | apply Find.there | apply FindAll.cons)) (hfold (topAt S) S.obj S.pad) ?_
  rw [setTop_self]
  refine XE_fold (by repeat (first | exact FindAll.nil | exact Find.here | apply Find.there | apply FindAll.cons)) (Rg.fold (r := r) (s := s) (o := o) (S := S) (p0 := p0) (p1 := p1)) ?_
  refine XE_ret (.inl rfl) (tells_cell rfl) ⟨_, ⟨rfl, rfl⟩, by ((try simp only [List.cons_append, List.nil_append]); repeat (first | exact ent_refl | refine ent_take (by repeat (first | exact Find.here | apply Find.there)) ?_ | refine ent_drop ?_))⟩
theorem rcheck_spec (r s : Nat) (o : Int) (S : Sh) (mc ml at_ ob pd : Int) (hl : S.parts.length ≤ 1048576) (hl2 : S.larges.length ≤ 1048576) : Spec Tryz.prog 73 [.pointer (some ⟨r, 0, none⟩), .agg #[.int .i64 mc, .int .i64 ml, .int .u64 at_, .int .u64 ob, .int .u64 pd]] [Rg r s o S] (fun v L => v = .bool (fitsS S mc ml at_) ∧ L = [Rg r s o S]) := by
  refine Spec.intro (IsEnt.out) Tryz.func73 rfl Tryz.ntmps73 (by simp) (fun w0 F => ?_)
  simp only [envOf, List.zipIdx, List.map, List.cons_append, List.nil_append, Nat.zero_add, Nat.reduceAdd]
  refine X_open .here Rg.open ?_
  rintro ⟨p0, p1⟩ -
  dsimp only [List.cons_append, List.nil_append]
  refine X_open (A := Rs r s p0 p1 S) (by (repeat (first | exact Find.here | apply Find.there))) Rs.open ?_
  rintro ⟨a, c⟩ -
  dsimp only [List.cons_append, List.nil_append]
  repeat (first | refine Zq ?_ | refine Zs ?_ | refine ZT ?_ | refine ZF ?_ | refine Zc ?_ | refine XO_gU (hk := ?_))
  refine XO_dv dv_box (hk := ?_)
  rintro _ _ ⟨b3, rfl, rfl⟩
  repeat (first | refine Zq ?_ | refine Zs ?_ | refine ZT ?_ | refine ZF ?_ | refine Zc ?_ | refine XO_gU (hk := ?_))
  repeat (first | refine XD_pick (h := ?_) | refine Dq ?_ | refine Ds ?_ | refine XDi_gF (h := ?_) | refine XDi_gU (h := ?_) | refine X_draws (h := ?_))
  refine XDi_either (hT := fun h => ?_) (hF := fun h => ?_) <;> simp only [decide_eq_true_eq, decide_eq_false_iff_not] at h
  · have hF : fitsS S mc ml at_ = false := by unfold fitsS; rw [if_pos (by omega)]
    rw [hF]
    repeat (first | refine XD_pick (h := ?_) | refine Dq ?_ | refine Ds ?_ | refine XDi_gF (h := ?_) | refine XDi_gU (h := ?_) | refine X_draws (h := ?_))
    (refine XD_head (h := ?_); first | refine XDi_gF (h := ?_) | refine XDi_gU (h := ?_))
    repeat (first | refine XD_pick (h := ?_) | refine Dq ?_ | refine Ds ?_ | refine XDi_gF (h := ?_) | refine XDi_gU (h := ?_) | refine X_draws (h := ?_))
    (refine XD_end (h := ?_); repeat (first | refine Zq ?_ | refine Zs ?_ | refine ZT ?_ | refine ZF ?_ | refine Zc ?_ | refine XO_gU (hk := ?_)))
    refine X_cond rfl (fun _ => ?_) (fun h => by cases h)
    repeat (first | refine Zq ?_ | refine Zs ?_ | refine ZT ?_ | refine ZF ?_ | refine Zc ?_ | refine XO_gU (hk := ?_))
    refine XE_fold (by repeat (first | exact FindAll.nil | exact Find.here | apply Find.there | apply FindAll.cons)) (Rs.fold (S := S)) ?_
    refine XE_fold (by repeat (first | exact FindAll.nil | exact Find.here | apply Find.there | apply FindAll.cons)) (Rg.fold (S := S)) ?_
    refine XE_ret (.inl rfl) (tells_tmps rfl rfl) ⟨_, ⟨rfl, rfl⟩, by ((try simp only [List.cons_append, List.nil_append]); repeat (first | exact ent_refl | refine ent_take (by repeat (first | exact Find.here | apply Find.there)) ?_ | refine ent_drop ?_))⟩
  repeat (first | refine XD_pick (h := ?_) | refine Dq ?_ | refine Ds ?_ | refine XDi_gF (h := ?_) | refine XDi_gU (h := ?_) | refine X_draws (h := ?_))
  refine XDi_either (hT := fun h => ?_) (hF := fun h => ?_) <;> simp only [decide_eq_true_eq, decide_eq_false_iff_not] at h
  · have hF : fitsS S mc ml at_ = false := by unfold fitsS; rw [if_pos (by omega)]
    rw [hF]
    repeat (first | refine XD_pick (h := ?_) | refine Dq ?_ | refine Ds ?_ | refine XDi_gF (h := ?_) | refine XDi_gU (h := ?_) | refine X_draws (h := ?_))
    (refine XD_head (h := ?_); first | refine XDi_gF (h := ?_) | refine XDi_gU (h := ?_))
    repeat (first | refine XD_pick (h := ?_) | refine Dq ?_ | refine Ds ?_ | refine XDi_gF (h := ?_) | refine XDi_gU (h := ?_) | refine X_draws (h := ?_))
    (refine XD_end (h := ?_); repeat (first | refine Zq ?_ | refine Zs ?_ | refine ZT ?_ | refine ZF ?_ | refine Zc ?_ | refine XO_gU (hk := ?_)))
    refine X_cond rfl (fun _ => ?_) (fun h => by cases h)
    repeat (first | refine Zq ?_ | refine Zs ?_ | refine ZT ?_ | refine ZF ?_ | refine Zc ?_ | refine XO_gU (hk := ?_))
    refine XE_fold (by repeat (first | exact FindAll.nil | exact Find.here | apply Find.there | apply FindAll.cons)) (Rs.fold (S := S)) ?_
    refine XE_fold (by repeat (first | exact FindAll.nil | exact Find.here | apply Find.there | apply FindAll.cons)) (Rg.fold (S := S)) ?_
    refine XE_ret (.inl rfl) (tells_tmps rfl rfl) ⟨_, ⟨rfl, rfl⟩, by ((try simp only [List.cons_append, List.nil_append]); repeat (first | exact ent_refl | refine ent_take (by repeat (first | exact Find.here | apply Find.there)) ?_ | refine ent_drop ?_))⟩
  repeat (first | refine XD_pick (h := ?_) | refine Dq ?_ | refine Ds ?_ | refine XDi_gF (h := ?_) | refine XDi_gU (h := ?_) | refine X_draws (h := ?_))
  refine XDi_either (hT := fun h => ?_) (hF := fun h => ?_) <;> simp only [decide_eq_true_eq, decide_eq_false_iff_not] at h
  · have hF : fitsS S mc ml at_ = false := by unfold fitsS; rw [if_pos (by omega)]
    rw [hF]
    repeat (first | refine XD_pick (h := ?_) | refine Dq ?_ | refine Ds ?_ | refine XDi_gF (h := ?_) | refine XDi_gU (h := ?_) | refine X_draws (h := ?_))
    (refine XD_head (h := ?_); first | refine XDi_gF (h := ?_) | refine XDi_gU (h := ?_))
    repeat (first | refine XD_pick (h := ?_) | refine Dq ?_ | refine Ds ?_ | refine XDi_gF (h := ?_) | refine XDi_gU (h := ?_) | refine X_draws (h := ?_))
    (refine XD_end (h := ?_); repeat (first | refine Zq ?_ | refine Zs ?_ | refine ZT ?_ | refine ZF ?_ | refine Zc ?_ | refine XO_gU (hk := ?_)))
    refine X_cond rfl (fun _ => ?_) (fun h => by cases h)
    repeat (first | refine Zq ?_ | refine Zs ?_ | refine ZT ?_ | refine ZF ?_ | refine Zc ?_ | refine XO_gU (hk := ?_))
    refine XE_fold (by repeat (first | exact FindAll.nil | exact Find.here | apply Find.there | apply FindAll.cons)) (Rs.fold (S := S)) ?_
    refine XE_fold (by repeat (first | exact FindAll.nil | exact Find.here | apply Find.there | apply FindAll.cons)) (Rg.fold (S := S)) ?_
    refine XE_ret (.inl rfl) (tells_tmps rfl rfl) ⟨_, ⟨rfl, rfl⟩, by ((try simp only [List.cons_append, List.nil_append]); repeat (first | exact ent_refl | refine ent_take (by repeat (first | exact Find.here | apply Find.there)) ?_ | refine ent_drop ?_))⟩
  repeat (first | refine XD_pick (h := ?_) | refine Dq ?_ | refine Ds ?_ | refine XDi_gF (h := ?_) | refine XDi_gU (h := ?_) | refine X_draws (h := ?_))
  refine XD_one (h := ?_)
  refine XDa_dvA (dv_call (plen_spec p1 s 1 o S.larges)) (hk := ?_)
  (rintro _ _ ⟨_, ⟨rfl, rfl⟩, rfl⟩; refine ⟨by (repeat (first | exact keeps_nil | exact keeps_fnil | refine keeps_skip (h := ?_) | refine keeps_takeQ (h := ?_))), ?_⟩)
  repeat (first | refine XD_pick (h := ?_) | refine Dq ?_ | refine Ds ?_ | refine XDi_gF (h := ?_) | refine XDi_gU (h := ?_) | refine X_draws (h := ?_))
  (refine XD_end (h := ?_); repeat (first | refine Zq ?_ | refine Zs ?_ | refine ZT ?_ | refine ZF ?_ | refine Zc ?_ | refine XO_gU (hk := ?_)))
  refine X_cond rfl (fun h => ?_) (fun h => ?_) <;> simp only [decide_eq_true_eq, decide_eq_false_iff_not] at h
  · have hF : fitsS S mc ml at_ = false := by unfold fitsS; rw [if_pos (by omega)]
    rw [hF]
    repeat (first | refine Zq ?_ | refine Zs ?_ | refine ZT ?_ | refine ZF ?_ | refine Zc ?_ | refine XO_gU (hk := ?_))
    refine XE_fold (by repeat (first | exact FindAll.nil | exact Find.here | apply Find.there | apply FindAll.cons)) (Rs.fold (S := S)) ?_
    refine XE_fold (by repeat (first | exact FindAll.nil | exact Find.here | apply Find.there | apply FindAll.cons)) (Rg.fold (S := S)) ?_
    refine XE_ret (.inl rfl) (tells_tmps rfl rfl) ⟨_, ⟨rfl, rfl⟩, by ((try simp only [List.cons_append, List.nil_append]); repeat (first | exact ent_refl | refine ent_take (by repeat (first | exact Find.here | apply Find.there)) ?_ | refine ent_drop ?_))⟩
  have hbad : ¬ (mc < 0 ∨ (S.parts.length : Int) < mc ∨ ml < 0 ∨ (S.larges.length : Int) < ml) := by omega
  repeat (first | refine Zq ?_ | refine Zs ?_ | refine ZT ?_ | refine ZF ?_ | refine Zc ?_ | refine XO_gU (hk := ?_))
  refine X_cond rfl (fun h => ?_) (fun h => ?_)
  · have h0 : mc = 0 := by simpa using h
    have hF : fitsS S mc ml at_ = (at_ == 0) := by unfold fitsS; rw [if_neg hbad, if_pos h0]
    rw [hF]
    repeat (first | refine Zq ?_ | refine Zs ?_ | refine ZT ?_ | refine ZF ?_ | refine Zc ?_ | refine XO_gU (hk := ?_))
    refine XE_fold (by repeat (first | exact FindAll.nil | exact Find.here | apply Find.there | apply FindAll.cons)) (Rs.fold (S := S)) ?_
    refine XE_fold (by repeat (first | exact FindAll.nil | exact Find.here | apply Find.there | apply FindAll.cons)) (Rg.fold (S := S)) ?_
    refine XE_ret (.inl rfl) (tells_tmps rfl rfl) ⟨_, ⟨rfl, rfl⟩, by ((try simp only [List.cons_append, List.nil_append]); repeat (first | exact ent_refl | refine ent_take (by repeat (first | exact Find.here | apply Find.there)) ?_ | refine ent_drop ?_))⟩
  · have h0 : ¬ mc = 0 := by simpa using h
    have hi : (mc - 1).toNat < S.parts.length := by omega
    have hg : S.parts.getD (mc.toNat - 1) (0, 0, 0, 0) = S.parts[(mc - 1).toNat] := by
      simp only [List.getD, show mc.toNat - 1 = (mc - 1).toNat from by omega, List.getElem?_eq_getElem hi, Option.getD_some]
    have hF : fitsS S mc ml at_ = (decide ((ofI S.parts[(mc - 1).toNat].1 S.parts[(mc - 1).toNat].2.1).1 ≤ at_) && decide (at_ ≤ S.parts[(mc - 1).toNat].2.2.1)) := by unfold fitsS; rw [if_neg hbad, if_neg h0, hg]
    rw [hF]
    have hget : S.parts[(mc - 1).toNat]? = some S.parts[(mc - 1).toNat] := List.getElem?_eq_getElem hi
    generalize S.parts[(mc - 1).toNat]'hi = q at hg hF hget ⊢
    refine X_slopen (E' := eRP) (a := a) (c := c) (xs := S.parts) (by (repeat (first | exact Find.here | apply Find.there))) (by omega) ?_
    rintro qb qo rfl
    repeat (first | refine Zq ?_ | refine Zs ?_ | refine ZT ?_ | refine ZF ?_ | refine Zc ?_ | refine XO_gU (hk := ?_))
    repeat (first | refine XD_pick (h := ?_) | refine Dq ?_ | refine Ds ?_ | refine XDi_gF (h := ?_) | refine XDi_gU (h := ?_) | refine X_draws (h := ?_))
    refine XD_one (h := ?_)
    refine XDa_dvA (dv_alloc (row := [.int .u64 0, .int .u64 0, .int .u64 0])) (hk := ?_)
    rintro _ _ ⟨b5, rfl, rfl⟩
    refine ⟨by (repeat (first | exact keeps_nil | exact keeps_fnil | refine keeps_skip (h := ?_) | refine keeps_takeQ (h := ?_))), ?_⟩
    repeat (first | refine XD_pick (h := ?_) | refine Dq ?_ | refine Ds ?_ | refine XDi_gF (h := ?_) | refine XDi_gU (h := ?_) | refine X_draws (h := ?_))
    refine XD_one (h := ?_)
    refine XDa_dvk0 (dv_storeW (vs := [.int .u64 (ofI q.1 q.2.1).1, .int .u64 q.2.2.1, .int .u64 q.2.2.2])) (K := _) (hk := ?_)
    (rintro _ _ rfl; refine ⟨by (repeat (first | exact keeps_nil | exact keeps_fnil | refine keeps_skip (h := ?_) | refine keeps_takeQ (h := ?_))), ?_⟩)
    (refine XD_end (h := ?_); repeat (first | refine Zq ?_ | refine Zs ?_ | refine ZT ?_ | refine ZF ?_ | refine Zc ?_ | refine XO_gU (hk := ?_)))
    refine XO_either (hT := fun h2 => ?_) (hF := fun h2 => ?_) <;> simp only [decide_eq_true_eq, decide_eq_false_iff_not] at h2
    · rw [decide_eq_true h2, Bool.true_and]
      repeat (first | refine Zq ?_ | refine Zs ?_ | refine ZT ?_ | refine ZF ?_ | refine Zc ?_ | refine XO_gU (hk := ?_))
      refine XE_fold (by repeat (first | exact FindAll.nil | exact Find.here | apply Find.there | apply FindAll.cons)) (Rs.fold (S := S)) ?_
      refine XE_fold (by repeat (first | exact FindAll.nil | exact Find.here | apply Find.there | apply FindAll.cons)) (Rg.fold (S := S)) ?_
      refine XE_ret (.inl rfl) (tells_tmps rfl rfl) ⟨_, ⟨rfl, rfl⟩, by ((try simp only [List.cons_append, List.nil_append]); repeat (first | exact ent_refl | refine ent_take (by repeat (first | exact Find.here | apply Find.there)) ?_ | refine ent_drop ?_))⟩
    · rw [decide_eq_false h2, Bool.false_and]
      repeat (first | refine Zq ?_ | refine Zs ?_ | refine ZT ?_ | refine ZF ?_ | refine Zc ?_ | refine XO_gU (hk := ?_))
      refine XE_fold (by repeat (first | exact FindAll.nil | exact Find.here | apply Find.there | apply FindAll.cons)) (Rs.fold (S := S)) ?_
      refine XE_fold (by repeat (first | exact FindAll.nil | exact Find.here | apply Find.there | apply FindAll.cons)) (Rg.fold (S := S)) ?_
      refine XE_ret (.inl rfl) (tells_tmps rfl rfl) ⟨_, ⟨rfl, rfl⟩, by ((try simp only [List.cons_append, List.nil_append]); repeat (first | exact ent_refl | refine ent_take (by repeat (first | exact Find.here | apply Find.there)) ?_ | refine ent_drop ?_))⟩
end Go.Proofs.YtamecmklcnohjaaGreat.Sep
namespace Go.Proofs.YtamecmklcnohjaaGreat.Sep
open Go.RowKit
set_option linter.unusedSimpArgs false
set_option linter.unusedVariables false
/-! regions: rewound -/
set_option maxHeartbeats 8000000
attribute [local irreducible] X XE XO XD XDi XDa PV RV DV pt base Spec Sl Mp Keeps Pg Kc Pgs Spc Ck XL XLi Pl Rs Rg
theorem rrew_ok (r s sb : Nat) {P : Int} {B : Nat} {o : Int} {C : Co} {m : Mm} {S : Sh} {oth : List (Int × Hd)} {mc ml at_ ob pd : Int} (hR : RInv P B o C m.f S oth) (hf : fitsS S mc ml at_ = true) (h0 : 0 ≤ at_) (h1 : at_ ≤ 18446744073709551615) :
    Spec Tryz.prog 21 [.pointer (some ⟨r, 0, none⟩), .agg #[.int .i64 mc, .int .i64 ml, .int .u64 at_, .int .u64 ob, .int .u64 pd]] [Rg r s o S, Ck s sb C, Spc sb P m]
      (fun v L => v = .int .i64 0 ∧ L = [Rg r s o (setTop (cutS S mc ml) at_ ob pd), Ck s sb (putsC C S mc ml), Spc sb P (rewM P m S mc ml at_)]) := by
  refine Spec.intro (IsEnt.out) Tryz.func21 rfl Tryz.ntmps21 (by simp) (fun w0 F => ?_)
  simp only [envOf, List.zipIdx, List.map, List.cons_append, List.nil_append, Nat.zero_add, Nat.reduceAdd]
  have hlen := hR.len
  have hPb := hR.P1
  have hs := rcheck_spec r s o S mc ml at_ ob pd hlen.1 hlen.2
  rw [hf] at hs
  obtain ⟨f1, f2, f3, f4, f5, f6⟩ := fits_bds hf
  repeat (first | refine Zq ?_ | refine Zs ?_ | refine ZT ?_ | refine ZF ?_ | refine Zc ?_ | refine XO_gU (hk := ?_))
  refine XO_dv dv_box (hk := ?_)
  rintro _ _ ⟨b3, rfl, rfl⟩
  repeat (first | refine Zq ?_ | refine Zs ?_ | refine ZT ?_ | refine ZF ?_ | refine Zc ?_ | refine XO_gU (hk := ?_))
  refine XO_call hs (hk := ?_)
  rintro _ _ ⟨rfl, rfl⟩
  repeat (first | refine Zq ?_ | refine Zs ?_ | refine ZT ?_ | refine ZF ?_ | refine Zc ?_ | refine XO_gU (hk := ?_))
  refine X_cond rfl (fun h => by cases h) (fun _ => ?_)
  refine X_open (A := Rg r s o S) (by (repeat (first | exact Find.here | apply Find.there))) Rg.open ?_
  rintro ⟨p0, p1⟩ -
  dsimp only [List.cons_append, List.nil_append]
  refine X_open (A := Rs r s p0 p1 S) (by (repeat (first | exact Find.here | apply Find.there))) Rs.open ?_
  rintro ⟨a, c⟩ -
  dsimp only [List.cons_append, List.nil_append]
  have hK1 := hR.k1
  have s1 := pcut_spec p1 s sb hK1 hR.hP hlen.2 (n := ml) f3
  obtain ⟨k1, k2⟩ := pcut_inv hK1 hR.hP hlen.2 ml.toNat
  have hK2 : KInv (cutC C (S.larges.drop ml.toNat)) (cutM P m (S.larges.drop ml.toNat)).f (plH 0 o 0 (S.parts.map runP) ++ (plH 1 o 0 (S.larges.take ml.toNat) ++ oth)) := by
    refine k1.perm ?_
    refine (List.Perm.of_eq (List.append_assoc _ _ _).symm).trans (((List.perm_append_comm).append_right oth).trans (List.Perm.of_eq (List.append_assoc _ _ _)))
  have s2 := pcut_spec p0 s sb hK2 k2 (by simp; exact hlen.1) (n := mc) f1
  have hC : putsC C S mc ml = cutC (cutC C (S.larges.drop ml.toNat)) ((S.parts.map runP).drop mc.toNat) := rfl
  unfold rewM
  rw [hC]
  repeat (first | refine Zq ?_ | refine Zs ?_ | refine ZT ?_ | refine ZF ?_ | refine Zc ?_ | refine XO_gU (hk := ?_))
  repeat (first | refine XD_pick (h := ?_) | refine Dq ?_ | refine Ds ?_ | refine XDi_gF (h := ?_) | refine XDi_gU (h := ?_) | refine X_draws (h := ?_))
  refine XD_one (h := ?_)
  refine XDa_dvA (dv_call s1) (hk := ?_)
  (rintro _ _ ⟨_, ⟨rfl, rfl⟩, rfl⟩; refine ⟨by (repeat (first | exact keeps_nil | exact keeps_fnil | refine keeps_skip (h := ?_) | refine keeps_takeQ (h := ?_))), ?_⟩)
  (refine XD_end (h := ?_); repeat (first | refine Zq ?_ | refine Zs ?_ | refine ZT ?_ | refine ZF ?_ | refine Zc ?_ | refine XO_gU (hk := ?_)))
  repeat (first | refine XD_pick (h := ?_) | refine Dq ?_ | refine Ds ?_ | refine XDi_gF (h := ?_) | refine XDi_gU (h := ?_) | refine X_draws (h := ?_))
  refine XD_one (h := ?_)
  refine XDa_dvA (dv_call s2) (hk := ?_)
  (rintro _ _ ⟨_, ⟨rfl, rfl⟩, rfl⟩; refine ⟨by (repeat (first | exact keeps_nil | exact keeps_fnil | refine keeps_skip (h := ?_) | refine keeps_takeQ (h := ?_))), ?_⟩)
  (refine XD_end (h := ?_); repeat (first | refine Zq ?_ | refine Zs ?_ | refine ZT ?_ | refine ZF ?_ | refine Zc ?_ | refine XO_gU (hk := ?_)))
  clear s1 s2
  generalize cutM P (cutM P m (S.larges.drop ml.toNat)) ((S.parts.map runP).drop mc.toNat) = m1
  generalize cutC (cutC C (S.larges.drop ml.toNat)) ((S.parts.map runP).drop mc.toNat) = C1
  refine X_fact (A := Sl eRP a c S.parts) (by (repeat (first | exact Find.here | apply Find.there))) Sl.cap (fun hcap => ?_)
  repeat (first | refine Zq ?_ | refine Zs ?_ | refine ZT ?_ | refine ZF ?_ | refine Zc ?_ | refine XO_gU (hk := ?_))
  repeat (first | refine XD_pick (h := ?_) | refine Dq ?_ | refine Ds ?_ | refine XDi_gF (h := ?_) | refine XDi_gU (h := ?_) | refine X_draws (h := ?_))
  refine XD_one (h := ?_)
  refine XDa_dvk0 dv_store (K := _) (hk := ?_)
  (rintro _ _ rfl; refine ⟨by (repeat (first | exact keeps_nil | exact keeps_fnil | refine keeps_skip (h := ?_) | refine keeps_takeQ (h := ?_))), ?_⟩)
  (refine XD_end (h := ?_); repeat (first | refine Zq ?_ | refine Zs ?_ | refine ZT ?_ | refine ZF ?_ | refine Zc ?_ | refine XO_gU (hk := ?_)))
  have hln : mc.toNat = (cutS S mc ml).parts.length := by simp [cutS]; omega
  have hruns := cut_runs S mc ml
  have hlar : (cutS S mc ml).larges = S.larges.take ml.toNat := rfl
  refine XO_conv (fun _ => SL_take (E' := eRP) (a := a) (c := c) (xs := S.parts) mc.toNat (by (repeat (first | exact Find.here | apply Find.there)))) ?_
  refine XO_fold (by repeat (first | exact FindAll.nil | exact Find.here | apply Find.there | apply FindAll.cons)) (Rs.foldN (r := r) (s := s) (p0 := p0) (p1 := p1) (S := cutS S mc ml) (a := a) (c := c) (n := mc.toNat) hln) ?_
  have hsl : (cutS S mc ml).parts.length ≤ 4611686018427387904 := by omega
  have htop : at_ < topAt (cutS S mc ml) → 0 ≤ topAt (cutS S mc ml) ∧ topAt (cutS S mc ml) ≤ P * 4096 := fun hlt => by
    have hmc : mc ≠ 0 := by
      intro h
      have h2 := f5 h
      have : topAt (cutS S mc ml) = 0 := by unfold topAt cutS; rw [h]; rfl
      omega
    obtain ⟨e1, e2, e3, e4⟩ := f6 hmc
    have hm1 : lastP (cutS S mc ml).parts ∈ S.parts := List.mem_of_mem_take (last_mem e1)
    have hrun := hR.S.pi.parts _ (List.mem_map.2 ⟨_, hm1, rfl⟩)
    have hpo := hR.po _ hm1
    unfold RunOk runP at hrun
    unfold PtOk at hpo
    unfold topAt
    simp only at hrun
    omega
  clear hln f6
  generalize cutS S mc ml = S1 at hruns hlar hsl htop ⊢
  refine XO_open (A := Rs r s p0 p1 S1) (by (repeat (first | exact Find.here | apply Find.there))) Rs.open ?_
  rintro ⟨a1, c1⟩ -
  dsimp only [List.cons_append, List.nil_append]
  refine XO_call (rtop_spec r s p0 p1 S1 a1 c1 hsl) (hk := ?_)
  rintro _ _ ⟨cb, oo, A, G, rfl, hCur, hfold, rfl⟩
  repeat (first | refine Zq ?_ | refine Zs ?_ | refine ZT ?_ | refine ZF ?_ | refine Zc ?_ | refine XO_gU (hk := ?_))
  refine XO_rv (hCur.load1 (by (repeat (first | exact Find.here | apply Find.there))) rfl) (hk := ?_)
  refine XO_fold (by repeat (first | exact FindAll.nil | exact Find.here | apply Find.there | apply FindAll.cons)) (hfold (topAt S1) S1.obj S1.pad) ?_
  rw [setTop_self]
  clear hCur hfold
  refine XO_open (A := Rs r s p0 p1 S1) (by (repeat (first | exact Find.here | apply Find.there))) Rs.open ?_
  rintro ⟨a2, c2⟩ -
  dsimp only [List.cons_append, List.nil_append]
  repeat (first | refine Zq ?_ | refine Zs ?_ | refine ZT ?_ | refine ZF ?_ | refine Zc ?_ | refine XO_gU (hk := ?_))
  refine X_cond rfl (fun hlt => ?_) (fun hlt => ?_) <;> simp only [decide_eq_true_eq, decide_eq_false_iff_not] at hlt
  · rw [if_pos hlt]
    have ht := htop hlt
    have hz := Zero_spec sb P m1 at_ (topAt S1 - at_) (by omega) hPb.2 h0 h1 (by omega) (by omega)
    unfold zeroV at hz
    rw [if_pos (by omega)] at hz
    repeat (first | refine Zq ?_ | refine Zs ?_ | refine ZT ?_ | refine ZF ?_ | refine Zc ?_ | refine XO_gU (hk := ?_))
    repeat (first | refine XD_pick (h := ?_) | refine Dq ?_ | refine Ds ?_ | refine XDi_gF (h := ?_) | refine XDi_gU (h := ?_) | refine X_draws (h := ?_))
    refine XD_one (h := ?_)
    refine XDa_dvA (dv_call (kspace_spec s sb C1)) (hk := ?_)
    (rintro _ _ ⟨_, ⟨rfl, rfl⟩, rfl⟩; refine ⟨by (repeat (first | exact keeps_nil | exact keeps_fnil | refine keeps_skip (h := ?_) | refine keeps_takeQ (h := ?_))), ?_⟩)
    repeat (first | refine XD_pick (h := ?_) | refine Dq ?_ | refine Ds ?_ | refine XDi_gF (h := ?_) | refine XDi_gU (h := ?_) | refine X_draws (h := ?_))
    refine XD_one (h := ?_)
    refine XDa_dvA (dv_call hz) (hk := ?_)
    (rintro _ _ ⟨_, ⟨rfl, rfl⟩, rfl⟩; refine ⟨by (repeat (first | exact keeps_nil | exact keeps_fnil | refine keeps_skip (h := ?_) | refine keeps_takeQ (h := ?_))), ?_⟩)
    (refine XD_end (h := ?_); repeat (first | refine Zq ?_ | refine Zs ?_ | refine ZT ?_ | refine ZF ?_ | refine Zc ?_ | refine XO_gU (hk := ?_)))
    repeat (first | refine Zq ?_ | refine Zs ?_ | refine ZT ?_ | refine ZF ?_ | refine Zc ?_ | refine XO_gU (hk := ?_))
    repeat (first | refine XD_pick (h := ?_) | refine Dq ?_ | refine Ds ?_ | refine XDi_gF (h := ?_) | refine XDi_gU (h := ?_) | refine X_draws (h := ?_))
    refine XD_one (h := ?_)
    refine XDa_dvA (dv_call (rtop_spec r s p0 p1 S1 a2 c2 hsl)) (hk := ?_)
    rintro _ _ ⟨_, ⟨cb2, o2, A2, G2, rfl, hCur2, hfold2, rfl⟩, rfl⟩
    refine ⟨by (repeat (first | exact keeps_nil | exact keeps_fnil | refine keeps_skip (h := ?_) | refine keeps_takeQ (h := ?_))), ?_⟩
    repeat (first | refine XD_pick (h := ?_) | refine Dq ?_ | refine Ds ?_ | refine XDi_gF (h := ?_) | refine XDi_gU (h := ?_) | refine X_draws (h := ?_))
    refine XD_one (h := ?_)
    refine XDa_dvk0 (hCur2.store1 (a' := at_) (by (repeat (first | exact Find.here | apply Find.there))) rfl rfl) (K := _) (hk := ?_)
    (rintro _ _ rfl; refine ⟨by (repeat (first | exact keeps_nil | exact keeps_fnil | refine keeps_skip (h := ?_) | refine keeps_takeQ (h := ?_))), ?_⟩)
    (refine XD_end (h := ?_); repeat (first | refine Zq ?_ | refine Zs ?_ | refine ZT ?_ | refine ZF ?_ | refine Zc ?_ | refine XO_gU (hk := ?_)))
    refine XO_dv0 (dv_storeP (vs := [.int .u64 ob, .int .u64 pd])) (hk := ?_)
    rintro _ _ rfl
    refine XO_fold (by repeat (first | exact FindAll.nil | exact Find.here | apply Find.there | apply FindAll.cons)) (hfold2 at_ ob pd) ?_
    rw [← hruns, ← hlar]
    refine XO_fold (by repeat (first | exact FindAll.nil | exact Find.here | apply Find.there | apply FindAll.cons)) (Rg.foldT (r := r) (s := s) (o := o) (S := S1) (p0 := p0) (p1 := p1) (a := at_) (b := ob) (c := pd)) ?_
    repeat (first | refine Zq ?_ | refine Zs ?_ | refine ZT ?_ | refine ZF ?_ | refine Zc ?_ | refine XO_gU (hk := ?_))
    refine XE_ret (.inl rfl) (tells_tmps rfl rfl) ⟨_, ⟨rfl, rfl⟩, by ((try simp only [List.cons_append, List.nil_append]); repeat (first | exact ent_refl | refine ent_take (by repeat (first | exact Find.here | apply Find.there)) ?_ | refine ent_drop ?_))⟩
  · rw [if_neg hlt]
    repeat (first | refine Zq ?_ | refine Zs ?_ | refine ZT ?_ | refine ZF ?_ | refine Zc ?_ | refine XO_gU (hk := ?_))
    repeat (first | refine XD_pick (h := ?_) | refine Dq ?_ | refine Ds ?_ | refine XDi_gF (h := ?_) | refine XDi_gU (h := ?_) | refine X_draws (h := ?_))
    refine XD_one (h := ?_)
    refine XDa_dvA (dv_call (rtop_spec r s p0 p1 S1 a2 c2 hsl)) (hk := ?_)
    rintro _ _ ⟨_, ⟨cb2, o2, A2, G2, rfl, hCur2, hfold2, rfl⟩, rfl⟩
    refine ⟨by (repeat (first | exact keeps_nil | exact keeps_fnil | refine keeps_skip (h := ?_) | refine keeps_takeQ (h := ?_))), ?_⟩
    repeat (first | refine XD_pick (h := ?_) | refine Dq ?_ | refine Ds ?_ | refine XDi_gF (h := ?_) | refine XDi_gU (h := ?_) | refine X_draws (h := ?_))
    refine XD_one (h := ?_)
    refine XDa_dvk0 (hCur2.store1 (a' := at_) (by (repeat (first | exact Find.here | apply Find.there))) rfl rfl) (K := _) (hk := ?_)
    (rintro _ _ rfl; refine ⟨by (repeat (first | exact keeps_nil | exact keeps_fnil | refine keeps_skip (h := ?_) | refine keeps_takeQ (h := ?_))), ?_⟩)
    (refine XD_end (h := ?_); repeat (first | refine Zq ?_ | refine Zs ?_ | refine ZT ?_ | refine ZF ?_ | refine Zc ?_ | refine XO_gU (hk := ?_)))
    refine XO_dv0 (dv_storeP (vs := [.int .u64 ob, .int .u64 pd])) (hk := ?_)
    rintro _ _ rfl
    refine XO_fold (by repeat (first | exact FindAll.nil | exact Find.here | apply Find.there | apply FindAll.cons)) (hfold2 at_ ob pd) ?_
    rw [← hruns, ← hlar]
    refine XO_fold (by repeat (first | exact FindAll.nil | exact Find.here | apply Find.there | apply FindAll.cons)) (Rg.foldT (r := r) (s := s) (o := o) (S := S1) (p0 := p0) (p1 := p1) (a := at_) (b := ob) (c := pd)) ?_
    repeat (first | refine Zq ?_ | refine Zs ?_ | refine ZT ?_ | refine ZF ?_ | refine Zc ?_ | refine XO_gU (hk := ?_))
    refine XE_ret (.inl rfl) (tells_tmps rfl rfl) ⟨_, ⟨rfl, rfl⟩, by ((try simp only [List.cons_append, List.nil_append]); repeat (first | exact ent_refl | refine ent_take (by repeat (first | exact Find.here | apply Find.there)) ?_ | refine ent_drop ?_))⟩
end Go.Proofs.YtamecmklcnohjaaGreat.Sep
namespace Go.Proofs.YtamecmklcnohjaaGreat.Sep
open Go.RowKit
set_option linter.unusedSimpArgs false
set_option linter.unusedVariables false
/-! regions: what they use; their chunks; fresh ones -/
/-- An element of an array that is at hand. -/
theorem pv_indexAg {P : Program} {T el len s by' : Nat} {ty : TypeId} {e : Env} {x i : Operand} {kk : IntKind} {iv : Int} {z v : Value} {vs : List Value} {dd : TypeDesc} [hu : TU P T (.array len el)] [hft : TU P el dd] [hi : TI P el z s by'] (hg : aggD dd = false := by rfl)
    (hx : ev e x = some (.agg vs.toArray) := by rfl) (hiv : ev e i = some (.int kk iv) := by rfl) (h0 : 0 ≤ iv := by omega) (h1 : iv < (len : Int) := by omega) (hv : vs[iv.toNat * s]? = some v := by rfl) : PV P (.index T x i) ty e v := fun tm w pos aft h => by
  have h2 : (underlying T).run P w = .ok (.array len el) w := run_und hu.out
  have h6 : vs.toArray[iv.toNat * s]? = some v := by simpa using hv
  simp [execOp, Instr.index, ev_sound h hx, ev_sound h hiv, asIntOf, h2, h0, h1, run_size hi, part, run_isAgg hft.out, hg, hv]
abbrev meterV (S : Sh) : Value := .agg #[.int .i64 (shPages S), .int .i64 0, .int .i64 0, .int .i64 0, .int .u64 S.obj, .int .u64 S.pad, .int .u64 (shHdr S), .int .u64 (IntKind.u64.wrap (shPages S * 4096 - shHdr S - S.obj - S.pad))]
theorem RInv.bd {P : Int} {B : Nat} {o : Int} {C : Co} {m : Int → Int} {s : Sh} {oth : List (Int × Hd)} (h : RInv P B o C m s oth) : Bd (s.parts.map runP) ∧ Bd s.larges := by
  have hP := h.P1
  refine ⟨fun r hr => ?_, fun r hr => ?_⟩
  · have := h.S.pi.parts r hr; unfold RunOk at this; omega
  · have := h.S.pi.larges r hr; unfold RunOk at this; omega
theorem tot_bd0 : ∀ {l : List (Int × Int)}, Bd l → l.length ≤ 1048576 → 0 ≤ totI l ∧ totI l ≤ 1099511627776 := by
  have key : ∀ l : List (Int × Int), Bd l → 0 ≤ totI l ∧ totI l ≤ 1048576 * (l.length : Int) := by
    intro l
    induction l with
    | nil => intro _; simp [totI]
    | cons r l ih =>
      intro h
      have h1 := h r (by simp)
      have h2 := ih fun q hq => h q (by simp [hq])
      rw [tot_cons]; simp; omega
  intro l h hl
  have := key l h
  omega
def mH (S : Sh) : Nat → Int
  | 0 => 0
  | 1 => totI (S.parts.map runP)
  | _ => totI (S.parts.map runP) + totI S.larges
def mN (S : Sh) : Nat → Int
  | 0 => 0
  | 1 => 32 * (S.parts.length : Int)
  | _ => 32 * (S.parts.length : Int) + 32 * (S.larges.length : Int)
inductive NewSt
  | a
  | b (p : Nat)
  | c (p q : Nat)
def NewSt.k : NewSt → Int
  | .a => 0
  | .b _ => 1
  | .c _ _ => 2
def NewSt.n : NewSt → Nat
  | .a => 2
  | .b _ => 1
  | .c _ _ => 0
def NewSt.L (r s : Nat) (o : Int) : NewSt → List HP
  | .a => [pt r (.cells [.int .u64 0, .int .u64 0, .pointer (some ⟨s, 0, none⟩), .pointer none, .pointer none, .slice none 0 0].toArray 115 (0, 0))]
  | .b p => [pt r (.cells [.int .u64 0, .int .u64 0, .pointer (some ⟨s, 0, none⟩), .pointer (some ⟨p, 0, none⟩), .pointer none, .slice none 0 0].toArray 115 (0, 0)), Pl p s 0 o []]
  | .c p q => [pt r (.cells [.int .u64 0, .int .u64 0, .pointer (some ⟨s, 0, none⟩), .pointer (some ⟨p, 0, none⟩), .pointer (some ⟨q, 0, none⟩), .slice none 0 0].toArray 115 (0, 0)), Pl p s 0 o [], Pl q s 1 o []]
set_option maxHeartbeats 8000000
attribute [local irreducible] X XE XO XD XDi XDa PV RV DV pt base Spec Sl Mp Keeps Pg Kc Pgs Spc Ck XL XLi Pl Rs Rg
theorem rnew_spec (s : Nat) (o : Int) : Spec Tryz.prog 16 [.pointer (some ⟨s, 0, none⟩), .int .u64 o] [] (fun v L => ∃ r, v = .pointer (some ⟨r, 0, none⟩) ∧ L = [Rg r s o emptySh]) := by
  refine Spec.intro (IsEnt.out) Tryz.func16 rfl Tryz.ntmps16 (by simp) (fun w0 F => ?_)
  simp only [envOf, List.zipIdx, List.map, List.cons_append, List.nil_append, Nat.zero_add, Nat.reduceAdd]
  repeat (first | refine Zq ?_ | refine Zs ?_ | refine ZT ?_ | refine ZF ?_ | refine Zc ?_ | refine XO_gU (hk := ?_))
  refine XO_pv (pv_buildG [.int .u64 0, .int .u64 0, .pointer (some ⟨s, 0, none⟩), .pointer none, .pointer none, .slice none 0 0]) (hk := ?_)
  repeat (first | refine Zq ?_ | refine Zs ?_ | refine ZT ?_ | refine ZF ?_ | refine Zc ?_ | refine XO_gU (hk := ?_))
  refine XO_dv dv_box (hk := ?_)
  rintro _ _ ⟨r, rfl, rfl⟩
  repeat (first | refine Zq ?_ | refine Zs ?_ | refine ZT ?_ | refine ZF ?_ | refine Zc ?_ | refine XO_gU (hk := ?_))
  refine X_loop (ι := NewSt) (fun _ => True) (fun q => [(0, .pointer (some ⟨s, 0, none⟩)), (1, .int .u64 o), (5, .pointer (some ⟨r, 0, none⟩)), (10, .int .i64 q.k)]) (fun q => q.L r s o ++ F) (fun q => q.n) .a trivial ?_ (by show ∀ H, _ → SL (pt r _ :: F) H; ((try simp only [List.cons_append, List.nil_append]); repeat (first | exact ent_refl | refine ent_take (by repeat (first | exact Find.here | apply Find.there)) ?_ | refine ent_drop ?_))) ?_
  · (repeat (first | exact Env.sub_nil _ | refine Env.sub_cons rfl ?_))
  rintro (_ | p | ⟨p, q⟩) -
  · simp only [NewSt.L, NewSt.k, NewSt.n, List.cons_append, List.nil_append]
    repeat (first | refine Zq ?_ | refine Zs ?_ | refine ZT ?_ | refine ZF ?_ | refine Zc ?_ | refine XO_gU (hk := ?_))
    refine X_cond rfl (fun _ => ?_) (fun h => by cases h)
    repeat (first | refine Zq ?_ | refine Zs ?_ | refine ZT ?_ | refine ZF ?_ | refine Zc ?_ | refine XO_gU (hk := ?_))
    repeat (first | refine XD_pick (h := ?_) | refine Dq ?_ | refine Ds ?_ | refine XDi_gF (h := ?_) | refine XDi_gU (h := ?_) | refine X_draws (h := ?_))
    refine XD_one (h := ?_)
    refine XDa_dvA (dv_call (plnew_spec s 0 o)) (hk := ?_)
    rintro _ _ ⟨_, ⟨p, rfl, rfl⟩, rfl⟩
    refine ⟨by (repeat (first | exact keeps_nil | exact keeps_fnil | refine keeps_skip (h := ?_) | refine keeps_takeQ (h := ?_))), ?_⟩
    repeat (first | refine XD_pick (h := ?_) | refine Dq ?_ | refine Ds ?_ | refine XDi_gF (h := ?_) | refine XDi_gU (h := ?_) | refine X_draws (h := ?_))
    refine XD_one (h := ?_)
    refine XDa_dvk0 dv_store (K := _) (hk := ?_)
    (rintro _ _ rfl; refine ⟨by (repeat (first | exact keeps_nil | exact keeps_fnil | refine keeps_skip (h := ?_) | refine keeps_takeQ (h := ?_))), ?_⟩)
    (refine XD_end (h := ?_); repeat (first | refine Zq ?_ | refine Zs ?_ | refine ZT ?_ | refine ZF ?_ | refine Zc ?_ | refine XO_gU (hk := ?_)))
    exact X_round (.b p) trivial (by show 1 < 2; decide) (by (repeat (first | exact Env.sub_nil _ | refine Env.sub_cons rfl ?_))) (by show ∀ H, _ → SL (pt r _ :: Pl p s 0 o [] :: F) H; ((try simp only [List.cons_append, List.nil_append]); repeat (first | exact ent_refl | refine ent_take (by repeat (first | exact Find.here | apply Find.there)) ?_ | refine ent_drop ?_)))
  · simp only [NewSt.L, NewSt.k, NewSt.n, List.cons_append, List.nil_append]
    repeat (first | refine Zq ?_ | refine Zs ?_ | refine ZT ?_ | refine ZF ?_ | refine Zc ?_ | refine XO_gU (hk := ?_))
    refine X_cond rfl (fun _ => ?_) (fun h => by cases h)
    repeat (first | refine Zq ?_ | refine Zs ?_ | refine ZT ?_ | refine ZF ?_ | refine Zc ?_ | refine XO_gU (hk := ?_))
    repeat (first | refine XD_pick (h := ?_) | refine Dq ?_ | refine Ds ?_ | refine XDi_gF (h := ?_) | refine XDi_gU (h := ?_) | refine X_draws (h := ?_))
    refine XD_one (h := ?_)
    refine XDa_dvA (dv_call (plnew_spec s 1 o)) (hk := ?_)
    rintro _ _ ⟨_, ⟨q, rfl, rfl⟩, rfl⟩
    refine ⟨by (repeat (first | exact keeps_nil | exact keeps_fnil | refine keeps_skip (h := ?_) | refine keeps_takeQ (h := ?_))), ?_⟩
    repeat (first | refine XD_pick (h := ?_) | refine Dq ?_ | refine Ds ?_ | refine XDi_gF (h := ?_) | refine XDi_gU (h := ?_) | refine X_draws (h := ?_))
    refine XD_one (h := ?_)
    refine XDa_dvk0 dv_store (K := _) (hk := ?_)
    (rintro _ _ rfl; refine ⟨by (repeat (first | exact keeps_nil | exact keeps_fnil | refine keeps_skip (h := ?_) | refine keeps_takeQ (h := ?_))), ?_⟩)
    (refine XD_end (h := ?_); repeat (first | refine Zq ?_ | refine Zs ?_ | refine ZT ?_ | refine ZF ?_ | refine Zc ?_ | refine XO_gU (hk := ?_)))
    exact X_round (.c p q) trivial (by show 0 < 1; decide) (by (repeat (first | exact Env.sub_nil _ | refine Env.sub_cons rfl ?_))) (by show ∀ H, _ → SL (pt r _ :: Pl p s 0 o [] :: Pl q s 1 o [] :: F) H; ((try simp only [List.cons_append, List.nil_append]); repeat (first | exact ent_refl | refine ent_take (by repeat (first | exact Find.here | apply Find.there)) ?_ | refine ent_drop ?_)))
  · simp only [NewSt.L, NewSt.k, NewSt.n, List.cons_append, List.nil_append]
    repeat (first | refine Zq ?_ | refine Zs ?_ | refine ZT ?_ | refine ZF ?_ | refine Zc ?_ | refine XO_gU (hk := ?_))
    refine X_cond rfl (fun h => by cases h) (fun _ => ?_)
    repeat (first | refine Zq ?_ | refine Zs ?_ | refine ZT ?_ | refine ZF ?_ | refine Zc ?_ | refine XO_gU (hk := ?_))
    refine XE_conv (fun _ h => SL_nilSl eRP h) ?_
    refine XE_fold (by repeat (first | exact FindAll.nil | exact Find.here | apply Find.there | apply FindAll.cons)) (Rs.fold (r := r) (s := s) (p0 := p) (p1 := q) (S := emptySh) (a := none) (c := 0)) ?_
    refine XE_fold (by repeat (first | exact FindAll.nil | exact Find.here | apply Find.there | apply FindAll.cons)) (Rg.fold (r := r) (s := s) (o := o) (S := emptySh) (p0 := p) (p1 := q)) ?_
    refine XE_ret (.inl rfl) (tells_tmps rfl rfl) ⟨_, ⟨r, rfl, rfl⟩, by ((try simp only [List.cons_append, List.nil_append]); repeat (first | exact ent_refl | refine ent_take (by repeat (first | exact Find.here | apply Find.there)) ?_ | refine ent_drop ?_))⟩
theorem rmeter_spec (r s : Nat) (o : Int) (S : Sh) (hl : S.parts.length ≤ 1048576) (hl2 : S.larges.length ≤ 1048576) (hB0 : Bd (S.parts.map runP)) (hB1 : Bd S.larges) : Spec Tryz.prog 27 [.pointer (some ⟨r, 0, none⟩)] [Rg r s o S] (fun v L => v = meterV S ∧ L = [Rg r s o S]) := by
  refine Spec.intro (IsEnt.out) Tryz.func27 rfl Tryz.ntmps27 (by simp) (fun w0 F => ?_)
  simp only [envOf, List.zipIdx, List.map, List.cons_append, List.nil_append, Nat.zero_add, Nat.reduceAdd]
  have hml : (S.parts.map runP).length = S.parts.length := List.length_map ..
  have ht0 := tot_bd0 hB0 (by omega)
  have ht1 := tot_bd0 hB1 hl2
  repeat (first | refine Zq ?_ | refine Zs ?_ | refine ZT ?_ | refine ZF ?_ | refine Zc ?_ | refine XO_gU (hk := ?_))
  refine XO_dv dv_alloc (hk := ?_)
  rintro _ _ ⟨gb, rfl, rfl⟩
  repeat (first | refine Zq ?_ | refine Zs ?_ | refine ZT ?_ | refine ZF ?_ | refine Zc ?_ | refine XO_gU (hk := ?_))
  refine X_cond rfl (fun h => by cases h) (fun _ => ?_)
  refine X_open (A := Rg r s o S) (by (repeat (first | exact Find.here | apply Find.there))) Rg.open ?_
  rintro ⟨p0, p1⟩ -
  dsimp only [List.cons_append, List.nil_append]
  refine X_open (A := Rs r s p0 p1 S) (by (repeat (first | exact Find.here | apply Find.there))) Rs.open ?_
  rintro ⟨a, c⟩ -
  dsimp only [List.cons_append, List.nil_append]
  repeat (first | refine Zq ?_ | refine Zs ?_ | refine ZT ?_ | refine ZF ?_ | refine Zc ?_ | refine XO_gU (hk := ?_))
  repeat (first | refine XD_pick (h := ?_) | refine Dq ?_ | refine Ds ?_ | refine XDi_gF (h := ?_) | refine XDi_gU (h := ?_) | refine X_draws (h := ?_))
  refine XDi_pvA (pv_buildG [.int .i64 0, .int .i64 0, .int .i64 0, .int .i64 0, .int .u64 S.obj, .int .u64 S.pad, .int .u64 0, .int .u64 0]) (h := ?_)
  repeat (first | refine XD_pick (h := ?_) | refine Dq ?_ | refine Ds ?_ | refine XDi_gF (h := ?_) | refine XDi_gU (h := ?_) | refine X_draws (h := ?_))
  refine XD_one (h := ?_)
  refine XDa_dvA (dv_alloc (row := [.int .i64 0, .int .i64 0, .int .i64 0, .int .i64 0, .int .u64 0, .int .u64 0, .int .u64 0, .int .u64 0])) (hk := ?_)
  rintro _ _ ⟨mb, rfl, rfl⟩
  refine ⟨by (repeat (first | exact keeps_nil | exact keeps_fnil | refine keeps_skip (h := ?_) | refine keeps_takeQ (h := ?_))), ?_⟩
  repeat (first | refine XD_pick (h := ?_) | refine Dq ?_ | refine Ds ?_ | refine XDi_gF (h := ?_) | refine XDi_gU (h := ?_) | refine X_draws (h := ?_))
  refine XD_one (h := ?_)
  refine XDa_dvk0 dv_storeW (K := _) (hk := ?_)
  (rintro _ _ rfl; refine ⟨by (repeat (first | exact keeps_nil | exact keeps_fnil | refine keeps_skip (h := ?_) | refine keeps_takeQ (h := ?_))), ?_⟩)
  (refine XD_end (h := ?_); repeat (first | refine Zq ?_ | refine Zs ?_ | refine ZT ?_ | refine ZF ?_ | refine Zc ?_ | refine XO_gU (hk := ?_)))
  refine X_loop (ι := Nat) (fun j => j ≤ 2) (fun j => [(2, .pointer (some ⟨gb, 0, none⟩)), (3, .pointer (some ⟨mb, 0, none⟩)), (23, .agg #[.pointer (some ⟨p0, 0, none⟩), .pointer (some ⟨p1, 0, none⟩)]), (24, .int .i64 (j : Int))])
    (fun j => pt mb (.cells [.int .i64 (mH S j), .int .i64 0, .int .i64 0, .int .i64 0, .int .u64 S.obj, .int .u64 S.pad, .int .u64 (mN S j), .int .u64 0].toArray 51 (0, 0)) :: pt gb (.cells [.int .i64 0, .int .i64 0, .int .i64 0, .int .i64 0, .int .u64 0, .int .u64 0, .int .u64 0, .int .u64 0].toArray 51 (0, 0)) :: pt r (.cells (rgRow s p0 p1 S.obj S.pad a S.parts.length c).toArray 115 (0, 0)) :: Sl eRP a c S.parts :: Pl p0 s 0 o (S.parts.map runP) :: Pl p1 s 1 o S.larges :: F) (fun j => 2 - j) 0 (by decide) ?_ (by simp only [mH, mN]; ((try simp only [List.cons_append, List.nil_append]); repeat (first | exact ent_refl | refine ent_take (by repeat (first | exact Find.here | apply Find.there)) ?_ | refine ent_drop ?_))) ?_
  · (repeat (first | exact Env.sub_nil _ | refine Env.sub_cons rfl ?_))
  intro j hj
  rcases j with _ | _ | _ | j
  · simp only [mH, mN]
    repeat (first | refine Zq ?_ | refine Zs ?_ | refine ZT ?_ | refine ZF ?_ | refine Zc ?_ | refine XO_gU (hk := ?_))
    refine X_cond rfl (fun _ => ?_) (fun h => by cases h)
    repeat (first | refine Zq ?_ | refine Zs ?_ | refine ZT ?_ | refine ZF ?_ | refine Zc ?_ | refine XO_gU (hk := ?_))
    refine XO_pv (pv_indexAg (vs := [.pointer (some ⟨p0, 0, none⟩), .pointer (some ⟨p1, 0, none⟩)]) (v := .pointer (some ⟨p0, 0, none⟩))) (hk := ?_)
    repeat (first | refine Zq ?_ | refine Zs ?_ | refine ZT ?_ | refine ZF ?_ | refine Zc ?_ | refine XO_gU (hk := ?_))
    repeat (first | refine XD_pick (h := ?_) | refine Dq ?_ | refine Ds ?_ | refine XDi_gF (h := ?_) | refine XDi_gU (h := ?_) | refine X_draws (h := ?_))
    refine XD_one (h := ?_)
    refine XDa_dvA (dv_call (plpages_spec p0 s 0 o (S.parts.map runP) (by omega) hB0)) (hk := ?_)
    (rintro _ _ ⟨_, ⟨rfl, rfl⟩, rfl⟩; refine ⟨by (repeat (first | exact keeps_nil | exact keeps_fnil | refine keeps_skip (h := ?_) | refine keeps_takeQ (h := ?_))), ?_⟩)
    repeat (first | refine XD_pick (h := ?_) | refine Dq ?_ | refine Ds ?_ | refine XDi_gF (h := ?_) | refine XDi_gU (h := ?_) | refine X_draws (h := ?_))
    refine XD_one (h := ?_)
    refine XDa_dvk0 dv_store (K := _) (hk := ?_)
    (rintro _ _ rfl; refine ⟨by (repeat (first | exact keeps_nil | exact keeps_fnil | refine keeps_skip (h := ?_) | refine keeps_takeQ (h := ?_))), ?_⟩)
    (refine XD_end (h := ?_); repeat (first | refine Zq ?_ | refine Zs ?_ | refine ZT ?_ | refine ZF ?_ | refine Zc ?_ | refine XO_gU (hk := ?_)))
    repeat (first | refine XD_pick (h := ?_) | refine Dq ?_ | refine Ds ?_ | refine XDi_gF (h := ?_) | refine XDi_gU (h := ?_) | refine X_draws (h := ?_))
    refine XD_one (h := ?_)
    refine XDa_dvA (dv_call (plen_spec p0 s 0 o (S.parts.map runP))) (hk := ?_)
    (rintro _ _ ⟨_, ⟨rfl, rfl⟩, rfl⟩; refine ⟨by (repeat (first | exact keeps_nil | exact keeps_fnil | refine keeps_skip (h := ?_) | refine keeps_takeQ (h := ?_))), ?_⟩)
    rw [hml]
    repeat (first | refine XD_pick (h := ?_) | refine Dq ?_ | refine Ds ?_ | refine XDi_gF (h := ?_) | refine XDi_gU (h := ?_) | refine X_draws (h := ?_))
    refine XD_one (h := ?_)
    refine XDa_dvk0 dv_store (K := _) (hk := ?_)
    (rintro _ _ rfl; refine ⟨by (repeat (first | exact keeps_nil | exact keeps_fnil | refine keeps_skip (h := ?_) | refine keeps_takeQ (h := ?_))), ?_⟩)
    (refine XD_end (h := ?_); repeat (first | refine Zq ?_ | refine Zs ?_ | refine ZT ?_ | refine ZF ?_ | refine Zc ?_ | refine XO_gU (hk := ?_)))
    exact X_round 1 (by decide) (by decide) (by (repeat (first | exact Env.sub_nil _ | refine Env.sub_cons rfl ?_))) (by simp only [mH, mN, Int.zero_add]; ((try simp only [List.cons_append, List.nil_append]); repeat (first | exact ent_refl | refine ent_take (by repeat (first | exact Find.here | apply Find.there)) ?_ | refine ent_drop ?_)))
  · simp only [mH, mN]
    repeat (first | refine Zq ?_ | refine Zs ?_ | refine ZT ?_ | refine ZF ?_ | refine Zc ?_ | refine XO_gU (hk := ?_))
    refine X_cond rfl (fun _ => ?_) (fun h => by cases h)
    repeat (first | refine Zq ?_ | refine Zs ?_ | refine ZT ?_ | refine ZF ?_ | refine Zc ?_ | refine XO_gU (hk := ?_))
    refine XO_pv (pv_indexAg (vs := [.pointer (some ⟨p0, 0, none⟩), .pointer (some ⟨p1, 0, none⟩)]) (v := .pointer (some ⟨p1, 0, none⟩))) (hk := ?_)
    repeat (first | refine Zq ?_ | refine Zs ?_ | refine ZT ?_ | refine ZF ?_ | refine Zc ?_ | refine XO_gU (hk := ?_))
    repeat (first | refine XD_pick (h := ?_) | refine Dq ?_ | refine Ds ?_ | refine XDi_gF (h := ?_) | refine XDi_gU (h := ?_) | refine X_draws (h := ?_))
    refine XD_one (h := ?_)
    refine XDa_dvA (dv_call (plpages_spec p1 s 1 o S.larges hl2 hB1)) (hk := ?_)
    (rintro _ _ ⟨_, ⟨rfl, rfl⟩, rfl⟩; refine ⟨by (repeat (first | exact keeps_nil | exact keeps_fnil | refine keeps_skip (h := ?_) | refine keeps_takeQ (h := ?_))), ?_⟩)
    repeat (first | refine XD_pick (h := ?_) | refine Dq ?_ | refine Ds ?_ | refine XDi_gF (h := ?_) | refine XDi_gU (h := ?_) | refine X_draws (h := ?_))
    refine XD_one (h := ?_)
    refine XDa_dvk0 dv_store (K := _) (hk := ?_)
    (rintro _ _ rfl; refine ⟨by (repeat (first | exact keeps_nil | exact keeps_fnil | refine keeps_skip (h := ?_) | refine keeps_takeQ (h := ?_))), ?_⟩)
    (refine XD_end (h := ?_); repeat (first | refine Zq ?_ | refine Zs ?_ | refine ZT ?_ | refine ZF ?_ | refine Zc ?_ | refine XO_gU (hk := ?_)))
    repeat (first | refine XD_pick (h := ?_) | refine Dq ?_ | refine Ds ?_ | refine XDi_gF (h := ?_) | refine XDi_gU (h := ?_) | refine X_draws (h := ?_))
    refine XD_one (h := ?_)
    refine XDa_dvA (dv_call (plen_spec p1 s 1 o S.larges)) (hk := ?_)
    (rintro _ _ ⟨_, ⟨rfl, rfl⟩, rfl⟩; refine ⟨by (repeat (first | exact keeps_nil | exact keeps_fnil | refine keeps_skip (h := ?_) | refine keeps_takeQ (h := ?_))), ?_⟩)
    repeat (first | refine XD_pick (h := ?_) | refine Dq ?_ | refine Ds ?_ | refine XDi_gF (h := ?_) | refine XDi_gU (h := ?_) | refine X_draws (h := ?_))
    refine XD_one (h := ?_)
    refine XDa_dvk0 dv_store (K := _) (hk := ?_)
    (rintro _ _ rfl; refine ⟨by (repeat (first | exact keeps_nil | exact keeps_fnil | refine keeps_skip (h := ?_) | refine keeps_takeQ (h := ?_))), ?_⟩)
    (refine XD_end (h := ?_); repeat (first | refine Zq ?_ | refine Zs ?_ | refine ZT ?_ | refine ZF ?_ | refine Zc ?_ | refine XO_gU (hk := ?_)))
    exact X_round 2 (by decide) (by decide) (by (repeat (first | exact Env.sub_nil _ | refine Env.sub_cons rfl ?_))) (by simp only [mH, mN]; ((try simp only [List.cons_append, List.nil_append]); repeat (first | exact ent_refl | refine ent_take (by repeat (first | exact Find.here | apply Find.there)) ?_ | refine ent_drop ?_)))
  · have e1 : totI (S.parts.map runP) + totI S.larges = shPages S := rfl
    have e2 : 32 * (S.parts.length : Int) + 32 * (S.larges.length : Int) = shHdr S := by unfold shHdr; omega
    simp only [mH, mN]
    rw [e1, e2]
    have e3 : 0 ≤ shPages S ∧ shPages S ≤ 2199023255552 := by unfold shPages; omega
    have e4 : IntKind.u64.wrap (shPages S * 4096 - shHdr S - S.obj - S.pad) = IntKind.u64.wrap (IntKind.u64.wrap (IntKind.u64.wrap (shPages S * 4096 - shHdr S) - S.obj) - S.pad) := by simp only [wrap_u64_eq]; omega
    repeat (first | refine Zq ?_ | refine Zs ?_ | refine ZT ?_ | refine ZF ?_ | refine Zc ?_ | refine XO_gU (hk := ?_))
    refine X_cond rfl (fun h => by cases h) (fun _ => ?_)
    repeat (first | refine Zq ?_ | refine Zs ?_ | refine ZT ?_ | refine ZF ?_ | refine Zc ?_ | refine XO_gU (hk := ?_))
    refine XO_dv0 dv_store (hk := ?_)
    rintro _ _ rfl
    rw [← e4]
    repeat (first | refine Zq ?_ | refine Zs ?_ | refine ZT ?_ | refine ZF ?_ | refine Zc ?_ | refine XO_gU (hk := ?_))
    refine XO_dv0 dv_storeW (hk := ?_)
    rintro _ _ rfl
    repeat (first | refine Zq ?_ | refine Zs ?_ | refine ZT ?_ | refine ZF ?_ | refine Zc ?_ | refine XO_gU (hk := ?_))
    refine XE_fold (by repeat (first | exact FindAll.nil | exact Find.here | apply Find.there | apply FindAll.cons)) (Rs.fold (r := r) (s := s) (p0 := p0) (p1 := p1) (S := S) (a := a) (c := c)) ?_
    refine XE_fold (by repeat (first | exact FindAll.nil | exact Find.here | apply Find.there | apply FindAll.cons)) (Rg.fold (r := r) (s := s) (o := o) (S := S) (p0 := p0) (p1 := p1)) ?_
    refine XE_ret (.inl rfl) (tells_cell rfl) ⟨_, ⟨rfl, rfl⟩, by ((try simp only [List.cons_append, List.nil_append]); repeat (first | exact ent_refl | refine ent_take (by repeat (first | exact Find.here | apply Find.there)) ?_ | refine ent_drop ?_))⟩
  · omega
end Go.Proofs.YtamecmklcnohjaaGreat.Sep
namespace Go.Proofs.YtamecmklcnohjaaGreat.Sep
open Go.RowKit
set_option linter.unusedSimpArgs false
set_option linter.unusedVariables false
/-! as many things as a list has, and one of them taken out -/
section
variable {α : Type}
theorem find_ix {f : α → HP} : ∀ {M : List α} {i : Nat} {q : α}, M[i]? = some q → Find (M.map f) (f q) ((M.eraseIdx i).map f)
  | [], i, q, h => by simp at h
  | x :: M, 0, q, h => by simp at h; subst h; exact Find.here
  | x :: M, i + 1, q, h => by simp at h; exact Find.there (find_ix h)
theorem Star.outI {f : α → HP} {M : List α} {i : Nat} {q : α} (h : M[i]? = some q) : ∀ H, Star f M H → ∃ x : Unit, True ∧ SL [f q, Star f (M.eraseIdx i)] H := fun H hs => ⟨(), trivial, SL_pack H ((find_ix h).fwd hs)⟩
theorem eraseIdx_set_same : ∀ (M : List α) (i : Nat) (q : α), (M.set i q).eraseIdx i = M.eraseIdx i
  | [], _, _ => by simp
  | x :: M, 0, q => by simp
  | x :: M, i + 1, q => by simp [eraseIdx_set_same M i q]
theorem Star.backI {f : α → HP} {M : List α} {i : Nat} {q : α} (h : i < M.length) : ∀ H, SL [f q, Star f (M.eraseIdx i)] H → Star f (M.set i q) H := fun H hs => by
  have h1 : (M.set i q)[i]? = some q := by simp [h]
  have := (find_ix (f := f) h1).bwd (SL_unpack H (by rw [eraseIdx_set_same]; exact hs))
  exact this
theorem Star.sameI {f : α → HP} {M : List α} {i : Nat} {q : α} (h : M[i]? = some q) : ∀ H, SL [f q, Star f (M.eraseIdx i)] H → Star f M H := fun H hs => (find_ix (f := f) h).bwd (SL_unpack H hs)
theorem Star.snocI {f : α → HP} {M : List α} {q : α} : ∀ H, SL [f q, Star f M] H → Star f (M ++ [q]) H := fun H hs => by
  have h1 : (M ++ [q])[M.length]? = some q := by simp
  have := (find_ix (f := f) h1).bwd (SL_unpack H (by rw [show (M ++ [q]).eraseIdx M.length = M from by rw [List.eraseIdx_append_of_length_le (Nat.le_refl _)]; simp]; exact hs))
  exact this
theorem perm_ix : ∀ {M : List α} {i : Nat} {q : α}, M[i]? = some q → M.Perm (q :: M.eraseIdx i)
  | [], i, q, h => by simp at h
  | x :: M, 0, q, h => by simp at h; subst h; simp
  | x :: M, i + 1, q, h => by
    simp at h
    have := perm_ix h
    simp only [List.eraseIdx_cons_succ]
    exact (this.cons x).trans (List.Perm.swap _ _ _)
end
/-! regions of one store: block, owner, shape -/
abbrev RgT := Nat × Int × Sh
def RgOf (s : Nat) (q : RgT) : HP := Rg q.1 s q.2.1 q.2.2
def gotM (M : List RgT) : List (Int × Hd) := M.flatMap fun q => gotR q.2.1 q.2.2
theorem gotM_perm {M M' : List RgT} (h : M.Perm M') : (gotM M).Perm (gotM M') := h.flatMap_right _
structure RAll (P : Int) (B : Nat) (C : Co) (m : Int → Int) (M : List RgT) : Prop where
  K : KInv C m (gotM M)
  hP : C.P = P
  S : ∀ q ∈ M, SInv P B q.2.2
  po : ∀ q ∈ M, ∀ p ∈ q.2.2.parts, PtOk p
theorem RAll.one {P : Int} {B : Nat} {C : Co} {m : Int → Int} {M : List RgT} (h : RAll P B C m M) {i : Nat} {q : RgT} (hq : M[i]? = some q) : RInv P B q.2.1 C m q.2.2 (gotM (M.eraseIdx i)) :=
  ⟨h.K.perm (gotM_perm (perm_ix hq)), h.hP, h.S q (List.mem_of_getElem? hq), h.po q (List.mem_of_getElem? hq)⟩
theorem SInv.le {P : Int} {B B' : Nat} {s : Sh} (h : SInv P B s) (hB : B ≤ B') : SInv P B' s := ⟨h.ok, h.pi, Nat.le_trans h.lp hB, Nat.le_trans h.ll hB⟩
theorem RAll.le {P : Int} {B B' : Nat} {C : Co} {m : Int → Int} {M : List RgT} (h : RAll P B C m M) (hB : B ≤ B') : RAll P B' C m M := ⟨h.K, h.hP, fun q hq => (h.S q hq).le hB, h.po⟩
theorem RAll.set {P : Int} {B B' : Nat} {C C' : Co} {m m' : Int → Int} {M : List RgT} (h : RAll P B C m M) {i : Nat} (hi : i < M.length) {q' : RgT} (hB : B ≤ B') (hR : RInv P B' q'.2.1 C' m' q'.2.2 (gotM (M.eraseIdx i))) : RAll P B' C' m' (M.set i q') := by
  have hg : (M.set i q')[i]? = some q' := by simp [hi]
  refine ⟨?_, hR.hP, fun q hq => ?_, fun q hq => ?_⟩
  · refine hR.K.perm (List.Perm.symm ?_)
    have := gotM_perm (perm_ix hg)
    rw [eraseIdx_set_same] at this
    exact this
  · rcases List.mem_or_eq_of_mem_set hq with h1 | h1
    · exact (h.S q h1).le hB
    · subst h1; exact hR.S
  · rcases List.mem_or_eq_of_mem_set hq with h1 | h1
    · exact h.po q h1
    · subst h1; exact hR.po
theorem RAll.ok {P : Int} {B : Nat} {C : Co} {m : Int → Int} {M : List RgT} (h : RAll P B C m M) : CoOk C := h.K.ci.ok
theorem Rgs.snoc {r s : Nat} {o : Int} {S : Sh} {M : List RgT} : ∀ H, SL [Rg r s o S, Star (RgOf s) M] H → Star (RgOf s) (M ++ [(r, o, S)]) H := fun H hs => Star.snocI (f := RgOf s) (q := (r, o, S)) H hs
theorem Rgs.out {s i : Nat} {q : RgT} {M : List RgT} (h : M[i]? = some q) : ∀ H, Star (RgOf s) M H → ∃ x : Unit, True ∧ SL [Rg q.1 s q.2.1 q.2.2, Star (RgOf s) (M.eraseIdx i)] H := fun H hs => Star.outI (f := RgOf s) h H hs
theorem Rgs.back {r s i : Nat} {o : Int} {S : Sh} {M : List RgT} (h : i < M.length) : ∀ H, SL [Rg r s o S, Star (RgOf s) (M.eraseIdx i)] H → Star (RgOf s) (M.set i (r, o, S)) H := fun H hs => Star.backI (f := RgOf s) (q := (r, o, S)) h H hs
theorem Rgs.same {s i : Nat} {q : RgT} {M : List RgT} (h : M[i]? = some q) : ∀ H, SL [Rg q.1 s q.2.1 q.2.2, Star (RgOf s) (M.eraseIdx i)] H → Star (RgOf s) M H := fun H hs => Star.sameI (f := RgOf s) h H hs
end Go.Proofs.YtamecmklcnohjaaGreat.Sep
namespace Go.Proofs.YtamecmklcnohjaaGreat.Sep
open Go.RowKit
set_option linter.unusedSimpArgs false
set_option linter.unusedVariables false
/-! trees of things, by their numbers: plainly: each thing and the one above it, in the order in which they came -/
def kids (T : List (Int × Int)) (id : Int) : List Int := (T.filter fun q => q.2 == id).map (·.1)
def parT (T : List (Int × Int)) (id : Int) : Int := (lk T id).getD 0
structure TWf (T : List (Int × Int)) : Prop where
  nd : (T.map (·.1)).Nodup
  nz : ∀ q ∈ T, q.1 ≠ 0
  up : ∀ q ∈ T, q.2 = 0 ∨ q.2 ∈ T.map (·.1)
  ne : ∀ q ∈ T, q.2 ≠ q.1
  od : T.Pairwise fun a b => a.2 ≠ b.1
theorem kids_app (T : List (Int × Int)) (id p x : Int) : kids (T ++ [(id, p)]) x = if p = x then kids T x ++ [id] else kids T x := by
  unfold kids
  rw [List.filter_append, List.map_append]
  by_cases h : p = x
  · rw [if_pos h]; simp [h]
  · rw [if_neg h]; simp [h]
theorem kids_mem {T : List (Int × Int)} {id x : Int} : x ∈ kids T id ↔ (x, id) ∈ T := by
  unfold kids
  constructor
  · intro h
    obtain ⟨q, hq, rfl⟩ := List.mem_map.1 h
    have h1 := List.mem_filter.1 hq
    have h2 : q.2 = id := by simpa using h1.2
    rw [← h2]; exact h1.1
  · intro h
    exact List.mem_map.2 ⟨(x, id), List.mem_filter.2 ⟨h, by simp⟩, rfl⟩
theorem kids_len (T : List (Int × Int)) (id : Int) : (kids T id).length ≤ T.length := by
  unfold kids; rw [List.length_map]; exact List.length_filter_le _ _
theorem TWf.nil : TWf [] := ⟨by simp, (fun q h => by cases h), (fun q h => by cases h), (fun q h => by cases h), List.Pairwise.nil⟩
theorem TWf.add {T : List (Int × Int)} (h : TWf T) {id p : Int} (h0 : id ≠ 0) (hn : id ∉ T.map (·.1)) (hp : p = 0 ∨ p ∈ T.map (·.1)) : TWf (T ++ [(id, p)]) := by
  refine ⟨?_, fun q hq => ?_, fun q hq => ?_, fun q hq => ?_, ?_⟩
  case refine_4 =>
    rcases List.mem_append.1 hq with h1 | h1
    · exact h.ne q h1
    · simp at h1; subst h1
      intro e
      have e : p = id := e
      subst e
      rcases hp with h2 | h2
      · exact h0 h2
      · exact hn h2
  case refine_5 =>
    rw [List.pairwise_append]
    refine ⟨h.od, by simp, fun a ha b hb => ?_⟩
    simp at hb; subst hb
    intro e
    have e : a.2 = id := e
    rcases h.up a ha with h2 | h2
    · exact h0 (e.symm.trans h2)
    · rw [e] at h2; exact hn h2
  · rw [List.map_append, List.nodup_append]
    exact ⟨h.nd, by simp, fun a ha b hb e => by simp at hb; subst hb; subst e; exact hn ha⟩
  · rcases List.mem_append.1 hq with h1 | h1
    · exact h.nz q h1
    · simp at h1; subst h1; exact h0
  · rw [List.map_append]
    rcases List.mem_append.1 hq with h1 | h1
    · rcases h.up q h1 with h2 | h2
      · exact .inl h2
      · exact .inr (List.mem_append.2 (.inl h2))
    · simp at h1; subst h1
      rcases hp with h2 | h2
      · exact .inl h2
      · exact .inr (List.mem_append.2 (.inl h2))
theorem TWf.kids0 {T : List (Int × Int)} (h : TWf T) {id : Int} (h0 : id ≠ 0) (hn : id ∉ T.map (·.1)) : kids T id = [] := by
  cases hk : kids T id with
  | nil => rfl
  | cons x l =>
    have hx : x ∈ kids T id := by rw [hk]; simp
    rcases h.up _ (kids_mem.1 hx) with h1 | h1
    · exact absurd h1 h0
    · exact absurd h1 hn
theorem parT_app {T : List (Int × Int)} {id p x : Int} (hn : id ∉ T.map (·.1)) : parT (T ++ [(id, p)]) x = if x = id then p else parT T x := by
  have hl : ∀ (T : List (Int × Int)), id ∉ T.map (·.1) → lk (T ++ [(id, p)]) x = if x = id then some p else lk T x := by
    intro T
    induction T with
    | nil => intro _; simp [lk, eq_comm]
    | cons q T ih =>
      intro hn
      simp only [List.map_cons, List.mem_cons, not_or] at hn
      obtain ⟨k, v⟩ := q
      simp only [List.cons_append, lk]
      rw [ih hn.2]
      by_cases h1 : k = x
      · subst h1; have h2 : k ≠ id := fun e => hn.1 e.symm; simp [h2]
      · have h1' : ¬ x = k := fun e => h1 e.symm
        simp [h1']
  unfold parT
  rw [hl T hn]
  by_cases h1 : x = id
  · simp [h1]
  · rw [if_neg h1, if_neg h1]
/-! the program's -/
abbrev npV (b : Option Nat) : Value := .pointer (b.map fun b => ⟨b, 0, none⟩)
/-- A thing's node. -/
def NodeOf (T : List (Int × Int)) (q : Int × Nat) : HP := fun H => ∃ x : Option Addr × Nat, SL [pt q.2 (.cells [.int .u64 (parT T q.1), .slice x.1 (kids T q.1).length x.2].toArray 233 (0, 0)), Sl (eI .u64) x.1 x.2 (kids T q.1)] H
theorem NodeOf.open {T : List (Int × Int)} {q : Int × Nat} : ∀ H, NodeOf T q H → ∃ x : Option Addr × Nat, True ∧ SL [pt q.2 (.cells [.int .u64 (parT T q.1), .slice x.1 (kids T q.1).length x.2].toArray 233 (0, 0)), Sl (eI .u64) x.1 x.2 (kids T q.1)] H := fun H ⟨x, h⟩ => ⟨x, trivial, h⟩
theorem NodeOf.fold {T : List (Int × Int)} {q : Int × Nat} {a : Option Addr} {n c : Nat} {p : Int} (hn : n = (kids T q.1).length) (hp : p = parT T q.1) : ∀ H, SL [pt q.2 (.cells [.int .u64 p, .slice a n c].toArray 233 (0, 0)), Sl (eI .u64) a c (kids T q.1)] H → NodeOf T q H := by
  subst hn hp; exact fun H h => ⟨(a, c), h⟩
theorem NodeOf.same {T T' : List (Int × Int)} {q : Int × Nat} (h1 : kids T' q.1 = kids T q.1) (h2 : parT T' q.1 = parT T q.1) : NodeOf T' q = NodeOf T q := by unfold NodeOf; rw [h1, h2]
theorem Star.congr {α : Type} {f g : α → HP} {M : List α} (h : ∀ x ∈ M, f x = g x) : Star f M = Star g M := by
  unfold Star; rw [List.map_congr_left h]
abbrev ndB (N : List (Int × Nat)) : List (Int × Option Nat) := N.map fun q => (q.1, some q.2)
def Tre (b : Nat) (T : List (Int × Int)) : HP := fun H => ∃ x : Nat × List (Int × Nat), x.2.map (·.1) = 0 :: T.map (·.1) ∧ SL [pt b (.cells [.map (some x.1)].toArray 236 (0, 0)), Mp vU npV x.1 (ndB x.2), Star (NodeOf T) x.2] H
theorem Tre.open {b : Nat} {T : List (Int × Int)} : ∀ H, Tre b T H → ∃ x : Nat × List (Int × Nat), x.2.map (·.1) = 0 :: T.map (·.1) ∧ SL [pt b (.cells [.map (some x.1)].toArray 236 (0, 0)), Mp vU npV x.1 (ndB x.2), Star (NodeOf T) x.2] H := fun H h => h
theorem Tre.fold {b mb : Nat} {T : List (Int × Int)} {N : List (Int × Nat)} (h : N.map (·.1) = 0 :: T.map (·.1)) : ∀ H, SL [pt b (.cells [.map (some mb)].toArray 236 (0, 0)), Mp vU npV mb (ndB N), Star (NodeOf T) N] H → Tre b T H := fun H hs => ⟨(mb, N), h, hs⟩
theorem nd_out {T : List (Int × Int)} {N : List (Int × Nat)} {i : Nat} {q : Int × Nat} (h : N[i]? = some q) : ∀ H, Star (NodeOf T) N H → ∃ x : Unit, True ∧ SL [NodeOf T q, Star (NodeOf T) (N.eraseIdx i)] H := fun H hs => Star.outI (f := NodeOf T) h H hs
theorem nd_same {T : List (Int × Int)} {N : List (Int × Nat)} {i : Nat} {q : Int × Nat} (h : N[i]? = some q) : ∀ H, SL [NodeOf T q, Star (NodeOf T) (N.eraseIdx i)] H → Star (NodeOf T) N H := fun H hs => Star.sameI (f := NodeOf T) h H hs
theorem nd_snoc {T : List (Int × Int)} {N : List (Int × Nat)} {q : Int × Nat} : ∀ H, SL [NodeOf T q, Star (NodeOf T) N] H → Star (NodeOf T) (N ++ [q]) H := fun H hs => Star.snocI (f := NodeOf T) H hs
theorem ndB_lk (N : List (Int × Nat)) (id : Int) : lk (ndB N) id = (lk N id).map some := by
  induction N with
  | nil => rfl
  | cons q N ih => obtain ⟨k, v⟩ := q; simp only [ndB, List.map_cons, lk] at ih ⊢; split <;> simp_all
/-- A key that is there has its place. -/
theorem lk_ix : ∀ {N : List (Int × Nat)} {id : Int}, id ∈ N.map (·.1) → ∃ (i b : Nat), N[i]? = some (id, b) ∧ lk N id = some b
  | [], _, h => by simp at h
  | (k, v) :: N, id, h => by
    by_cases h1 : k = id
    · subst h1; exact ⟨0, v, rfl, by simp [lk]⟩
    · simp only [List.map_cons, List.mem_cons] at h
      rcases h with h2 | h2
      · exact absurd h2.symm h1
      · obtain ⟨i, b, hi, hb⟩ := lk_ix h2
        have h1' : ¬ id = k := fun e => h1 e.symm
        exact ⟨i + 1, b, by simpa using hi, by simp [lk, h1', hb]⟩
theorem nodup_ix {N : List (Int × Nat)} (hn : (N.map (·.1)).Nodup) {i : Nat} {q : Int × Nat} (h : N[i]? = some q) : ∀ r ∈ N.eraseIdx i, r.1 ≠ q.1 := fun r hr e => by
  have hp := (perm_ix h).map (·.1)
  have := hp.nodup_iff.1 hn
  simp only [List.map_cons, List.nodup_cons] at this
  exact this.1 (e ▸ List.mem_map.2 ⟨r, hr, rfl⟩)
theorem dv_insert {P : Program} {w0 : World} {e : Env} {L R : List HP} {ty : TypeId} {κ α : Type} [DecidableEq κ] {ke : κ → Value} {ve : α → Value} {T K el : Nat} {x ix y : Operand} {b : Nat} {l : List (κ × α)} (kk : κ) (v : α) [hu : TU P T (.map K el)] (hx : ev e x = some (.map (some b)) := by rfl)
    (hf : Find L (Mp ke ve b l) R := by repeat (first | exact Find.here | apply Find.there)) (hk : ev e ix = some (ke kk) := by rfl) (hy : ev e y = some (ve v) := by rfl) (ht : TK P K ke := by infer_instance) :
    DV P w0 (.insert T x ix y) ty e L (fun _ L' => L' = Mp ke ve b (ins l kk v) :: R) := by
  have h := dv_mapUpdate (P := P) (w0 := w0) (ty := ty) (T := T) (K := K) (el := el) (x := x) (ix := ix) (y := y) (L := L) (R := R) (ke := ke) (ve := ve) (l := l) (b := b) kk v hx hf hk hy ht
  exact h
set_option maxHeartbeats 8000000
attribute [local irreducible] X XE XO XD XDi XDa PV RV DV pt base Spec Sl Mp Keeps
attribute [local irreducible] Tre NodeOf Star
theorem tr_new : Spec Tryz.prog 88 [] [] (fun v L => ∃ b, v = .pointer (some ⟨b, 0, none⟩) ∧ L = [Tre b []]) := by
  refine Spec.intro (IsEnt.out) Tryz.func88 rfl Tryz.ntmps88 (by simp) (fun w0 F => ?_)
  simp only [envOf, List.zipIdx, List.map, List.cons_append, List.nil_append, Nat.zero_add, Nat.reduceAdd]
  repeat (first | refine Zq ?_ | refine Zs ?_ | refine ZT ?_ | refine ZF ?_ | refine Zc ?_ | refine XO_gU (hk := ?_))
  refine XO_dv (dv_makeMap vU npV) (hk := ?_)
  rintro _ _ ⟨mb, rfl, rfl⟩
  repeat (first | refine Zq ?_ | refine Zs ?_ | refine ZT ?_ | refine ZF ?_ | refine Zc ?_ | refine XO_gU (hk := ?_))
  refine XO_dv dv_box (hk := ?_)
  rintro _ _ ⟨nb, rfl, rfl⟩
  refine XO_dv0 (dv_insert (ke := vU) (ve := npV) (l := []) (kk := 0) (v := some nb)) (hk := ?_)
  rintro _ _ rfl
  repeat (first | refine Zq ?_ | refine Zs ?_ | refine ZT ?_ | refine ZF ?_ | refine Zc ?_ | refine XO_gU (hk := ?_))
  refine XO_dv dv_box (hk := ?_)
  rintro _ _ ⟨b, rfl, rfl⟩
  repeat (first | refine Zq ?_ | refine Zs ?_ | refine ZT ?_ | refine ZF ?_ | refine Zc ?_ | refine XO_gU (hk := ?_))
  refine XE_conv (fun _ h => SL_nilSl (eI .u64) h) ?_
  refine XE_fold (by repeat (first | exact FindAll.nil | exact Find.here | apply Find.there | apply FindAll.cons)) (NodeOf.fold (T := []) (q := (0, nb)) (a := none) (n := 0) (c := 0) (p := 0) rfl rfl) ?_
  refine XE_conv (fun _ h => Star.nil (f := NodeOf []) h) ?_
  refine XE_fold (S := [NodeOf [] (0, nb), Star (NodeOf []) []]) (by repeat (first | exact FindAll.nil | exact Find.here | apply Find.there | apply FindAll.cons)) nd_snoc ?_
  refine XE_fold (by repeat (first | exact FindAll.nil | exact Find.here | apply Find.there | apply FindAll.cons)) (Tre.fold (b := b) (mb := mb) (T := []) (N := [(0, nb)]) rfl) ?_
  refine XE_ret (.inl rfl) (tells_tmps rfl rfl) ⟨_, ⟨b, rfl, rfl⟩, by ((try simp only [List.cons_append, List.nil_append]); repeat (first | exact ent_refl | refine ent_take (by repeat (first | exact Find.here | apply Find.there)) ?_ | refine ent_drop ?_))⟩
/-- A thing's node, or none. -/
theorem tr_node (b mb : Nat) (ml : List (Int × Option Nat)) (id : Int) : Spec Tryz.prog 140 [.pointer (some ⟨b, 0, none⟩), .int .u64 id] [pt b (.cells [.map (some mb)].toArray 236 (0, 0)), Mp vU npV mb ml] (fun v L => v = npV ((lk ml id).getD none) ∧ L = [pt b (.cells [.map (some mb)].toArray 236 (0, 0)), Mp vU npV mb ml]) := by
  refine Spec.intro (IsEnt.out) Tryz.func140 rfl Tryz.ntmps140 (by simp) (fun w0 F => ?_)
  simp only [envOf, List.zipIdx, List.map, List.cons_append, List.nil_append, Nat.zero_add, Nat.reduceAdd]
  repeat (first | refine Zq ?_ | refine Zs ?_ | refine ZT ?_ | refine ZF ?_ | refine Zc ?_ | refine XO_gU (hk := ?_))
  refine X_cond rfl (fun h => by cases h) (fun _ => ?_)
  repeat (first | refine Zq ?_ | refine Zs ?_ | refine ZT ?_ | refine ZF ?_ | refine Zc ?_ | refine XO_gU (hk := ?_))
  refine XO_rv (rv_lookup (ke := vU) (ve := npV) (kk := id) (d0 := none)) (hk := ?_)
  repeat (first | refine Zq ?_ | refine Zs ?_ | refine ZT ?_ | refine ZF ?_ | refine Zc ?_ | refine XO_gU (hk := ?_))
  refine XE_ret (.inl rfl) (tells_tmps rfl rfl) ⟨_, ⟨rfl, rfl⟩, by ((try simp only [List.cons_append, List.nil_append]); repeat (first | exact ent_refl | refine ent_take (by repeat (first | exact Find.here | apply Find.there)) ?_ | refine ent_drop ?_))⟩
attribute [local irreducible] kids
theorem insN {κ α : Type} [DecidableEq κ] : ∀ {l : List (κ × α)} {k : κ} {v : α}, lk l k = none → ins l k v = l ++ [(k, v)]
  | [], _, _, _ => rfl
  | (a, u) :: l, k, v, h => by
    simp only [lk] at h
    split at h
    · cases h
    · rename_i hne; simp [ins, hne, insN h]
/-- One thing more. -/
theorem tr_add (b : Nat) (T : List (Int × Int)) (hw : TWf T) (id p : Int) (h0 : id ≠ 0) (hn : id ∉ T.map (·.1)) (hp : p = 0 ∨ p ∈ T.map (·.1)) (hl : T.length ≤ 1000000) : Spec Tryz.prog 93 [.pointer (some ⟨b, 0, none⟩), .int .u64 id, .int .u64 p] [Tre b T] (fun v L => v = .bool true ∧ L = [Tre b (T ++ [(id, p)])]) := by
  have hkl := kids_len T p
  have hpi : p ≠ id := fun e => by
    rcases hp with h1 | h1
    · exact h0 (e ▸ h1)
    · exact hn (e ▸ h1)
  refine Spec.intro (IsEnt.out) Tryz.func93 rfl Tryz.ntmps93 (by simp) (fun w0 F => ?_)
  simp only [envOf, List.zipIdx, List.map, List.cons_append, List.nil_append, Nat.zero_add, Nat.reduceAdd]
  refine X_open (A := Tre b T) (by (repeat (first | exact Find.here | apply Find.there))) Tre.open ?_
  rintro ⟨mb, N⟩ hN
  dsimp only [List.cons_append, List.nil_append] at hN ⊢
  obtain ⟨i, nb, hi, hlk⟩ := lk_ix (N := N) (id := p) (by rw [hN]; rcases hp with h1 | h1 <;> simp [h1])
  have hlk2 : lk (ndB N) p = some (some nb) := by rw [ndB_lk, hlk]; rfl
  have hln : lk (ndB N) id = none := by
    rw [lk_none]
    have : (ndB N).map (·.1) = N.map (·.1) := by simp [ndB]
    rw [this, hN]; simp only [List.mem_cons, not_or]; exact ⟨h0, hn⟩
  have hnd : (N.map (·.1)).Nodup := by
    rw [hN, List.nodup_cons]
    exact ⟨fun h => by obtain ⟨q, hq, e⟩ := List.mem_map.1 h; exact hw.nz q hq e, hw.nd⟩
  repeat (first | refine Zq ?_ | refine Zs ?_ | refine ZT ?_ | refine ZF ?_ | refine Zc ?_ | refine XO_gU (hk := ?_))
  refine XO_call (tr_node b mb (ndB N) p) (hk := ?_)
  rintro _ _ ⟨rfl, rfl⟩
  rw [hlk2]
  repeat (first | refine Zq ?_ | refine Zs ?_ | refine ZT ?_ | refine ZF ?_ | refine Zc ?_ | refine XO_gU (hk := ?_))
  refine XO_call (tr_node b mb (ndB N) id) (hk := ?_)
  rintro _ _ ⟨rfl, rfl⟩
  rw [hln]
  repeat (first | refine Zq ?_ | refine Zs ?_ | refine ZT ?_ | refine ZF ?_ | refine Zc ?_ | refine XO_gU (hk := ?_))
  refine X_cond rfl (fun h => by cases h) (fun _ => ?_)
  repeat (first | refine Zq ?_ | refine Zs ?_ | refine ZT ?_ | refine ZF ?_ | refine Zc ?_ | refine XO_gU (hk := ?_))
  refine XO_pv (pv_buildG [.int .u64 p, .slice none 0 0]) (hk := ?_)
  repeat (first | refine Zq ?_ | refine Zs ?_ | refine ZT ?_ | refine ZF ?_ | refine Zc ?_ | refine XO_gU (hk := ?_))
  refine XO_dv dv_box (hk := ?_)
  rintro _ _ ⟨nb2, rfl, rfl⟩
  repeat (first | refine Zq ?_ | refine Zs ?_ | refine ZT ?_ | refine ZF ?_ | refine Zc ?_ | refine XO_gU (hk := ?_))
  refine XO_dv0 (dv_mapUpdate (ke := vU) (ve := npV) (l := ndB N) (kk := id) (v := some nb2)) (hk := ?_)
  rintro _ _ rfl
  rw [show ins (ndB N) id (some nb2) = ndB (N ++ [(id, nb2)]) from by rw [insN hln]; simp [ndB]]
  repeat (first | refine Zq ?_ | refine Zs ?_ | refine ZT ?_ | refine ZF ?_ | refine Zc ?_ | refine XO_gU (hk := ?_))
  refine XO_open (A := Star (NodeOf T) N) (by (repeat (first | exact Find.here | apply Find.there))) (nd_out hi) ?_
  rintro ⟨⟩ -
  refine XO_open (A := NodeOf T (p, nb)) (by (repeat (first | exact Find.here | apply Find.there))) NodeOf.open ?_
  rintro ⟨a, c⟩ -
  dsimp only [List.cons_append, List.nil_append]
  repeat (first | refine Zq ?_ | refine Zs ?_ | refine ZT ?_ | refine ZF ?_ | refine Zc ?_ | refine XO_gU (hk := ?_))
  refine XO_lit (E' := eI .u64) [id] (hk := ?_)
  intro lb
  repeat (first | refine Zq ?_ | refine Zs ?_ | refine ZT ?_ | refine ZF ?_ | refine Zc ?_ | refine XO_gU (hk := ?_))
  refine XO_dv (dv_append (E' := eI .u64) (xs := kids T p) (ys := [id]) (hv := Sl.view) (hb := by simp; omega)) (hk := ?_)
  rintro _ _ ⟨a', c', rfl, rfl⟩
  repeat (first | refine Zq ?_ | refine Zs ?_ | refine ZT ?_ | refine ZF ?_ | refine Zc ?_ | refine XO_gU (hk := ?_))
  refine XO_dv0 dv_store (hk := ?_)
  rintro _ _ rfl
  repeat (first | refine Zq ?_ | refine Zs ?_ | refine ZT ?_ | refine ZF ?_ | refine Zc ?_ | refine XO_gU (hk := ?_))
  have hk1 : kids (T ++ [(id, p)]) p = kids T p ++ [id] := by rw [kids_app, if_pos rfl]
  have hp1 : parT (T ++ [(id, p)]) p = parT T p := by rw [parT_app hn, if_neg hpi]
  have hk2 : kids (T ++ [(id, p)]) id = [] := by rw [kids_app, if_neg hpi, hw.kids0 h0 hn]
  have hp2 : parT (T ++ [(id, p)]) id = p := by rw [parT_app hn, if_pos rfl]
  have hcg : Star (NodeOf T) (N.eraseIdx i) = Star (NodeOf (T ++ [(id, p)])) (N.eraseIdx i) := Star.congr fun q hq => by
    have h1 := nodup_ix hnd hi q hq
    have h2 : q.1 ≠ id := fun e => by
      have hqN : q.1 ∈ N.map (·.1) := List.mem_map.2 ⟨q, List.mem_of_mem_eraseIdx hq, rfl⟩
      rw [hN, e] at hqN
      rcases List.mem_cons.1 hqN with h3 | h3
      · exact h0 h3
      · exact hn h3
    exact (NodeOf.same (by rw [kids_app, if_neg (fun e => h1 e.symm)]) (by rw [parT_app hn, if_neg h2])).symm
  rw [hcg, ← hk1]
  refine XE_fold (by repeat (first | exact FindAll.nil | exact Find.here | apply Find.there | apply FindAll.cons)) (NodeOf.fold (T := T ++ [(id, p)]) (q := (p, nb)) (a := a') (n := (kids (T ++ [(id, p)]) p).length) (c := c') (p := parT T p) rfl hp1.symm) ?_
  refine XE_fold (S := [NodeOf (T ++ [(id, p)]) (p, nb), Star (NodeOf (T ++ [(id, p)])) (N.eraseIdx i)]) (by repeat (first | exact FindAll.nil | exact Find.here | apply Find.there | apply FindAll.cons)) (nd_same hi) ?_
  refine XE_conv (fun _ h => SL_nilSl (eI .u64) h) ?_
  rw [← hk2]
  refine XE_fold (by repeat (first | exact FindAll.nil | exact Find.here | apply Find.there | apply FindAll.cons)) (NodeOf.fold (T := T ++ [(id, p)]) (q := (id, nb2)) (a := none) (n := 0) (c := 0) (p := p) (by rw [hk2]; rfl) hp2.symm) ?_
  refine XE_fold (S := [NodeOf (T ++ [(id, p)]) (id, nb2), Star (NodeOf (T ++ [(id, p)])) N]) (by repeat (first | exact FindAll.nil | exact Find.here | apply Find.there | apply FindAll.cons)) nd_snoc ?_
  refine XE_fold (by repeat (first | exact FindAll.nil | exact Find.here | apply Find.there | apply FindAll.cons)) (Tre.fold (b := b) (mb := mb) (T := T ++ [(id, p)]) (N := N ++ [(id, nb2)]) (by simp [hN])) ?_
  refine XE_ret (.inl rfl) (tells_tmps rfl rfl) ⟨_, ⟨rfl, rfl⟩, by ((try simp only [List.cons_append, List.nil_append]); repeat (first | exact ent_refl | refine ent_take (by repeat (first | exact Find.here | apply Find.there)) ?_ | refine ent_drop ?_))⟩
end Go.Proofs.YtamecmklcnohjaaGreat.Sep
namespace Go.Proofs.YtamecmklcnohjaaGreat.Sep
open Go.RowKit
set_option linter.unusedSimpArgs false
set_option linter.unusedVariables false
set_option maxHeartbeats 8000000
attribute [local irreducible] X XE XO XD XDi XDa PV RV DV pt base Spec Sl Mp Keeps
/-! handles, as numbers -/
def HOk (k i g : Int) : Prop := 1 ≤ k ∧ k ≤ 3 ∧ (0 ≤ i ∧ i < 4294967296) ∧ (0 ≤ g ∧ g < 1073741824)
instance (k i g : Int) : Decidable (HOk k i g) := inferInstanceAs (Decidable (_ ∧ _))
def packI (k i g : Int) : Int := if HOk k i g then k * 4611686018427387904 + g * 4294967296 + i else 0
def hKind (h : Int) : Int := h / 4611686018427387904
def hSlot (h : Int) : Int := h % 4294967296
def hGen (h : Int) : Int := h / 4294967296 % 1073741824
def nextI (g : Int) : Int := if 0 ≤ g ∧ g + 1 < 1073741824 then g + 1 else 0
theorem pack_ok {k i g : Int} (h : HOk k i g) : packI k i g = k * 4611686018427387904 + g * 4294967296 + i := if_pos h
theorem pack_kind {k i g : Int} (h : HOk k i g) : hKind (packI k i g) = k := by rw [pack_ok h]; obtain ⟨a, b, ⟨c, d⟩, e, f⟩ := h; unfold hKind; omega
theorem pack_slot {k i g : Int} (h : HOk k i g) : hSlot (packI k i g) = i := by rw [pack_ok h]; obtain ⟨a, b, ⟨c, d⟩, e, f⟩ := h; unfold hSlot; omega
theorem pack_gen {k i g : Int} (h : HOk k i g) : hGen (packI k i g) = g := by rw [pack_ok h]; obtain ⟨a, b, ⟨c, d⟩, e, f⟩ := h; unfold hGen; omega
theorem pack_bd {k i g : Int} : 0 ≤ packI k i g ∧ packI k i g ≤ 18446744073709551615 := by
  unfold packI; split
  · rename_i h; obtain ⟨a, b, ⟨c, d⟩, e, f⟩ := h; omega
  · omega
theorem pack_ne {k i g : Int} (h : HOk k i g) : packI k i g ≠ 0 := by rw [pack_ok h]; obtain ⟨a, b, ⟨c, d⟩, e, f⟩ := h; omega
/-- A shift and a mask are a division's rest. -/
theorem shr_mask {h : Int} (h0 : 0 ≤ h) (h1 : h ≤ 18446744073709551615) (a b : Nat) (hb : b ≤ 62) : bitop .and .u64 (h / (2 ^ a : Nat)) ((2 ^ b : Nat) - 1 : Int) = h / (2 ^ a : Nat) % (2 ^ b : Nat) := by
  have hp : 0 < 2 ^ a := Nat.pow_pos (by decide)
  have hq : 2 ^ b ≤ 2 ^ 62 := Nat.pow_le_pow_right (by decide) hb
  have hq0 : 0 < 2 ^ b := Nat.pow_pos (by decide)
  obtain ⟨n, rfl⟩ := Int.eq_ofNat_of_zero_le h0
  rw [show ((2 ^ b : Nat) - 1 : Int) = ((2 ^ b - 1 : Nat) : Int) from by omega, show ((n : Int) / ((2 ^ a : Nat) : Int)) = ((n / 2 ^ a : Nat) : Int) from by simp]
  have hn : n / 2 ^ a ≤ n := Nat.div_le_self _ _
  rw [bitop_and_u64 (by omega) (by omega), and_mask]
  simp
theorem or_pack {k g i : Nat} (hk : k < 4) (hg : g < 1073741824) (hi : i < 4294967296) : (k * 4611686018427387904 ||| g * 4294967296) ||| i = k * 4611686018427387904 + g * 4294967296 + i := by
  have e1 : k * 4611686018427387904 ||| g * 4294967296 = k * 4611686018427387904 + g * 4294967296 := by
    have := Nat.two_pow_add_eq_or_of_lt (i := 62) (b := g * 4294967296) (by omega) k
    rw [show (4611686018427387904 : Nat) = 2 ^ 62 from by decide, Nat.mul_comm k]
    exact this.symm
  rw [e1]
  have := Nat.two_pow_add_eq_or_of_lt (i := 32) (b := i) (by omega) (k * 1073741824 + g)
  rw [show k * 4611686018427387904 + g * 4294967296 = 2 ^ 32 * (k * 1073741824 + g) from by omega]
  exact this.symm
theorem bitop_or_u64h {a b : Nat} (ha : a < 18446744073709551616) (hb : b < 18446744073709551616) : bitop .or .u64 a b = ((a ||| b : Nat) : Int) := by
  have hlt : a ||| b < 2 ^ 64 := Nat.or_lt_two_pow (by omega) (by omega)
  have e1 : BitVec.ofInt 64 (a : Int) = BitVec.ofNat 64 a := by simp
  have e2 : BitVec.ofInt 64 (b : Int) = BitVec.ofNat 64 b := by simp
  have : (BitVec.ofNat 64 a ||| BitVec.ofNat 64 b).toNat = a ||| b := by
    rw [BitVec.toNat_or, BitVec.toNat_ofNat, BitVec.toNat_ofNat, Nat.mod_eq_of_lt (by omega), Nat.mod_eq_of_lt (by omega)]
  show IntKind.u64.wrap ((BitVec.ofInt 64 (a : Int) ||| BitVec.ofInt 64 (b : Int)).toNat : Int) = _
  rw [e1, e2, this]
  exact wrap_u64 (by omega) (by omega)
theorem pv_shrR {P : Program} {e : Env} {ty : TypeId} {t t' : TypeId} {x y : Operand} {kk k2 : IntKind} {a b r : Int} (hx : ev e x = some (.int kk a) := by rfl) (hy : ev e y = some (.int k2 b) := by rfl) (h0 : 0 ≤ b := by omega) (hw : a / (2 ^ (min b.toNat kk.bits) : Nat) = r) : PV P (.binOp .shr t x y t') ty e (.int kk r) := by
  subst hw; exact pv_shrN hx hy h0
theorem within_spec (n : Int) (b : Nat) (hb : b ≤ 62) (h0 : -9223372036854775808 ≤ n) (h1 : n ≤ 9223372036854775807) : Spec Tryz.prog 171 [.int .i64 n, .int .i64 b] [] (fun v L => v = .bool (decide (0 ≤ n ∧ n < (2 ^ b : Nat))) ∧ L = []) := by
  refine Spec.intro (IsEnt.out) Tryz.func171 rfl Tryz.ntmps171 (by simp) (fun w0 F => ?_)
  simp only [envOf, List.zipIdx, List.map, List.cons_append, List.nil_append, Nat.zero_add, Nat.reduceAdd]
  have hmin : min (b : Int).toNat IntKind.i64.bits = b := by
    have : IntKind.i64.bits = 64 := rfl
    omega
  repeat (first | refine Zq ?_ | refine Zs ?_ | refine ZT ?_ | refine ZF ?_ | refine Zc ?_ | refine XO_gU (hk := ?_))
  refine XO_either (hT := fun h => ?_) (hF := fun h => ?_) <;> simp only [decide_eq_true_eq, decide_eq_false_iff_not] at h
  · repeat (first | refine Zq ?_ | refine Zs ?_ | refine ZT ?_ | refine ZF ?_ | refine Zc ?_ | refine XO_gU (hk := ?_))
    refine XO_pv (pv_shrN) (hk := ?_)
    rw [hmin]
    repeat (first | refine Zq ?_ | refine Zs ?_ | refine ZT ?_ | refine ZF ?_ | refine Zc ?_ | refine XO_gU (hk := ?_))
    refine XE_ret (.inl rfl) (tells_tmps rfl rfl) ⟨_, ⟨?_, rfl⟩, by ((try simp only [List.cons_append, List.nil_append]); repeat (first | exact ent_refl | refine ent_take (by repeat (first | exact Find.here | apply Find.there)) ?_ | refine ent_drop ?_))⟩
    have hp : 0 < 2 ^ b := Nat.pow_pos (by decide)
    refine congrArg Value.bool ?_
    rw [Bool.eq_iff_iff, decide_eq_true_eq, beq_iff_eq]
    constructor
    · intro hh
      refine ⟨h, ?_⟩
      have := Int.lt_ediv_add_one_mul_self n (show (0 : Int) < ((2 ^ b : Nat) : Int) by omega)
      rw [hh] at this; omega
    · rintro ⟨_, hh⟩
      exact Int.ediv_eq_zero_of_lt h hh
  · repeat (first | refine Zq ?_ | refine Zs ?_ | refine ZT ?_ | refine ZF ?_ | refine Zc ?_ | refine XO_gU (hk := ?_))
    refine XE_ret (.inl rfl) (tells_tmps rfl rfl) ⟨_, ⟨?_, rfl⟩, by ((try simp only [List.cons_append, List.nil_append]); repeat (first | exact ent_refl | refine ent_take (by repeat (first | exact Find.here | apply Find.there)) ?_ | refine ent_drop ?_))⟩
    refine congrArg Value.bool ?_
    rw [decide_eq_false (by omega)]
theorem next_spec (g : Int) (h0 : -9223372036854775808 ≤ g) (h1 : g ≤ 9223372036854775806) : Spec Tryz.prog 146 [.int .i64 g] [] (fun v L => v = .int .i64 (nextI g) ∧ L = []) := by
  refine Spec.intro (IsEnt.out) Tryz.func146 rfl Tryz.ntmps146 (by simp) (fun w0 F => ?_)
  simp only [envOf, List.zipIdx, List.map, List.cons_append, List.nil_append, Nat.zero_add, Nat.reduceAdd]
  repeat (first | refine Zq ?_ | refine Zs ?_ | refine ZT ?_ | refine ZF ?_ | refine Zc ?_ | refine XO_gU (hk := ?_))
  refine XO_call (within_spec g 30 (by decide) h0 (by omega)) (hk := ?_)
  rintro _ _ ⟨rfl, rfl⟩
  by_cases hg : 0 ≤ g ∧ g < 1073741824
  · rw [show decide (0 ≤ g ∧ g < ((2 ^ 30 : Nat) : Int)) = true from decide_eq_true hg]
    repeat (first | refine Zq ?_ | refine Zs ?_ | refine ZT ?_ | refine ZF ?_ | refine Zc ?_ | refine XO_gU (hk := ?_))
    refine XO_call (within_spec (g + 1) 30 (by decide) (by omega) (by omega)) (hk := ?_)
    rintro _ _ ⟨rfl, rfl⟩
    unfold nextI
    by_cases hg2 : g + 1 < 1073741824
    · rw [if_pos ⟨hg.1, hg2⟩, show decide (0 ≤ g + 1 ∧ g + 1 < ((2 ^ 30 : Nat) : Int)) = true from decide_eq_true ⟨by omega, hg2⟩]
      repeat (first | refine Zq ?_ | refine Zs ?_ | refine ZT ?_ | refine ZF ?_ | refine Zc ?_ | refine XO_gU (hk := ?_))
      refine X_cond rfl (fun h => by cases h) (fun _ => ?_)
      repeat (first | refine Zq ?_ | refine Zs ?_ | refine ZT ?_ | refine ZF ?_ | refine Zc ?_ | refine XO_gU (hk := ?_))
      refine XE_ret (.inl rfl) (tells_tmps rfl rfl) ⟨_, ⟨rfl, rfl⟩, by ((try simp only [List.cons_append, List.nil_append]); repeat (first | exact ent_refl | refine ent_take (by repeat (first | exact Find.here | apply Find.there)) ?_ | refine ent_drop ?_))⟩
    · rw [if_neg (fun h => hg2 h.2), show decide (0 ≤ g + 1 ∧ g + 1 < ((2 ^ 30 : Nat) : Int)) = false from decide_eq_false (fun h => hg2 h.2)]
      repeat (first | refine Zq ?_ | refine Zs ?_ | refine ZT ?_ | refine ZF ?_ | refine Zc ?_ | refine XO_gU (hk := ?_))
      refine X_cond rfl (fun _ => ?_) (fun h => by cases h)
      repeat (first | refine Zq ?_ | refine Zs ?_ | refine ZT ?_ | refine ZF ?_ | refine Zc ?_ | refine XO_gU (hk := ?_))
      refine XE_ret (.inl rfl) (tells_tmps rfl rfl) ⟨_, ⟨rfl, rfl⟩, by ((try simp only [List.cons_append, List.nil_append]); repeat (first | exact ent_refl | refine ent_take (by repeat (first | exact Find.here | apply Find.there)) ?_ | refine ent_drop ?_))⟩
  · rw [show decide (0 ≤ g ∧ g < ((2 ^ 30 : Nat) : Int)) = false from decide_eq_false hg]
    unfold nextI
    rw [if_neg (by omega)]
    repeat (first | refine Zq ?_ | refine Zs ?_ | refine ZT ?_ | refine ZF ?_ | refine Zc ?_ | refine XO_gU (hk := ?_))
    refine X_cond rfl (fun _ => ?_) (fun h => by cases h)
    repeat (first | refine Zq ?_ | refine Zs ?_ | refine ZT ?_ | refine ZF ?_ | refine Zc ?_ | refine XO_gU (hk := ?_))
    refine XE_ret (.inl rfl) (tells_tmps rfl rfl) ⟨_, ⟨rfl, rfl⟩, by ((try simp only [List.cons_append, List.nil_append]); repeat (first | exact ent_refl | refine ent_take (by repeat (first | exact Find.here | apply Find.there)) ?_ | refine ent_drop ?_))⟩
theorem pack_spec (k i g : Int) (k0 : -9223372036854775808 ≤ k ∧ k ≤ 9223372036854775807) (i0 : -9223372036854775808 ≤ i ∧ i ≤ 9223372036854775807) (g0 : -9223372036854775808 ≤ g ∧ g ≤ 9223372036854775807) : Spec Tryz.prog 137 [.int .i64 k, .int .i64 i, .int .i64 g] [] (fun v L => v = .int .u64 (packI k i g) ∧ L = []) := by
  refine Spec.intro (IsEnt.out) Tryz.func137 rfl Tryz.ntmps137 (by simp) (fun w0 F => ?_)
  simp only [envOf, List.zipIdx, List.map, List.cons_append, List.nil_append, Nat.zero_add, Nat.reduceAdd]
  repeat (first | refine Zq ?_ | refine Zs ?_ | refine ZT ?_ | refine ZF ?_ | refine Zc ?_ | refine XO_gU (hk := ?_))
  refine XO_either (hT := fun h => ?_) (hF := fun h => ?_) <;> simp only [decide_eq_true_eq, decide_eq_false_iff_not] at h
  · rw [show packI k i g = 0 from if_neg (fun hh => by have := hh.1; omega)]
    repeat (first | refine Zq ?_ | refine Zs ?_ | refine ZT ?_ | refine ZF ?_ | refine Zc ?_ | refine XO_gU (hk := ?_))
    refine X_cond rfl (fun _ => ?_) (fun h => by cases h)
    repeat (first | refine Zq ?_ | refine Zs ?_ | refine ZT ?_ | refine ZF ?_ | refine Zc ?_ | refine XO_gU (hk := ?_))
    refine XE_ret (.inl rfl) (tells_tmps rfl rfl) ⟨_, ⟨rfl, rfl⟩, by ((try simp only [List.cons_append, List.nil_append]); repeat (first | exact ent_refl | refine ent_take (by repeat (first | exact Find.here | apply Find.there)) ?_ | refine ent_drop ?_))⟩
  repeat (first | refine Zq ?_ | refine Zs ?_ | refine ZT ?_ | refine ZF ?_ | refine Zc ?_ | refine XO_gU (hk := ?_))
  by_cases hk3 : 3 < k
  · rw [show packI k i g = 0 from if_neg (fun hh => by have := hh.2.1; omega), decide_eq_true hk3]
    repeat (first | refine Zq ?_ | refine Zs ?_ | refine ZT ?_ | refine ZF ?_ | refine Zc ?_ | refine XO_gU (hk := ?_))
    refine X_cond rfl (fun _ => ?_) (fun h => by cases h)
    repeat (first | refine Zq ?_ | refine Zs ?_ | refine ZT ?_ | refine ZF ?_ | refine Zc ?_ | refine XO_gU (hk := ?_))
    refine XE_ret (.inl rfl) (tells_tmps rfl rfl) ⟨_, ⟨rfl, rfl⟩, by ((try simp only [List.cons_append, List.nil_append]); repeat (first | exact ent_refl | refine ent_take (by repeat (first | exact Find.here | apply Find.there)) ?_ | refine ent_drop ?_))⟩
  rw [decide_eq_false hk3]
  repeat (first | refine Zq ?_ | refine Zs ?_ | refine ZT ?_ | refine ZF ?_ | refine Zc ?_ | refine XO_gU (hk := ?_))
  refine XO_call (within_spec i 32 (by decide) i0.1 i0.2) (hk := ?_)
  rintro _ _ ⟨rfl, rfl⟩
  by_cases hi : 0 ≤ i ∧ i < 4294967296
  case neg =>
    rw [show packI k i g = 0 from if_neg (fun hh => hi hh.2.2.1), show decide (0 ≤ i ∧ i < ((2 ^ 32 : Nat) : Int)) = false from decide_eq_false hi]
    repeat (first | refine Zq ?_ | refine Zs ?_ | refine ZT ?_ | refine ZF ?_ | refine Zc ?_ | refine XO_gU (hk := ?_))
    refine X_cond rfl (fun _ => ?_) (fun h => by cases h)
    repeat (first | refine Zq ?_ | refine Zs ?_ | refine ZT ?_ | refine ZF ?_ | refine Zc ?_ | refine XO_gU (hk := ?_))
    refine XE_ret (.inl rfl) (tells_tmps rfl rfl) ⟨_, ⟨rfl, rfl⟩, by ((try simp only [List.cons_append, List.nil_append]); repeat (first | exact ent_refl | refine ent_take (by repeat (first | exact Find.here | apply Find.there)) ?_ | refine ent_drop ?_))⟩
  rw [show decide (0 ≤ i ∧ i < ((2 ^ 32 : Nat) : Int)) = true from decide_eq_true hi]
  repeat (first | refine Zq ?_ | refine Zs ?_ | refine ZT ?_ | refine ZF ?_ | refine Zc ?_ | refine XO_gU (hk := ?_))
  refine XO_call (within_spec g 30 (by decide) g0.1 g0.2) (hk := ?_)
  rintro _ _ ⟨rfl, rfl⟩
  by_cases hg : 0 ≤ g ∧ g < 1073741824
  case neg =>
    rw [show packI k i g = 0 from if_neg (fun hh => hg hh.2.2.2), show decide (0 ≤ g ∧ g < ((2 ^ 30 : Nat) : Int)) = false from decide_eq_false hg]
    repeat (first | refine Zq ?_ | refine Zs ?_ | refine ZT ?_ | refine ZF ?_ | refine Zc ?_ | refine XO_gU (hk := ?_))
    refine X_cond rfl (fun _ => ?_) (fun h => by cases h)
    repeat (first | refine Zq ?_ | refine Zs ?_ | refine ZT ?_ | refine ZF ?_ | refine Zc ?_ | refine XO_gU (hk := ?_))
    refine XE_ret (.inl rfl) (tells_tmps rfl rfl) ⟨_, ⟨rfl, rfl⟩, by ((try simp only [List.cons_append, List.nil_append]); repeat (first | exact ent_refl | refine ent_take (by repeat (first | exact Find.here | apply Find.there)) ?_ | refine ent_drop ?_))⟩
  rw [show decide (0 ≤ g ∧ g < ((2 ^ 30 : Nat) : Int)) = true from decide_eq_true hg]
  repeat (first | refine Zq ?_ | refine Zs ?_ | refine ZT ?_ | refine ZF ?_ | refine Zc ?_ | refine XO_gU (hk := ?_))
  refine X_cond rfl (fun h => by cases h) (fun _ => ?_)
  repeat (first | refine Zq ?_ | refine Zs ?_ | refine ZT ?_ | refine ZF ?_ | refine Zc ?_ | refine XO_gU (hk := ?_))
  refine XO_pv (pv_shlN (r := k * 4611686018427387904) (hw := by rw [wrap_u64_eq]; show k * 4611686018427387904 % 18446744073709551616 = _; omega)) (hk := ?_)
  repeat (first | refine Zq ?_ | refine Zs ?_ | refine ZT ?_ | refine ZF ?_ | refine Zc ?_ | refine XO_gU (hk := ?_))
  refine XO_pv (pv_shlN (r := g * 4294967296) (hw := by rw [wrap_u64_eq]; show g * 4294967296 % 18446744073709551616 = _; omega)) (hk := ?_)
  repeat (first | refine Zq ?_ | refine Zs ?_ | refine ZT ?_ | refine ZF ?_ | refine Zc ?_ | refine XO_gU (hk := ?_))
  refine XE_ret (.inl rfl) (tells_tmps rfl rfl) ⟨_, ⟨?_, rfl⟩, by ((try simp only [List.cons_append, List.nil_append]); repeat (first | exact ent_refl | refine ent_take (by repeat (first | exact Find.here | apply Find.there)) ?_ | refine ent_drop ?_))⟩
  refine congrArg (Value.int .u64) ?_
  rw [pack_ok ⟨by omega, by omega, hi, hg⟩]
  obtain ⟨k', rfl⟩ := Int.eq_ofNat_of_zero_le (show 0 ≤ k by omega)
  obtain ⟨i', rfl⟩ := Int.eq_ofNat_of_zero_le hi.1
  obtain ⟨g', rfl⟩ := Int.eq_ofNat_of_zero_le hg.1
  have e1 := or_pack (k := k') (g := g') (i := i') (by omega) (by omega) (by omega)
  rw [show (k' : Int) * 4611686018427387904 = ((k' * 4611686018427387904 : Nat) : Int) from by omega, show (g' : Int) * 4294967296 = ((g' * 4294967296 : Nat) : Int) from by omega]
  have e2 : k' * 4611686018427387904 ||| g' * 4294967296 < 2 ^ 64 := Nat.or_lt_two_pow (by omega) (by omega)
  rw [bitop_or_u64h (by omega) (by omega), bitop_or_u64h (by omega) (by omega), e1]
  omega
theorem unp1_spec (b : Nat) (h : Int) (h0 : 0 ≤ h) (h1 : h ≤ 18446744073709551615) (x y : Nat) (hx : x ≤ 62) (hy : y ≤ 62) : Spec Tryz.prog 172 [.int .i64 x, .int .i64 y, .pointer (some ⟨b, 0, none⟩)] [pt b (.cells [.int .u64 h].toArray 32 (0, 0))] (fun v L => v = .int .i64 (h / (2 ^ x : Nat) % (2 ^ y : Nat)) ∧ L = [pt b (.cells [.int .u64 h].toArray 32 (0, 0))]) := by
  refine Spec.intro (IsEnt.out) Tryz.func172 rfl Tryz.ntmps172 (by simp) (fun w0 F => ?_)
  simp only [envOf, List.zipIdx, List.map, List.cons_append, List.nil_append, Nat.zero_add, Nat.reduceAdd]
  have hb64 : IntKind.u64.bits = 64 := rfl
  have hmx : min (x : Int).toNat IntKind.u64.bits = x := by omega
  have hmy : min (y : Int).toNat IntKind.u64.bits = y := by omega
  have hy1 : (2 : Nat) ^ y ≤ 2 ^ 62 := Nat.pow_le_pow_right (by decide) hy
  have hy0 : 0 < 2 ^ y := Nat.pow_pos (by decide)
  have hyc : ((2 : Int) ^ y) = ((2 ^ y : Nat) : Int) := by simp
  have hr0 : 0 ≤ h / (2 ^ x : Nat) % (2 ^ y : Nat) := Int.emod_nonneg _ (by omega)
  have hr1 : h / (2 ^ x : Nat) % (2 ^ y : Nat) < (2 ^ y : Nat) := Int.emod_lt_of_pos _ (by omega)
  repeat (first | refine Zq ?_ | refine Zs ?_ | refine ZT ?_ | refine ZF ?_ | refine Zc ?_ | refine XO_gU (hk := ?_))
  repeat (first | refine XD_pick (h := ?_) | refine Dq ?_ | refine Ds ?_ | refine XDi_gF (h := ?_) | refine XDi_gU (h := ?_) | refine X_draws (h := ?_))
  refine Dp (pv_shrR (r := h / (2 ^ x : Nat)) (hw := by rw [hmx])) ?_
  repeat (first | refine XD_pick (h := ?_) | refine Dq ?_ | refine Ds ?_ | refine XDi_gF (h := ?_) | refine XDi_gU (h := ?_) | refine X_draws (h := ?_))
  refine Dp (pv_shlN (r := ((2 ^ y : Nat) : Int)) (hw := by rw [hmy, Int.one_mul, wrap_u64_eq]; omega)) ?_
  repeat (first | refine XD_pick (h := ?_) | refine Dq ?_ | refine Ds ?_ | refine XDi_gF (h := ?_) | refine XDi_gU (h := ?_) | refine X_draws (h := ?_))
  rw [shr_mask h0 h1 x y hy, show IntKind.i64.wrap (h / (2 ^ x : Nat) % (2 ^ y : Nat)) = h / (2 ^ x : Nat) % (2 ^ y : Nat) from wrap_i64 (by omega) (by omega)]
  (refine XD_one (h := ?_); refine XDa_dvA (dv_of_rv (rv_of_pv pv_assign)) (hk := ?_); rintro _ _ ⟨rfl, rfl⟩; refine ⟨by (repeat (first | exact keeps_nil | exact keeps_fnil | refine keeps_skip (h := ?_) | refine keeps_takeQ (h := ?_))), ?_⟩)
  (refine XD_end (h := ?_); repeat (first | refine Zq ?_ | refine Zs ?_ | refine ZT ?_ | refine ZF ?_ | refine Zc ?_ | refine XO_gU (hk := ?_)))
  refine XE_ret (.inl rfl) (tells_tmps rfl rfl) ⟨_, ⟨rfl, rfl⟩, by ((try simp only [List.cons_append, List.nil_append]); repeat (first | exact ent_refl | refine ent_take (by repeat (first | exact Find.here | apply Find.there)) ?_ | refine ent_drop ?_))⟩
def unpV (h : Int) : Value := if hKind h = 0 then .tuple #[.int .i64 0, .int .i64 0, .int .i64 0, .bool false] else .tuple #[.int .i64 (hKind h), .int .i64 (hSlot h), .int .i64 (hGen h), .bool true]
theorem unpack_spec (h : Int) (h0 : 0 ≤ h) (h1 : h ≤ 18446744073709551615) : Spec Tryz.prog 143 [.int .u64 h] [] (fun v L => v = unpV h ∧ L = []) := by
  refine Spec.intro (IsEnt.out) Tryz.func143 rfl Tryz.ntmps143 (by simp) (fun w0 F => ?_)
  simp only [envOf, List.zipIdx, List.map, List.cons_append, List.nil_append, Nat.zero_add, Nat.reduceAdd]
  repeat (first | refine Zq ?_ | refine Zs ?_ | refine ZT ?_ | refine ZF ?_ | refine Zc ?_ | refine XO_gU (hk := ?_))
  refine XO_dv dv_box1 (hk := ?_)
  rintro _ _ ⟨cb, rfl, rfl⟩
  repeat (first | refine Zq ?_ | refine Zs ?_ | refine ZT ?_ | refine ZF ?_ | refine Zc ?_ | refine XO_gU (hk := ?_))
  refine XO_call (unp1_spec cb h h0 h1 62 2 (by decide) (by decide)) (hk := ?_)
  rintro _ _ ⟨rfl, rfl⟩
  rw [show h / ((2 ^ 62 : Nat) : Int) % ((2 ^ 2 : Nat) : Int) = hKind h from by show h / 4611686018427387904 % 4 = h / 4611686018427387904; omega]
  repeat (first | refine Zq ?_ | refine Zs ?_ | refine ZT ?_ | refine ZF ?_ | refine Zc ?_ | refine XO_gU (hk := ?_))
  unfold unpV
  refine X_cond rfl (fun hh => ?_) (fun hh => ?_) <;> simp only [beq_iff_eq, beq_eq_false_iff_ne, ne_eq] at hh
  · rw [if_pos hh]
    repeat (first | refine Zq ?_ | refine Zs ?_ | refine ZT ?_ | refine ZF ?_ | refine Zc ?_ | refine XO_gU (hk := ?_))
    refine XE_ret (.inl rfl) (tells_tmps rfl rfl) ⟨_, ⟨rfl, rfl⟩, by ((try simp only [List.cons_append, List.nil_append]); repeat (first | exact ent_refl | refine ent_take (by repeat (first | exact Find.here | apply Find.there)) ?_ | refine ent_drop ?_))⟩
  rw [if_neg hh]
  repeat (first | refine Zq ?_ | refine Zs ?_ | refine ZT ?_ | refine ZF ?_ | refine Zc ?_ | refine XO_gU (hk := ?_))
  repeat (first | refine XD_pick (h := ?_) | refine Dq ?_ | refine Ds ?_ | refine XDi_gF (h := ?_) | refine XDi_gU (h := ?_) | refine X_draws (h := ?_))
  rw [show IntKind.i64.wrap (IntKind.u32.wrap h) = hSlot h from by
    have e1 : IntKind.u32.wrap h = h % 4294967296 := by simp [IntKind.wrap, IntKind.bits, IntKind.signed]
    rw [e1]; exact wrap_i64 (by omega) (by omega)]
  refine XD_one (h := ?_)
  refine XDa_dvA (dv_call (unp1_spec cb h h0 h1 32 30 (by decide) (by decide))) (hk := ?_)
  (rintro _ _ ⟨_, ⟨rfl, rfl⟩, rfl⟩; refine ⟨by (repeat (first | exact keeps_nil | exact keeps_fnil | refine keeps_skip (h := ?_) | refine keeps_takeQ (h := ?_))), ?_⟩)
  rw [show h / ((2 ^ 32 : Nat) : Int) % ((2 ^ 30 : Nat) : Int) = hGen h from rfl]
  repeat (first | refine XD_pick (h := ?_) | refine Dq ?_ | refine Ds ?_ | refine XDi_gF (h := ?_) | refine XDi_gU (h := ?_) | refine X_draws (h := ?_))
  (refine XD_one (h := ?_); refine XDa_dvA (dv_of_rv (rv_of_pv pv_assign)) (hk := ?_); rintro _ _ ⟨rfl, rfl⟩; refine ⟨by (repeat (first | exact keeps_nil | exact keeps_fnil | refine keeps_skip (h := ?_) | refine keeps_takeQ (h := ?_))), ?_⟩)
  (refine XD_one (h := ?_); refine XDa_dvA (dv_of_rv (rv_of_pv pv_assign)) (hk := ?_); rintro _ _ ⟨rfl, rfl⟩; refine ⟨by (repeat (first | exact keeps_nil | exact keeps_fnil | refine keeps_skip (h := ?_) | refine keeps_takeQ (h := ?_))), ?_⟩)
  (refine XD_one (h := ?_); refine XDa_dvA (dv_of_rv (rv_of_pv pv_assign)) (hk := ?_); rintro _ _ ⟨rfl, rfl⟩; refine ⟨by (repeat (first | exact keeps_nil | exact keeps_fnil | refine keeps_skip (h := ?_) | refine keeps_takeQ (h := ?_))), ?_⟩)
  (refine XD_one (h := ?_); refine XDa_dvA (dv_of_rv (rv_of_pv pv_assign)) (hk := ?_); rintro _ _ ⟨rfl, rfl⟩; refine ⟨by (repeat (first | exact keeps_nil | exact keeps_fnil | refine keeps_skip (h := ?_) | refine keeps_takeQ (h := ?_))), ?_⟩)
  (refine XD_end (h := ?_); repeat (first | refine Zq ?_ | refine Zs ?_ | refine ZT ?_ | refine ZF ?_ | refine Zc ?_ | refine XO_gU (hk := ?_)))
  refine XE_ret (.inl rfl) (tells_tmps rfl rfl) ⟨_, ⟨rfl, rfl⟩, by ((try simp only [List.cons_append, List.nil_append]); repeat (first | exact ent_refl | refine ent_take (by repeat (first | exact Find.here | apply Find.there)) ?_ | refine ent_drop ?_))⟩
end Go.Proofs.YtamecmklcnohjaaGreat.Sep
namespace Go.Proofs.YtamecmklcnohjaaGreat.Sep
open Go.RowKit
set_option linter.unusedSimpArgs false
set_option linter.unusedVariables false
/-! tables of things, by their handles: plainly -/
structure Tb (α : Type) where
  kind : Int
  slots : List (α × Bool × Int)
  free : List Int
section
variable {α : Type}
def Tb.genAt (t : Tb α) (i : Nat) : Int := match t.slots[i]? with
  | none => 0
  | some q => q.2.2
def Tb.hAt (t : Tb α) (i : Nat) : Int := packI t.kind i (t.genAt i)
def Tb.usedAt (t : Tb α) (i : Nat) : Bool := match t.slots[i]? with
  | none => false
  | some q => q.2.1
def Tb.spot (t : Tb α) (h : Int) : Option Nat :=
  if hKind h ≠ 0 ∧ t.usedAt (hSlot h).toNat = true ∧ hKind h = t.kind ∧ hGen h = t.genAt (hSlot h).toNat then some (hSlot h).toNat else none
def Tb.get (t : Tb α) (h : Int) : Option α := (t.spot h).bind fun i => t.slots[i]?.map (·.1)
def Tb.nx (t : Tb α) : Nat := match t.free.getLast? with
  | none => t.slots.length
  | some i => i.toNat
def Tb.addH (t : Tb α) : Int := t.hAt t.nx
def Tb.add (t : Tb α) (v : α) : Tb α := match t.free.getLast? with
  | none => ⟨t.kind, t.slots ++ [(v, true, 0)], t.free⟩
  | some i => ⟨t.kind, t.slots.set i.toNat (v, true, t.genAt i.toNat), t.free.dropLast⟩
def Tb.put (t : Tb α) (h : Int) (v : α) : Tb α := match t.spot h with
  | none => t
  | some i => ⟨t.kind, t.slots.set i (v, true, t.genAt i), t.free⟩
def Tb.drop (d : α) (t : Tb α) (h : Int) : Tb α := match t.spot h with
  | none => t
  | some i => ⟨t.kind, t.slots.set i (d, false, nextI (t.genAt i)), t.free ++ [(i : Int)]⟩
def Tb.handlesTo (t : Tb α) : Nat → List Int
  | 0 => []
  | k + 1 => t.handlesTo k ++ (if t.usedAt k = true then [t.hAt k] else [])
def Tb.handles (t : Tb α) : List Int := t.handlesTo t.slots.length
structure TbOk (N : Nat) (t : Tb α) : Prop where
  hN : N ≤ 1000000
  kd : 1 ≤ t.kind ∧ t.kind ≤ 3
  len : t.slots.length ≤ N
  gens : ∀ q ∈ t.slots, 0 ≤ q.2.2 ∧ q.2.2 ≤ N
  free : ∀ i ∈ t.free, 0 ≤ i ∧ i.toNat < t.slots.length ∧ t.usedAt i.toNat = false
  nd : t.free.Nodup
theorem Tb.usedAt_lt {t : Tb α} {i : Nat} (h : t.usedAt i = true) : i < t.slots.length := by
  unfold Tb.usedAt at h
  rcases Nat.lt_or_ge i t.slots.length with h1 | h1
  · exact h1
  · rw [List.getElem?_eq_none h1] at h; cases h
theorem TbOk.gen {N : Nat} {t : Tb α} (h : TbOk N t) (i : Nat) : 0 ≤ t.genAt i ∧ t.genAt i ≤ N := by
  unfold Tb.genAt
  cases hq : t.slots[i]? with
  | none => exact ⟨Int.le_refl _, Int.natCast_nonneg _⟩
  | some q => exact h.gens q (List.mem_of_getElem? hq)
theorem TbOk.hok {N : Nat} {t : Tb α} (h : TbOk N t) {i : Nat} (hi : i ≤ N) : HOk t.kind i (t.genAt i) := by
  have := h.gen i; have := h.hN; have := h.kd
  exact ⟨this.1, this.2, ⟨by omega, by omega⟩, by omega, by omega⟩
theorem Tb.spot_some {t : Tb α} {h : Int} {i : Nat} (hs : t.spot h = some i) : hKind h ≠ 0 ∧ t.usedAt i = true ∧ hKind h = t.kind ∧ hGen h = t.genAt i ∧ (hSlot h).toNat = i ∧ i < t.slots.length := by
  unfold Tb.spot at hs
  split at hs
  · rename_i hh; cases hs; exact ⟨hh.1, hh.2.1, hh.2.2.1, hh.2.2.2, rfl, Tb.usedAt_lt hh.2.1⟩
  · cases hs
theorem TbOk.nx_le {N : Nat} {t : Tb α} (h : TbOk N t) : t.nx ≤ t.slots.length := by
  unfold Tb.nx
  cases hl : t.free.getLast? with
  | none => exact Nat.le_refl _
  | some i => exact Nat.le_of_lt (h.free i (List.mem_of_getLast? hl)).2.1
theorem nodup_len : ∀ (n : Nat) (l : List Int), l.Nodup → (∀ x ∈ l, 0 ≤ x ∧ x.toNat < n) → l.length ≤ n
  | 0, l, _, h => by
    cases l with
    | nil => exact Nat.le_refl _
    | cons x l => have := h x (by simp); omega
  | n + 1, l, hn, h => by
    have h1 := nodup_len n (l.erase (n : Int)) (hn.erase _) fun x hx => by
      have hx' := hn.mem_erase_iff.1 hx
      have := h x hx'.2
      have hne := hx'.1
      omega
    have h2 := List.length_erase (a := (n : Int)) (l := l)
    split at h2 <;> omega
theorem TbOk.fl {N : Nat} {t : Tb α} (h : TbOk N t) : t.free.length ≤ t.slots.length := nodup_len _ _ h.nd fun x hx => ⟨(h.free x hx).1, (h.free x hx).2.1⟩
/-- A table in which a slot is laid for one thing more. -/
def Tb.room (d : α) (t : Tb α) : Tb α := match t.free.getLast? with
  | none => ⟨t.kind, t.slots ++ [(d, false, 0)], t.free⟩
  | some _ => ⟨t.kind, t.slots, t.free.dropLast⟩
theorem Tb.room_lt {N : Nat} {t : Tb α} (h : TbOk N t) (d : α) : t.nx < (t.room d).slots.length := by
  unfold Tb.room Tb.nx
  cases hl : t.free.getLast? with
  | none => simp
  | some i => exact (h.free i (List.mem_of_getLast? hl)).2.1
theorem Tb.room_gen {N : Nat} {t : Tb α} (h : TbOk N t) (d : α) (hi : t.nx < (t.room d).slots.length) : (t.room d).slots[t.nx].2.2 = t.genAt t.nx := by
  have key : (t.room d).slots[t.nx]?.map (·.2.2) = some (t.genAt t.nx) := by
    unfold Tb.room Tb.nx Tb.genAt
    cases hl : t.free.getLast? with
    | none => simp
    | some i =>
      have := (h.free i (List.mem_of_getLast? hl)).2.1
      simp [this]
  rw [List.getElem?_eq_getElem hi] at key
  exact Option.some.inj key
theorem Tb.add_eq {N : Nat} {t : Tb α} (h : TbOk N t) (d v : α) : t.add v = ⟨t.kind, (t.room d).slots.set t.nx (v, true, t.genAt t.nx), (t.room d).free⟩ := by
  unfold Tb.room Tb.nx Tb.add
  cases hl : t.free.getLast? with
  | none => simp [hl, Tb.genAt]
  | some i => simp [hl]
theorem Tb.add_len {N : Nat} {t : Tb α} (h : TbOk N t) (v : α) : (t.add v).slots.length ≤ t.slots.length + 1 := by
  unfold Tb.add
  cases hl : t.free.getLast? with
  | none => simp
  | some i => simp
theorem Tb.add_gen {N : Nat} {t : Tb α} (h : TbOk N t) (v : α) (j : Nat) : (t.add v).genAt j = t.genAt j := by
  unfold Tb.add Tb.genAt
  cases hl : t.free.getLast? with
  | none =>
    simp only
    rcases Nat.lt_trichotomy j t.slots.length with h1 | h1 | h1
    · rw [List.getElem?_append_left h1]
    · subst h1; simp
    · rw [List.getElem?_eq_none (by simp; omega), List.getElem?_eq_none (by omega)]
  | some i =>
    have hi := (h.free i (List.mem_of_getLast? hl)).2.1
    simp only
    rw [List.getElem?_set]
    by_cases h1 : i.toNat = j
    · subst h1; simp [hi]
    · rw [if_neg h1]
theorem Tb.add_used {N : Nat} {t : Tb α} (h : TbOk N t) (v : α) (j : Nat) : (t.add v).usedAt j = if j = t.nx then true else t.usedAt j := by
  unfold Tb.add Tb.usedAt Tb.nx
  cases hl : t.free.getLast? with
  | none =>
    simp only
    rcases Nat.lt_trichotomy j t.slots.length with h1 | h1 | h1
    · rw [List.getElem?_append_left h1, if_neg (by omega)]
    · subst h1; simp
    · rw [List.getElem?_eq_none (by simp; omega), List.getElem?_eq_none (by omega), if_neg (by omega)]
  | some i =>
    have hi := (h.free i (List.mem_of_getLast? hl)).2.1
    simp only
    rw [List.getElem?_set]
    by_cases h1 : i.toNat = j
    · subst h1; simp [hi]
    · rw [if_neg h1, if_neg (fun e => h1 e.symm)]
theorem TbOk.add {N : Nat} {t : Tb α} (h : TbOk N t) (hN : N + 1 ≤ 1000000) (v : α) : TbOk (N + 1) (t.add v) := by
  refine ⟨hN, ?_, ?_, ?_, ?_, ?_⟩
  · have := h.kd; unfold Tb.add; cases t.free.getLast? <;> exact this
  · have := Tb.add_len h v; have := h.len; omega
  · intro q hq
    have hg := fun q hq => h.gens q hq
    unfold Tb.add at hq
    cases hl : t.free.getLast? with
    | none =>
      rw [hl] at hq
      rcases List.mem_append.1 hq with h1 | h1
      · have := hg q h1; omega
      · simp at h1; subst h1; simp; omega
    | some i =>
      rw [hl] at hq
      rcases List.mem_or_eq_of_mem_set hq with h1 | h1
      · have := hg q h1; omega
      · subst h1; have := h.gen i.toNat; simp only; omega
  · intro i hi
    have hf : i ∈ t.free ∧ i.toNat ≠ t.nx := by
      unfold Tb.add at hi
      cases hl : t.free.getLast? with
      | none =>
        rw [hl] at hi
        have : t.free = [] := List.getLast?_eq_none_iff.1 hl
        simp only [this] at hi; cases hi
      | some j =>
        rw [hl] at hi
        have hm := List.dropLast_subset _ hi
        refine ⟨hm, fun e => ?_⟩
        have e1 : t.nx = j.toNat := by unfold Tb.nx; rw [hl]
        have hj := h.free j (List.mem_of_getLast? hl)
        have hij : i = j := by have := (h.free i hm).1; omega
        subst hij
        have hne : t.free ≠ [] := fun e => by rw [e] at hl; cases hl
        have hd := List.dropLast_concat_getLast hne
        have hlast : t.free.getLast hne = i := by rw [List.getLast?_eq_some_getLast hne] at hl; exact Option.some.inj hl
        have hnd := h.nd
        rw [← hd, hlast, List.nodup_append] at hnd
        exact hnd.2.2 i hi i (by simp) rfl
    have h1 := h.free i hf.1
    refine ⟨h1.1, ?_, ?_⟩
    · rw [show (t.add v).slots.length = (t.room v).slots.length from by rw [Tb.add_eq h v v]; simp]
      have : t.slots.length ≤ (t.room v).slots.length := by unfold Tb.room; cases t.free.getLast? <;> simp
      omega
    · rw [Tb.add_used h, if_neg hf.2]; exact h1.2.2
  · unfold Tb.add
    cases hl : t.free.getLast? with
    | none => exact h.nd
    | some i => exact (List.dropLast_sublist _).nodup h.nd
/-- Where a slot lies. -/
def slotA : Option Addr → Nat → Option Nat → Option Addr
  | some ad, s, some i => some ⟨ad.block, ad.off + i * s, none⟩
  | _, _, _ => none
def eSlt (eV : E α) : E (α × Bool × Int) := ⟨eV.sz + 2, true, fun q => eV.cells q.1 ++ [.bool q.2.1, .int .i64 q.2.2], fun q => by simp [eV.len], fun q v hv => by
  rcases List.mem_append.1 hv with h | h
  · exact eV.one _ _ h
  · simp at h; rcases h with rfl | rfl <;> rfl, by omega, fun h => by cases h⟩
abbrev tbRow (k : Int) (a1 : Option Addr) (n1 c1 : Nat) (a2 : Option Addr) (n2 c2 : Nat) : List Value := [.int .i64 k, .slice a1 n1 c1, .slice a2 n2 c2]
def Tbl (eV : E α) (T : TypeId) (b : Nat) (t : Tb α) : HP := fun H => ∃ x : (Option Addr × Nat) × (Option Addr × Nat), SL [pt b (.cells (tbRow t.kind x.1.1 t.slots.length x.1.2 x.2.1 t.free.length x.2.2).toArray T (0, 0)), Sl (eSlt eV) x.1.1 x.1.2 t.slots, Sl (eI .i64) x.2.1 x.2.2 t.free] H
theorem Tbl.open {eV : E α} {T : TypeId} {b : Nat} {t : Tb α} : ∀ H, Tbl eV T b t H → ∃ x : (Option Addr × Nat) × (Option Addr × Nat), True ∧ SL [pt b (.cells (tbRow t.kind x.1.1 t.slots.length x.1.2 x.2.1 t.free.length x.2.2).toArray T (0, 0)), Sl (eSlt eV) x.1.1 x.1.2 t.slots, Sl (eI .i64) x.2.1 x.2.2 t.free] H := fun H ⟨x, h⟩ => ⟨x, trivial, h⟩
theorem Tbl.fold {eV : E α} {T : TypeId} {b : Nat} {t : Tb α} {a1 a2 : Option Addr} {n1 c1 n2 c2 : Nat} (h1 : n1 = t.slots.length) (h2 : n2 = t.free.length) : ∀ H, SL [pt b (.cells (tbRow t.kind a1 n1 c1 a2 n2 c2).toArray T (0, 0)), Sl (eSlt eV) a1 c1 t.slots, Sl (eI .i64) a2 c2 t.free] H → Tbl eV T b t H := by
  subst h1 h2; exact fun H h => ⟨((a1, c1), (a2, c2)), h⟩
end
end Go.Proofs.YtamecmklcnohjaaGreat.Sep
