import Derived.Test.YtamecmklcnohjaaGreatBn13
import Derived.Test.YtamecmklcnohjaaGreatBn8
import Derived.Test.YtamecmklcnohjaaGreatBn9
import Derived.Test.YtamecmklcnohjaaGreatBn2
/- What the laws share: a separation logic over the model, and what the program's functions do, by it. Part 14 of 14: RegE RegF Star LedJ LedH LedM Act19R. -/
namespace Go.Proofs.YtamecmklcnohjaaGreat.Sep
open Go.RowKit
set_option linter.unusedSimpArgs false
set_option linter.unusedVariables false
/-! regions: rewound -/
set_option maxHeartbeats 8000000
attribute [local irreducible] X XE XO XD XDi XDa PV RV DV pt base Spec Sl Mp Keeps Pg Kc Pgs Spc Ck XL XLi Pl Rs Rg
theorem rrew_no (r s : Nat) (o : Int) (S : Sh) (mc ml at_ ob pd : Int) (hl : S.parts.length ≤ 1048576) (hl2 : S.larges.length ≤ 1048576) (hf : fitsS S mc ml at_ = false) :
    Spec Tryz.prog 21 [.pointer (some ⟨r, 0, none⟩), .agg #[.int .i64 mc, .int .i64 ml, .int .u64 at_, .int .u64 ob, .int .u64 pd]] [Rg r s o S] (fun v L => v = .int .i64 2 ∧ L = [Rg r s o S]) := by
  refine Spec.intro (IsEnt.out) Tryz.func21 rfl Tryz.ntmps21 (by simp) (fun w0 F => ?_)
  simp only [envOf, List.zipIdx, List.map, List.cons_append, List.nil_append, Nat.zero_add, Nat.reduceAdd]
  have hs := rcheck_spec r s o S mc ml at_ ob pd hl hl2
  rw [hf] at hs
  repeat (first | refine Zq ?_ | refine Zs ?_ | refine ZT ?_ | refine ZF ?_ | refine Zc ?_ | refine XO_gU (hk := ?_))
  refine XO_dv dv_box (hk := ?_)
  rintro _ _ ⟨b3, rfl, rfl⟩
  repeat (first | refine Zq ?_ | refine Zs ?_ | refine ZT ?_ | refine ZF ?_ | refine Zc ?_ | refine XO_gU (hk := ?_))
  refine XO_call hs (hk := ?_)
  rintro _ _ ⟨rfl, rfl⟩
  repeat (first | refine Zq ?_ | refine Zs ?_ | refine ZT ?_ | refine ZF ?_ | refine Zc ?_ | refine XO_gU (hk := ?_))
  refine X_cond rfl (fun _ => ?_) (fun h => by cases h)
  repeat (first | refine Zq ?_ | refine Zs ?_ | refine ZT ?_ | refine ZF ?_ | refine Zc ?_ | refine XO_gU (hk := ?_))
  refine XE_ret (.inl rfl) (tells_tmps rfl rfl) ⟨_, ⟨rfl, rfl⟩, by ((try simp only [List.cons_append, List.nil_append]); repeat (first | exact ent_refl | refine ent_take (by repeat (first | exact Find.here | apply Find.there)) ?_ | refine ent_drop ?_))⟩
theorem rrew_ok (r s sb : Nat) {P : Int} {B : Nat} {o : Int} {C : Co} {m : Mm} {S : Sh} {oth : List (Int × Hd)} {mc ml at_ ob pd : Int} (hR : RInv P B o C m.f S oth) (hf : fitsS S mc ml at_ = true) (h0 : 0 ≤ at_) (h1 : at_ ≤ 18446744073709551615) :
    Spec Tryz.prog 21 [.pointer (some ⟨r, 0, none⟩), .agg #[.int .i64 mc, .int .i64 ml, .int .u64 at_, .int .u64 ob, .int .u64 pd]] [Rg r s o S, Ck s sb C, Spc sb P m]
      (fun v L => v = .int .i64 0 ∧ L = [Rg r s o (setTop (cutS S mc ml) at_ ob pd), Ck s sb (putsC C S mc ml), Spc sb P (rewM P m S mc ml at_)]) := by
  refine Spec.intro (IsEnt.out) Tryz.func21 rfl Tryz.ntmps21 (by simp) (fun w0 F => ?_)
  simp only [envOf, List.zipIdx, List.map, List.cons_append, List.nil_append, Nat.zero_add, Nat.reduceAdd]
  have hlen := hR.len
  have hPb := hR.P1
  have hs := rcheck_spec r s o S mc ml at_ ob pd hlen.1 hlen.2
  rw [hf] at hs
  obtain ⟨f1, f2, f3, f4, f5, f6⟩ := fits_bds hf
  repeat (first | refine Zq ?_ | refine Zs ?_ | refine ZT ?_ | refine ZF ?_ | refine Zc ?_ | refine XO_gU (hk := ?_))
  refine XO_dv dv_box (hk := ?_)
  rintro _ _ ⟨b3, rfl, rfl⟩
  repeat (first | refine Zq ?_ | refine Zs ?_ | refine ZT ?_ | refine ZF ?_ | refine Zc ?_ | refine XO_gU (hk := ?_))
  refine XO_call hs (hk := ?_)
  rintro _ _ ⟨rfl, rfl⟩
  repeat (first | refine Zq ?_ | refine Zs ?_ | refine ZT ?_ | refine ZF ?_ | refine Zc ?_ | refine XO_gU (hk := ?_))
  refine X_cond rfl (fun h => by cases h) (fun _ => ?_)
  refine X_open (A := Rg r s o S) (by (repeat (first | exact Find.here | apply Find.there))) Rg.open ?_
  rintro ⟨p0, p1⟩ -
  dsimp only [List.cons_append, List.nil_append]
  refine X_open (A := Rs r s p0 p1 S) (by (repeat (first | exact Find.here | apply Find.there))) Rs.open ?_
  rintro ⟨a, c⟩ -
  dsimp only [List.cons_append, List.nil_append]
  have hK1 := hR.k1
  have s1 := pcut_spec p1 s sb hK1 hR.hP hlen.2 (n := ml) f3
  obtain ⟨k1, k2⟩ := pcut_inv hK1 hR.hP hlen.2 ml.toNat
  have hK2 : KInv (cutC C (S.larges.drop ml.toNat)) (cutM P m (S.larges.drop ml.toNat)).f (plH 0 o 0 (S.parts.map runP) ++ (plH 1 o 0 (S.larges.take ml.toNat) ++ oth)) := by
    refine k1.perm ?_
    refine (List.Perm.of_eq (List.append_assoc _ _ _).symm).trans (((List.perm_append_comm).append_right oth).trans (List.Perm.of_eq (List.append_assoc _ _ _)))
  have s2 := pcut_spec p0 s sb hK2 k2 (by simp; exact hlen.1) (n := mc) f1
  have hC : putsC C S mc ml = cutC (cutC C (S.larges.drop ml.toNat)) ((S.parts.map runP).drop mc.toNat) := rfl
  unfold rewM
  rw [hC]
  repeat (first | refine Zq ?_ | refine Zs ?_ | refine ZT ?_ | refine ZF ?_ | refine Zc ?_ | refine XO_gU (hk := ?_))
  repeat (first | refine XD_pick (h := ?_) | refine Dq ?_ | refine Ds ?_ | refine XDi_gF (h := ?_) | refine XDi_gU (h := ?_) | refine X_draws (h := ?_))
  refine XD_one (h := ?_)
  refine XDa_dvA (dv_call s1) (hk := ?_)
  (rintro _ _ ⟨_, ⟨rfl, rfl⟩, rfl⟩; refine ⟨by (repeat (first | exact keeps_nil | exact keeps_fnil | refine keeps_skip (h := ?_) | refine keeps_takeQ (h := ?_))), ?_⟩)
  (refine XD_end (h := ?_); repeat (first | refine Zq ?_ | refine Zs ?_ | refine ZT ?_ | refine ZF ?_ | refine Zc ?_ | refine XO_gU (hk := ?_)))
  repeat (first | refine XD_pick (h := ?_) | refine Dq ?_ | refine Ds ?_ | refine XDi_gF (h := ?_) | refine XDi_gU (h := ?_) | refine X_draws (h := ?_))
  refine XD_one (h := ?_)
  refine XDa_dvA (dv_call s2) (hk := ?_)
  (rintro _ _ ⟨_, ⟨rfl, rfl⟩, rfl⟩; refine ⟨by (repeat (first | exact keeps_nil | exact keeps_fnil | refine keeps_skip (h := ?_) | refine keeps_takeQ (h := ?_))), ?_⟩)
  (refine XD_end (h := ?_); repeat (first | refine Zq ?_ | refine Zs ?_ | refine ZT ?_ | refine ZF ?_ | refine Zc ?_ | refine XO_gU (hk := ?_)))
  clear s1 s2
  generalize cutM P (cutM P m (S.larges.drop ml.toNat)) ((S.parts.map runP).drop mc.toNat) = m1
  generalize cutC (cutC C (S.larges.drop ml.toNat)) ((S.parts.map runP).drop mc.toNat) = C1
  refine X_fact (A := Sl eRP a c S.parts) (by (repeat (first | exact Find.here | apply Find.there))) Sl.cap (fun hcap => ?_)
  repeat (first | refine Zq ?_ | refine Zs ?_ | refine ZT ?_ | refine ZF ?_ | refine Zc ?_ | refine XO_gU (hk := ?_))
  repeat (first | refine XD_pick (h := ?_) | refine Dq ?_ | refine Ds ?_ | refine XDi_gF (h := ?_) | refine XDi_gU (h := ?_) | refine X_draws (h := ?_))
  refine XD_one (h := ?_)
  refine XDa_dvk0 dv_store (K := _) (hk := ?_)
  (rintro _ _ rfl; refine ⟨by (repeat (first | exact keeps_nil | exact keeps_fnil | refine keeps_skip (h := ?_) | refine keeps_takeQ (h := ?_))), ?_⟩)
  (refine XD_end (h := ?_); repeat (first | refine Zq ?_ | refine Zs ?_ | refine ZT ?_ | refine ZF ?_ | refine Zc ?_ | refine XO_gU (hk := ?_)))
  have hln : mc.toNat = (cutS S mc ml).parts.length := by simp [cutS]; omega
  have hruns := cut_runs S mc ml
  have hlar : (cutS S mc ml).larges = S.larges.take ml.toNat := rfl
  refine XO_conv (fun _ => SL_take (E' := eRP) (a := a) (c := c) (xs := S.parts) mc.toNat (by (repeat (first | exact Find.here | apply Find.there)))) ?_
  refine XO_fold (by repeat (first | exact FindAll.nil | exact Find.here | apply Find.there | apply FindAll.cons)) (Rs.foldN (r := r) (s := s) (p0 := p0) (p1 := p1) (S := cutS S mc ml) (a := a) (c := c) (n := mc.toNat) hln) ?_
  have hsl : (cutS S mc ml).parts.length ≤ 4611686018427387904 := by omega
  have htop : at_ < topAt (cutS S mc ml) → 0 ≤ topAt (cutS S mc ml) ∧ topAt (cutS S mc ml) ≤ P * 4096 := fun hlt => by
    have hmc : mc ≠ 0 := by
      intro h
      have h2 := f5 h
      have : topAt (cutS S mc ml) = 0 := by unfold topAt cutS; rw [h]; rfl
      omega
    obtain ⟨e1, e2, e3, e4⟩ := f6 hmc
    have hm1 : lastP (cutS S mc ml).parts ∈ S.parts := List.mem_of_mem_take (last_mem e1)
    have hrun := hR.S.pi.parts _ (List.mem_map.2 ⟨_, hm1, rfl⟩)
    have hpo := hR.po _ hm1
    unfold RunOk runP at hrun
    unfold PtOk at hpo
    unfold topAt
    simp only at hrun
    omega
  clear hln f6
  generalize cutS S mc ml = S1 at hruns hlar hsl htop ⊢
  refine XO_open (A := Rs r s p0 p1 S1) (by (repeat (first | exact Find.here | apply Find.there))) Rs.open ?_
  rintro ⟨a1, c1⟩ -
  dsimp only [List.cons_append, List.nil_append]
  refine XO_call (rtop_spec r s p0 p1 S1 a1 c1 hsl) (hk := ?_)
  rintro _ _ ⟨cb, oo, A, G, rfl, hCur, hfold, rfl⟩
  repeat (first | refine Zq ?_ | refine Zs ?_ | refine ZT ?_ | refine ZF ?_ | refine Zc ?_ | refine XO_gU (hk := ?_))
  refine XO_rv (hCur.load1 (by (repeat (first | exact Find.here | apply Find.there))) rfl) (hk := ?_)
  refine XO_fold (by repeat (first | exact FindAll.nil | exact Find.here | apply Find.there | apply FindAll.cons)) (hfold (topAt S1) S1.obj S1.pad) ?_
  rw [setTop_self]
  clear hCur hfold
  refine XO_open (A := Rs r s p0 p1 S1) (by (repeat (first | exact Find.here | apply Find.there))) Rs.open ?_
  rintro ⟨a2, c2⟩ -
  dsimp only [List.cons_append, List.nil_append]
  repeat (first | refine Zq ?_ | refine Zs ?_ | refine ZT ?_ | refine ZF ?_ | refine Zc ?_ | refine XO_gU (hk := ?_))
  refine X_cond rfl (fun hlt => ?_) (fun hlt => ?_) <;> simp only [decide_eq_true_eq, decide_eq_false_iff_not] at hlt
  · rw [if_pos hlt]
    have ht := htop hlt
    have hz := Zero_spec sb P m1 at_ (topAt S1 - at_) (by omega) hPb.2 h0 h1 (by omega) (by omega)
    unfold zeroV at hz
    rw [if_pos (by omega)] at hz
    repeat (first | refine Zq ?_ | refine Zs ?_ | refine ZT ?_ | refine ZF ?_ | refine Zc ?_ | refine XO_gU (hk := ?_))
    repeat (first | refine XD_pick (h := ?_) | refine Dq ?_ | refine Ds ?_ | refine XDi_gF (h := ?_) | refine XDi_gU (h := ?_) | refine X_draws (h := ?_))
    refine XD_one (h := ?_)
    refine XDa_dvA (dv_call (kspace_spec s sb C1)) (hk := ?_)
    (rintro _ _ ⟨_, ⟨rfl, rfl⟩, rfl⟩; refine ⟨by (repeat (first | exact keeps_nil | exact keeps_fnil | refine keeps_skip (h := ?_) | refine keeps_takeQ (h := ?_))), ?_⟩)
    repeat (first | refine XD_pick (h := ?_) | refine Dq ?_ | refine Ds ?_ | refine XDi_gF (h := ?_) | refine XDi_gU (h := ?_) | refine X_draws (h := ?_))
    refine XD_one (h := ?_)
    refine XDa_dvA (dv_call hz) (hk := ?_)
    (rintro _ _ ⟨_, ⟨rfl, rfl⟩, rfl⟩; refine ⟨by (repeat (first | exact keeps_nil | exact keeps_fnil | refine keeps_skip (h := ?_) | refine keeps_takeQ (h := ?_))), ?_⟩)
    (refine XD_end (h := ?_); repeat (first | refine Zq ?_ | refine Zs ?_ | refine ZT ?_ | refine ZF ?_ | refine Zc ?_ | refine XO_gU (hk := ?_)))
    repeat (first | refine Zq ?_ | refine Zs ?_ | refine ZT ?_ | refine ZF ?_ | refine Zc ?_ | refine XO_gU (hk := ?_))
    repeat (first | refine XD_pick (h := ?_) | refine Dq ?_ | refine Ds ?_ | refine XDi_gF (h := ?_) | refine XDi_gU (h := ?_) | refine X_draws (h := ?_))
    refine XD_one (h := ?_)
    refine XDa_dvA (dv_call (rtop_spec r s p0 p1 S1 a2 c2 hsl)) (hk := ?_)
    rintro _ _ ⟨_, ⟨cb2, o2, A2, G2, rfl, hCur2, hfold2, rfl⟩, rfl⟩
    refine ⟨by (repeat (first | exact keeps_nil | exact keeps_fnil | refine keeps_skip (h := ?_) | refine keeps_takeQ (h := ?_))), ?_⟩
    repeat (first | refine XD_pick (h := ?_) | refine Dq ?_ | refine Ds ?_ | refine XDi_gF (h := ?_) | refine XDi_gU (h := ?_) | refine X_draws (h := ?_))
    refine XD_one (h := ?_)
    refine XDa_dvk0 (hCur2.store1 (a' := at_) (by (repeat (first | exact Find.here | apply Find.there))) rfl rfl) (K := _) (hk := ?_)
    (rintro _ _ rfl; refine ⟨by (repeat (first | exact keeps_nil | exact keeps_fnil | refine keeps_skip (h := ?_) | refine keeps_takeQ (h := ?_))), ?_⟩)
    (refine XD_end (h := ?_); repeat (first | refine Zq ?_ | refine Zs ?_ | refine ZT ?_ | refine ZF ?_ | refine Zc ?_ | refine XO_gU (hk := ?_)))
    refine XO_dv0 (dv_storeP (vs := [.int .u64 ob, .int .u64 pd])) (hk := ?_)
    rintro _ _ rfl
    refine XO_fold (by repeat (first | exact FindAll.nil | exact Find.here | apply Find.there | apply FindAll.cons)) (hfold2 at_ ob pd) ?_
    rw [← hruns, ← hlar]
    refine XO_fold (by repeat (first | exact FindAll.nil | exact Find.here | apply Find.there | apply FindAll.cons)) (Rg.foldT (r := r) (s := s) (o := o) (S := S1) (p0 := p0) (p1 := p1) (a := at_) (b := ob) (c := pd)) ?_
    repeat (first | refine Zq ?_ | refine Zs ?_ | refine ZT ?_ | refine ZF ?_ | refine Zc ?_ | refine XO_gU (hk := ?_))
    refine XE_ret (.inl rfl) (tells_tmps rfl rfl) ⟨_, ⟨rfl, rfl⟩, by ((try simp only [List.cons_append, List.nil_append]); repeat (first | exact ent_refl | refine ent_take (by repeat (first | exact Find.here | apply Find.there)) ?_ | refine ent_drop ?_))⟩
  · rw [if_neg hlt]
    repeat (first | refine Zq ?_ | refine Zs ?_ | refine ZT ?_ | refine ZF ?_ | refine Zc ?_ | refine XO_gU (hk := ?_))
    repeat (first | refine XD_pick (h := ?_) | refine Dq ?_ | refine Ds ?_ | refine XDi_gF (h := ?_) | refine XDi_gU (h := ?_) | refine X_draws (h := ?_))
    refine XD_one (h := ?_)
    refine XDa_dvA (dv_call (rtop_spec r s p0 p1 S1 a2 c2 hsl)) (hk := ?_)
    rintro _ _ ⟨_, ⟨cb2, o2, A2, G2, rfl, hCur2, hfold2, rfl⟩, rfl⟩
    refine ⟨by (repeat (first | exact keeps_nil | exact keeps_fnil | refine keeps_skip (h := ?_) | refine keeps_takeQ (h := ?_))), ?_⟩
    repeat (first | refine XD_pick (h := ?_) | refine Dq ?_ | refine Ds ?_ | refine XDi_gF (h := ?_) | refine XDi_gU (h := ?_) | refine X_draws (h := ?_))
    refine XD_one (h := ?_)
    refine XDa_dvk0 (hCur2.store1 (a' := at_) (by (repeat (first | exact Find.here | apply Find.there))) rfl rfl) (K := _) (hk := ?_)
    (rintro _ _ rfl; refine ⟨by (repeat (first | exact keeps_nil | exact keeps_fnil | refine keeps_skip (h := ?_) | refine keeps_takeQ (h := ?_))), ?_⟩)
    (refine XD_end (h := ?_); repeat (first | refine Zq ?_ | refine Zs ?_ | refine ZT ?_ | refine ZF ?_ | refine Zc ?_ | refine XO_gU (hk := ?_)))
    refine XO_dv0 (dv_storeP (vs := [.int .u64 ob, .int .u64 pd])) (hk := ?_)
    rintro _ _ rfl
    refine XO_fold (by repeat (first | exact FindAll.nil | exact Find.here | apply Find.there | apply FindAll.cons)) (hfold2 at_ ob pd) ?_
    rw [← hruns, ← hlar]
    refine XO_fold (by repeat (first | exact FindAll.nil | exact Find.here | apply Find.there | apply FindAll.cons)) (Rg.foldT (r := r) (s := s) (o := o) (S := S1) (p0 := p0) (p1 := p1) (a := at_) (b := ob) (c := pd)) ?_
    repeat (first | refine Zq ?_ | refine Zs ?_ | refine ZT ?_ | refine ZF ?_ | refine Zc ?_ | refine XO_gU (hk := ?_))
    refine XE_ret (.inl rfl) (tells_tmps rfl rfl) ⟨_, ⟨rfl, rfl⟩, by ((try simp only [List.cons_append, List.nil_append]); repeat (first | exact ent_refl | refine ent_take (by repeat (first | exact Find.here | apply Find.there)) ?_ | refine ent_drop ?_))⟩
theorem rreset_spec (r s sb : Nat) {P : Int} {B : Nat} {o : Int} {C : Co} {m : Mm} {S : Sh} {oth : List (Int × Hd)} (hR : RInv P B o C m.f S oth) :
    Spec Tryz.prog 98 [.pointer (some ⟨r, 0, none⟩)] [Rg r s o S, Ck s sb C, Spc sb P m]
      (fun v L => v = .int .i64 0 ∧ L = [Rg r s o emptySh, Ck s sb (putsC C S 0 0), Spc sb P (rewM P m S 0 0 0)]) := by
  refine Spec.intro (IsEnt.out) Tryz.func98 rfl Tryz.ntmps98 (by simp) (fun w0 F => ?_)
  simp only [envOf, List.zipIdx, List.map, List.cons_append, List.nil_append, Nat.zero_add, Nat.reduceAdd]
  have hf : fitsS S 0 0 0 = true := by
    unfold fitsS
    rw [if_neg (by omega), if_pos rfl]
    rfl
  have hs := rrew_ok r s sb (ob := 0) (pd := 0) hR hf (Int.le_refl _) (by decide)
  repeat (first | refine Zq ?_ | refine Zs ?_ | refine ZT ?_ | refine ZF ?_ | refine Zc ?_ | refine XO_gU (hk := ?_))
  refine XO_call hs (hk := ?_)
  rintro _ _ ⟨rfl, rfl⟩
  repeat (first | refine Zq ?_ | refine Zs ?_ | refine ZT ?_ | refine ZF ?_ | refine Zc ?_ | refine XO_gU (hk := ?_))
  refine XE_ret (.inl rfl) (tells_tmps rfl rfl) ⟨_, ⟨rfl, rfl⟩, by ((try simp only [List.cons_append, List.nil_append]); repeat (first | exact ent_refl | refine ent_take (by repeat (first | exact Find.here | apply Find.there)) ?_ | refine ent_drop ?_))⟩
end Go.Proofs.YtamecmklcnohjaaGreat.Sep
namespace Go.Proofs.YtamecmklcnohjaaGreat.Sep
open Go.RowKit
set_option linter.unusedSimpArgs false
set_option linter.unusedVariables false
/-! regions: what they use; their chunks; fresh ones -/
/-- An element of an array that is at hand. -/
theorem pv_indexAg {P : Program} {T el len s by' : Nat} {ty : TypeId} {e : Env} {x i : Operand} {kk : IntKind} {iv : Int} {z v : Value} {vs : List Value} {dd : TypeDesc} [hu : TU P T (.array len el)] [hft : TU P el dd] [hi : TI P el z s by'] (hg : aggD dd = false := by rfl)
    (hx : ev e x = some (.agg vs.toArray) := by rfl) (hiv : ev e i = some (.int kk iv) := by rfl) (h0 : 0 ≤ iv := by omega) (h1 : iv < (len : Int) := by omega) (hv : vs[iv.toNat * s]? = some v := by rfl) : PV P (.index T x i) ty e v := fun tm w pos aft h => by
  have h2 : (underlying T).run P w = .ok (.array len el) w := run_und hu.out
  have h6 : vs.toArray[iv.toNat * s]? = some v := by simpa using hv
  simp [execOp, Instr.index, ev_sound h hx, ev_sound h hiv, asIntOf, h2, h0, h1, run_size hi, part, run_isAgg hft.out, hg, hv]
abbrev meterV (S : Sh) : Value := .agg #[.int .i64 (shPages S), .int .i64 0, .int .i64 0, .int .i64 0, .int .u64 S.obj, .int .u64 S.pad, .int .u64 (shHdr S), .int .u64 (IntKind.u64.wrap (shPages S * 4096 - shHdr S - S.obj - S.pad))]
theorem wrap_sub (x y : Int) : IntKind.u64.wrap (IntKind.u64.wrap x - y) = IntKind.u64.wrap (x - y) := by
  simp only [wrap_u64_eq]; omega
theorem RInv.bd {P : Int} {B : Nat} {o : Int} {C : Co} {m : Int → Int} {s : Sh} {oth : List (Int × Hd)} (h : RInv P B o C m s oth) : Bd (s.parts.map runP) ∧ Bd s.larges := by
  have hP := h.P1
  refine ⟨fun r hr => ?_, fun r hr => ?_⟩
  · have := h.S.pi.parts r hr; unfold RunOk at this; omega
  · have := h.S.pi.larges r hr; unfold RunOk at this; omega
theorem tot_bd0 : ∀ {l : List (Int × Int)}, Bd l → l.length ≤ 1048576 → 0 ≤ totI l ∧ totI l ≤ 1099511627776 := by
  have key : ∀ l : List (Int × Int), Bd l → 0 ≤ totI l ∧ totI l ≤ 1048576 * (l.length : Int) := by
    intro l
    induction l with
    | nil => intro _; simp [totI]
    | cons r l ih =>
      intro h
      have h1 := h r (by simp)
      have h2 := ih fun q hq => h q (by simp [hq])
      rw [tot_cons]; simp; omega
  intro l h hl
  have := key l h
  omega
def mH (S : Sh) : Nat → Int
  | 0 => 0
  | 1 => totI (S.parts.map runP)
  | _ => totI (S.parts.map runP) + totI S.larges
def mN (S : Sh) : Nat → Int
  | 0 => 0
  | 1 => 32 * (S.parts.length : Int)
  | _ => 32 * (S.parts.length : Int) + 32 * (S.larges.length : Int)
inductive NewSt
  | a
  | b (p : Nat)
  | c (p q : Nat)
def NewSt.k : NewSt → Int
  | .a => 0
  | .b _ => 1
  | .c _ _ => 2
def NewSt.n : NewSt → Nat
  | .a => 2
  | .b _ => 1
  | .c _ _ => 0
def NewSt.L (r s : Nat) (o : Int) : NewSt → List HP
  | .a => [pt r (.cells [.int .u64 0, .int .u64 0, .pointer (some ⟨s, 0, none⟩), .pointer none, .pointer none, .slice none 0 0].toArray 115 (0, 0))]
  | .b p => [pt r (.cells [.int .u64 0, .int .u64 0, .pointer (some ⟨s, 0, none⟩), .pointer (some ⟨p, 0, none⟩), .pointer none, .slice none 0 0].toArray 115 (0, 0)), Pl p s 0 o []]
  | .c p q => [pt r (.cells [.int .u64 0, .int .u64 0, .pointer (some ⟨s, 0, none⟩), .pointer (some ⟨p, 0, none⟩), .pointer (some ⟨q, 0, none⟩), .slice none 0 0].toArray 115 (0, 0)), Pl p s 0 o [], Pl q s 1 o []]
set_option maxHeartbeats 8000000
attribute [local irreducible] X XE XO XD XDi XDa PV RV DV pt base Spec Sl Mp Keeps Pg Kc Pgs Spc Ck XL XLi Pl Rs Rg
theorem rnew_spec (s : Nat) (o : Int) : Spec Tryz.prog 16 [.pointer (some ⟨s, 0, none⟩), .int .u64 o] [] (fun v L => ∃ r, v = .pointer (some ⟨r, 0, none⟩) ∧ L = [Rg r s o emptySh]) := by
  refine Spec.intro (IsEnt.out) Tryz.func16 rfl Tryz.ntmps16 (by simp) (fun w0 F => ?_)
  simp only [envOf, List.zipIdx, List.map, List.cons_append, List.nil_append, Nat.zero_add, Nat.reduceAdd]
  repeat (first | refine Zq ?_ | refine Zs ?_ | refine ZT ?_ | refine ZF ?_ | refine Zc ?_ | refine XO_gU (hk := ?_))
  refine XO_pv (pv_buildG [.int .u64 0, .int .u64 0, .pointer (some ⟨s, 0, none⟩), .pointer none, .pointer none, .slice none 0 0]) (hk := ?_)
  repeat (first | refine Zq ?_ | refine Zs ?_ | refine ZT ?_ | refine ZF ?_ | refine Zc ?_ | refine XO_gU (hk := ?_))
  refine XO_dv dv_box (hk := ?_)
  rintro _ _ ⟨r, rfl, rfl⟩
  repeat (first | refine Zq ?_ | refine Zs ?_ | refine ZT ?_ | refine ZF ?_ | refine Zc ?_ | refine XO_gU (hk := ?_))
  refine X_loop (ι := NewSt) (fun _ => True) (fun q => [(0, .pointer (some ⟨s, 0, none⟩)), (1, .int .u64 o), (5, .pointer (some ⟨r, 0, none⟩)), (10, .int .i64 q.k)]) (fun q => q.L r s o ++ F) (fun q => q.n) .a trivial ?_ (by show ∀ H, _ → SL (pt r _ :: F) H; ((try simp only [List.cons_append, List.nil_append]); repeat (first | exact ent_refl | refine ent_take (by repeat (first | exact Find.here | apply Find.there)) ?_ | refine ent_drop ?_))) ?_
  · (repeat (first | exact Env.sub_nil _ | refine Env.sub_cons rfl ?_))
  rintro (_ | p | ⟨p, q⟩) -
  · simp only [NewSt.L, NewSt.k, NewSt.n, List.cons_append, List.nil_append]
    repeat (first | refine Zq ?_ | refine Zs ?_ | refine ZT ?_ | refine ZF ?_ | refine Zc ?_ | refine XO_gU (hk := ?_))
    refine X_cond rfl (fun _ => ?_) (fun h => by cases h)
    repeat (first | refine Zq ?_ | refine Zs ?_ | refine ZT ?_ | refine ZF ?_ | refine Zc ?_ | refine XO_gU (hk := ?_))
    repeat (first | refine XD_pick (h := ?_) | refine Dq ?_ | refine Ds ?_ | refine XDi_gF (h := ?_) | refine XDi_gU (h := ?_) | refine X_draws (h := ?_))
    refine XD_one (h := ?_)
    refine XDa_dvA (dv_call (plnew_spec s 0 o)) (hk := ?_)
    rintro _ _ ⟨_, ⟨p, rfl, rfl⟩, rfl⟩
    refine ⟨by (repeat (first | exact keeps_nil | exact keeps_fnil | refine keeps_skip (h := ?_) | refine keeps_takeQ (h := ?_))), ?_⟩
    repeat (first | refine XD_pick (h := ?_) | refine Dq ?_ | refine Ds ?_ | refine XDi_gF (h := ?_) | refine XDi_gU (h := ?_) | refine X_draws (h := ?_))
    refine XD_one (h := ?_)
    refine XDa_dvk0 dv_store (K := _) (hk := ?_)
    (rintro _ _ rfl; refine ⟨by (repeat (first | exact keeps_nil | exact keeps_fnil | refine keeps_skip (h := ?_) | refine keeps_takeQ (h := ?_))), ?_⟩)
    (refine XD_end (h := ?_); repeat (first | refine Zq ?_ | refine Zs ?_ | refine ZT ?_ | refine ZF ?_ | refine Zc ?_ | refine XO_gU (hk := ?_)))
    exact X_round (.b p) trivial (by show 1 < 2; decide) (by (repeat (first | exact Env.sub_nil _ | refine Env.sub_cons rfl ?_))) (by show ∀ H, _ → SL (pt r _ :: Pl p s 0 o [] :: F) H; ((try simp only [List.cons_append, List.nil_append]); repeat (first | exact ent_refl | refine ent_take (by repeat (first | exact Find.here | apply Find.there)) ?_ | refine ent_drop ?_)))
  · simp only [NewSt.L, NewSt.k, NewSt.n, List.cons_append, List.nil_append]
    repeat (first | refine Zq ?_ | refine Zs ?_ | refine ZT ?_ | refine ZF ?_ | refine Zc ?_ | refine XO_gU (hk := ?_))
    refine X_cond rfl (fun _ => ?_) (fun h => by cases h)
    repeat (first | refine Zq ?_ | refine Zs ?_ | refine ZT ?_ | refine ZF ?_ | refine Zc ?_ | refine XO_gU (hk := ?_))
    repeat (first | refine XD_pick (h := ?_) | refine Dq ?_ | refine Ds ?_ | refine XDi_gF (h := ?_) | refine XDi_gU (h := ?_) | refine X_draws (h := ?_))
    refine XD_one (h := ?_)
    refine XDa_dvA (dv_call (plnew_spec s 1 o)) (hk := ?_)
    rintro _ _ ⟨_, ⟨q, rfl, rfl⟩, rfl⟩
    refine ⟨by (repeat (first | exact keeps_nil | exact keeps_fnil | refine keeps_skip (h := ?_) | refine keeps_takeQ (h := ?_))), ?_⟩
    repeat (first | refine XD_pick (h := ?_) | refine Dq ?_ | refine Ds ?_ | refine XDi_gF (h := ?_) | refine XDi_gU (h := ?_) | refine X_draws (h := ?_))
    refine XD_one (h := ?_)
    refine XDa_dvk0 dv_store (K := _) (hk := ?_)
    (rintro _ _ rfl; refine ⟨by (repeat (first | exact keeps_nil | exact keeps_fnil | refine keeps_skip (h := ?_) | refine keeps_takeQ (h := ?_))), ?_⟩)
    (refine XD_end (h := ?_); repeat (first | refine Zq ?_ | refine Zs ?_ | refine ZT ?_ | refine ZF ?_ | refine Zc ?_ | refine XO_gU (hk := ?_)))
    exact X_round (.c p q) trivial (by show 0 < 1; decide) (by (repeat (first | exact Env.sub_nil _ | refine Env.sub_cons rfl ?_))) (by show ∀ H, _ → SL (pt r _ :: Pl p s 0 o [] :: Pl q s 1 o [] :: F) H; ((try simp only [List.cons_append, List.nil_append]); repeat (first | exact ent_refl | refine ent_take (by repeat (first | exact Find.here | apply Find.there)) ?_ | refine ent_drop ?_)))
  · simp only [NewSt.L, NewSt.k, NewSt.n, List.cons_append, List.nil_append]
    repeat (first | refine Zq ?_ | refine Zs ?_ | refine ZT ?_ | refine ZF ?_ | refine Zc ?_ | refine XO_gU (hk := ?_))
    refine X_cond rfl (fun h => by cases h) (fun _ => ?_)
    repeat (first | refine Zq ?_ | refine Zs ?_ | refine ZT ?_ | refine ZF ?_ | refine Zc ?_ | refine XO_gU (hk := ?_))
    refine XE_conv (fun _ h => SL_nilSl eRP h) ?_
    refine XE_fold (by repeat (first | exact FindAll.nil | exact Find.here | apply Find.there | apply FindAll.cons)) (Rs.fold (r := r) (s := s) (p0 := p) (p1 := q) (S := emptySh) (a := none) (c := 0)) ?_
    refine XE_fold (by repeat (first | exact FindAll.nil | exact Find.here | apply Find.there | apply FindAll.cons)) (Rg.fold (r := r) (s := s) (o := o) (S := emptySh) (p0 := p) (p1 := q)) ?_
    refine XE_ret (.inl rfl) (tells_tmps rfl rfl) ⟨_, ⟨r, rfl, rfl⟩, by ((try simp only [List.cons_append, List.nil_append]); repeat (first | exact ent_refl | refine ent_take (by repeat (first | exact Find.here | apply Find.there)) ?_ | refine ent_drop ?_))⟩
theorem rmeter_spec (r s : Nat) (o : Int) (S : Sh) (hl : S.parts.length ≤ 1048576) (hl2 : S.larges.length ≤ 1048576) (hB0 : Bd (S.parts.map runP)) (hB1 : Bd S.larges) : Spec Tryz.prog 27 [.pointer (some ⟨r, 0, none⟩)] [Rg r s o S] (fun v L => v = meterV S ∧ L = [Rg r s o S]) := by
  refine Spec.intro (IsEnt.out) Tryz.func27 rfl Tryz.ntmps27 (by simp) (fun w0 F => ?_)
  simp only [envOf, List.zipIdx, List.map, List.cons_append, List.nil_append, Nat.zero_add, Nat.reduceAdd]
  have hml : (S.parts.map runP).length = S.parts.length := List.length_map ..
  have ht0 := tot_bd0 hB0 (by omega)
  have ht1 := tot_bd0 hB1 hl2
  repeat (first | refine Zq ?_ | refine Zs ?_ | refine ZT ?_ | refine ZF ?_ | refine Zc ?_ | refine XO_gU (hk := ?_))
  refine XO_dv dv_alloc (hk := ?_)
  rintro _ _ ⟨gb, rfl, rfl⟩
  repeat (first | refine Zq ?_ | refine Zs ?_ | refine ZT ?_ | refine ZF ?_ | refine Zc ?_ | refine XO_gU (hk := ?_))
  refine X_cond rfl (fun h => by cases h) (fun _ => ?_)
  refine X_open (A := Rg r s o S) (by (repeat (first | exact Find.here | apply Find.there))) Rg.open ?_
  rintro ⟨p0, p1⟩ -
  dsimp only [List.cons_append, List.nil_append]
  refine X_open (A := Rs r s p0 p1 S) (by (repeat (first | exact Find.here | apply Find.there))) Rs.open ?_
  rintro ⟨a, c⟩ -
  dsimp only [List.cons_append, List.nil_append]
  repeat (first | refine Zq ?_ | refine Zs ?_ | refine ZT ?_ | refine ZF ?_ | refine Zc ?_ | refine XO_gU (hk := ?_))
  repeat (first | refine XD_pick (h := ?_) | refine Dq ?_ | refine Ds ?_ | refine XDi_gF (h := ?_) | refine XDi_gU (h := ?_) | refine X_draws (h := ?_))
  refine XDi_pvA (pv_buildG [.int .i64 0, .int .i64 0, .int .i64 0, .int .i64 0, .int .u64 S.obj, .int .u64 S.pad, .int .u64 0, .int .u64 0]) (h := ?_)
  repeat (first | refine XD_pick (h := ?_) | refine Dq ?_ | refine Ds ?_ | refine XDi_gF (h := ?_) | refine XDi_gU (h := ?_) | refine X_draws (h := ?_))
  refine XD_one (h := ?_)
  refine XDa_dvA (dv_alloc (row := [.int .i64 0, .int .i64 0, .int .i64 0, .int .i64 0, .int .u64 0, .int .u64 0, .int .u64 0, .int .u64 0])) (hk := ?_)
  rintro _ _ ⟨mb, rfl, rfl⟩
  refine ⟨by (repeat (first | exact keeps_nil | exact keeps_fnil | refine keeps_skip (h := ?_) | refine keeps_takeQ (h := ?_))), ?_⟩
  repeat (first | refine XD_pick (h := ?_) | refine Dq ?_ | refine Ds ?_ | refine XDi_gF (h := ?_) | refine XDi_gU (h := ?_) | refine X_draws (h := ?_))
  refine XD_one (h := ?_)
  refine XDa_dvk0 dv_storeW (K := _) (hk := ?_)
  (rintro _ _ rfl; refine ⟨by (repeat (first | exact keeps_nil | exact keeps_fnil | refine keeps_skip (h := ?_) | refine keeps_takeQ (h := ?_))), ?_⟩)
  (refine XD_end (h := ?_); repeat (first | refine Zq ?_ | refine Zs ?_ | refine ZT ?_ | refine ZF ?_ | refine Zc ?_ | refine XO_gU (hk := ?_)))
  refine X_loop (ι := Nat) (fun j => j ≤ 2) (fun j => [(2, .pointer (some ⟨gb, 0, none⟩)), (3, .pointer (some ⟨mb, 0, none⟩)), (23, .agg #[.pointer (some ⟨p0, 0, none⟩), .pointer (some ⟨p1, 0, none⟩)]), (24, .int .i64 (j : Int))])
    (fun j => pt mb (.cells [.int .i64 (mH S j), .int .i64 0, .int .i64 0, .int .i64 0, .int .u64 S.obj, .int .u64 S.pad, .int .u64 (mN S j), .int .u64 0].toArray 51 (0, 0)) :: pt gb (.cells [.int .i64 0, .int .i64 0, .int .i64 0, .int .i64 0, .int .u64 0, .int .u64 0, .int .u64 0, .int .u64 0].toArray 51 (0, 0)) :: pt r (.cells (rgRow s p0 p1 S.obj S.pad a S.parts.length c).toArray 115 (0, 0)) :: Sl eRP a c S.parts :: Pl p0 s 0 o (S.parts.map runP) :: Pl p1 s 1 o S.larges :: F) (fun j => 2 - j) 0 (by decide) ?_ (by simp only [mH, mN]; ((try simp only [List.cons_append, List.nil_append]); repeat (first | exact ent_refl | refine ent_take (by repeat (first | exact Find.here | apply Find.there)) ?_ | refine ent_drop ?_))) ?_
  · (repeat (first | exact Env.sub_nil _ | refine Env.sub_cons rfl ?_))
  intro j hj
  rcases j with _ | _ | _ | j
  · simp only [mH, mN]
    repeat (first | refine Zq ?_ | refine Zs ?_ | refine ZT ?_ | refine ZF ?_ | refine Zc ?_ | refine XO_gU (hk := ?_))
    refine X_cond rfl (fun _ => ?_) (fun h => by cases h)
    repeat (first | refine Zq ?_ | refine Zs ?_ | refine ZT ?_ | refine ZF ?_ | refine Zc ?_ | refine XO_gU (hk := ?_))
    refine XO_pv (pv_indexAg (vs := [.pointer (some ⟨p0, 0, none⟩), .pointer (some ⟨p1, 0, none⟩)]) (v := .pointer (some ⟨p0, 0, none⟩))) (hk := ?_)
    repeat (first | refine Zq ?_ | refine Zs ?_ | refine ZT ?_ | refine ZF ?_ | refine Zc ?_ | refine XO_gU (hk := ?_))
    repeat (first | refine XD_pick (h := ?_) | refine Dq ?_ | refine Ds ?_ | refine XDi_gF (h := ?_) | refine XDi_gU (h := ?_) | refine X_draws (h := ?_))
    refine XD_one (h := ?_)
    refine XDa_dvA (dv_call (plpages_spec p0 s 0 o (S.parts.map runP) (by omega) hB0)) (hk := ?_)
    (rintro _ _ ⟨_, ⟨rfl, rfl⟩, rfl⟩; refine ⟨by (repeat (first | exact keeps_nil | exact keeps_fnil | refine keeps_skip (h := ?_) | refine keeps_takeQ (h := ?_))), ?_⟩)
    repeat (first | refine XD_pick (h := ?_) | refine Dq ?_ | refine Ds ?_ | refine XDi_gF (h := ?_) | refine XDi_gU (h := ?_) | refine X_draws (h := ?_))
    refine XD_one (h := ?_)
    refine XDa_dvk0 dv_store (K := _) (hk := ?_)
    (rintro _ _ rfl; refine ⟨by (repeat (first | exact keeps_nil | exact keeps_fnil | refine keeps_skip (h := ?_) | refine keeps_takeQ (h := ?_))), ?_⟩)
    (refine XD_end (h := ?_); repeat (first | refine Zq ?_ | refine Zs ?_ | refine ZT ?_ | refine ZF ?_ | refine Zc ?_ | refine XO_gU (hk := ?_)))
    repeat (first | refine XD_pick (h := ?_) | refine Dq ?_ | refine Ds ?_ | refine XDi_gF (h := ?_) | refine XDi_gU (h := ?_) | refine X_draws (h := ?_))
    refine XD_one (h := ?_)
    refine XDa_dvA (dv_call (plen_spec p0 s 0 o (S.parts.map runP))) (hk := ?_)
    (rintro _ _ ⟨_, ⟨rfl, rfl⟩, rfl⟩; refine ⟨by (repeat (first | exact keeps_nil | exact keeps_fnil | refine keeps_skip (h := ?_) | refine keeps_takeQ (h := ?_))), ?_⟩)
    rw [hml]
    repeat (first | refine XD_pick (h := ?_) | refine Dq ?_ | refine Ds ?_ | refine XDi_gF (h := ?_) | refine XDi_gU (h := ?_) | refine X_draws (h := ?_))
    refine XD_one (h := ?_)
    refine XDa_dvk0 dv_store (K := _) (hk := ?_)
    (rintro _ _ rfl; refine ⟨by (repeat (first | exact keeps_nil | exact keeps_fnil | refine keeps_skip (h := ?_) | refine keeps_takeQ (h := ?_))), ?_⟩)
    (refine XD_end (h := ?_); repeat (first | refine Zq ?_ | refine Zs ?_ | refine ZT ?_ | refine ZF ?_ | refine Zc ?_ | refine XO_gU (hk := ?_)))
    exact X_round 1 (by decide) (by decide) (by (repeat (first | exact Env.sub_nil _ | refine Env.sub_cons rfl ?_))) (by simp only [mH, mN, Int.zero_add]; ((try simp only [List.cons_append, List.nil_append]); repeat (first | exact ent_refl | refine ent_take (by repeat (first | exact Find.here | apply Find.there)) ?_ | refine ent_drop ?_)))
  · simp only [mH, mN]
    repeat (first | refine Zq ?_ | refine Zs ?_ | refine ZT ?_ | refine ZF ?_ | refine Zc ?_ | refine XO_gU (hk := ?_))
    refine X_cond rfl (fun _ => ?_) (fun h => by cases h)
    repeat (first | refine Zq ?_ | refine Zs ?_ | refine ZT ?_ | refine ZF ?_ | refine Zc ?_ | refine XO_gU (hk := ?_))
    refine XO_pv (pv_indexAg (vs := [.pointer (some ⟨p0, 0, none⟩), .pointer (some ⟨p1, 0, none⟩)]) (v := .pointer (some ⟨p1, 0, none⟩))) (hk := ?_)
    repeat (first | refine Zq ?_ | refine Zs ?_ | refine ZT ?_ | refine ZF ?_ | refine Zc ?_ | refine XO_gU (hk := ?_))
    repeat (first | refine XD_pick (h := ?_) | refine Dq ?_ | refine Ds ?_ | refine XDi_gF (h := ?_) | refine XDi_gU (h := ?_) | refine X_draws (h := ?_))
    refine XD_one (h := ?_)
    refine XDa_dvA (dv_call (plpages_spec p1 s 1 o S.larges hl2 hB1)) (hk := ?_)
    (rintro _ _ ⟨_, ⟨rfl, rfl⟩, rfl⟩; refine ⟨by (repeat (first | exact keeps_nil | exact keeps_fnil | refine keeps_skip (h := ?_) | refine keeps_takeQ (h := ?_))), ?_⟩)
    repeat (first | refine XD_pick (h := ?_) | refine Dq ?_ | refine Ds ?_ | refine XDi_gF (h := ?_) | refine XDi_gU (h := ?_) | refine X_draws (h := ?_))
    refine XD_one (h := ?_)
    refine XDa_dvk0 dv_store (K := _) (hk := ?_)
    (rintro _ _ rfl; refine ⟨by (repeat (first | exact keeps_nil | exact keeps_fnil | refine keeps_skip (h := ?_) | refine keeps_takeQ (h := ?_))), ?_⟩)
    (refine XD_end (h := ?_); repeat (first | refine Zq ?_ | refine Zs ?_ | refine ZT ?_ | refine ZF ?_ | refine Zc ?_ | refine XO_gU (hk := ?_)))
    repeat (first | refine XD_pick (h := ?_) | refine Dq ?_ | refine Ds ?_ | refine XDi_gF (h := ?_) | refine XDi_gU (h := ?_) | refine X_draws (h := ?_))
    refine XD_one (h := ?_)
    refine XDa_dvA (dv_call (plen_spec p1 s 1 o S.larges)) (hk := ?_)
    (rintro _ _ ⟨_, ⟨rfl, rfl⟩, rfl⟩; refine ⟨by (repeat (first | exact keeps_nil | exact keeps_fnil | refine keeps_skip (h := ?_) | refine keeps_takeQ (h := ?_))), ?_⟩)
    repeat (first | refine XD_pick (h := ?_) | refine Dq ?_ | refine Ds ?_ | refine XDi_gF (h := ?_) | refine XDi_gU (h := ?_) | refine X_draws (h := ?_))
    refine XD_one (h := ?_)
    refine XDa_dvk0 dv_store (K := _) (hk := ?_)
    (rintro _ _ rfl; refine ⟨by (repeat (first | exact keeps_nil | exact keeps_fnil | refine keeps_skip (h := ?_) | refine keeps_takeQ (h := ?_))), ?_⟩)
    (refine XD_end (h := ?_); repeat (first | refine Zq ?_ | refine Zs ?_ | refine ZT ?_ | refine ZF ?_ | refine Zc ?_ | refine XO_gU (hk := ?_)))
    exact X_round 2 (by decide) (by decide) (by (repeat (first | exact Env.sub_nil _ | refine Env.sub_cons rfl ?_))) (by simp only [mH, mN]; ((try simp only [List.cons_append, List.nil_append]); repeat (first | exact ent_refl | refine ent_take (by repeat (first | exact Find.here | apply Find.there)) ?_ | refine ent_drop ?_)))
  · have e1 : totI (S.parts.map runP) + totI S.larges = shPages S := rfl
    have e2 : 32 * (S.parts.length : Int) + 32 * (S.larges.length : Int) = shHdr S := by unfold shHdr; omega
    simp only [mH, mN]
    rw [e1, e2]
    have e3 : 0 ≤ shPages S ∧ shPages S ≤ 2199023255552 := by unfold shPages; omega
    have e4 : IntKind.u64.wrap (shPages S * 4096 - shHdr S - S.obj - S.pad) = IntKind.u64.wrap (IntKind.u64.wrap (IntKind.u64.wrap (shPages S * 4096 - shHdr S) - S.obj) - S.pad) := by simp only [wrap_u64_eq]; omega
    repeat (first | refine Zq ?_ | refine Zs ?_ | refine ZT ?_ | refine ZF ?_ | refine Zc ?_ | refine XO_gU (hk := ?_))
    refine X_cond rfl (fun h => by cases h) (fun _ => ?_)
    repeat (first | refine Zq ?_ | refine Zs ?_ | refine ZT ?_ | refine ZF ?_ | refine Zc ?_ | refine XO_gU (hk := ?_))
    refine XO_dv0 dv_store (hk := ?_)
    rintro _ _ rfl
    rw [← e4]
    repeat (first | refine Zq ?_ | refine Zs ?_ | refine ZT ?_ | refine ZF ?_ | refine Zc ?_ | refine XO_gU (hk := ?_))
    refine XO_dv0 dv_storeW (hk := ?_)
    rintro _ _ rfl
    repeat (first | refine Zq ?_ | refine Zs ?_ | refine ZT ?_ | refine ZF ?_ | refine Zc ?_ | refine XO_gU (hk := ?_))
    refine XE_fold (by repeat (first | exact FindAll.nil | exact Find.here | apply Find.there | apply FindAll.cons)) (Rs.fold (r := r) (s := s) (p0 := p0) (p1 := p1) (S := S) (a := a) (c := c)) ?_
    refine XE_fold (by repeat (first | exact FindAll.nil | exact Find.here | apply Find.there | apply FindAll.cons)) (Rg.fold (r := r) (s := s) (o := o) (S := S) (p0 := p0) (p1 := p1)) ?_
    refine XE_ret (.inl rfl) (tells_cell rfl) ⟨_, ⟨rfl, rfl⟩, by ((try simp only [List.cons_append, List.nil_append]); repeat (first | exact ent_refl | refine ent_take (by repeat (first | exact Find.here | apply Find.there)) ?_ | refine ent_drop ?_))⟩
  · omega
theorem rchunks_spec (r s sb : Nat) {P : Int} {B : Nat} {o : Int} {C : Co} {m : Mm} {S : Sh} {oth : List (Int × Hd)} (hR : RInv P B o C m.f S oth) : Spec Tryz.prog 112 [.pointer (some ⟨r, 0, none⟩)] [Rg r s o S, Ck s sb C, Spc sb P m]
      (fun v L => ∃ a c a' c', v = .tuple #[.slice a (S.parts.map runP).reverse.length c, .slice a' S.larges.reverse.length c'] ∧ L = [Sl eRun a c (S.parts.map runP).reverse, Sl eRun a' c' S.larges.reverse, Rg r s o S, Ck s sb C, Spc sb P (walkM P (walkM P m (S.parts.map runP)) S.larges)]) := by
  refine Spec.intro (IsEnt.out) Tryz.func112 rfl Tryz.ntmps112 (by simp) (fun w0 F => ?_)
  simp only [envOf, List.zipIdx, List.map, List.cons_append, List.nil_append, Nat.zero_add, Nat.reduceAdd]
  have hlen := hR.len
  repeat (first | refine Zq ?_ | refine Zs ?_ | refine ZT ?_ | refine ZF ?_ | refine Zc ?_ | refine XO_gU (hk := ?_))
  refine X_cond rfl (fun h => by cases h) (fun _ => ?_)
  refine X_open (A := Rg r s o S) (by (repeat (first | exact Find.here | apply Find.there))) Rg.open ?_
  rintro ⟨p0, p1⟩ -
  dsimp only [List.cons_append, List.nil_append]
  refine X_open (A := Rs r s p0 p1 S) (by (repeat (first | exact Find.here | apply Find.there))) Rs.open ?_
  rintro ⟨a, c⟩ -
  dsimp only [List.cons_append, List.nil_append]
  repeat (first | refine Zq ?_ | refine Zs ?_ | refine ZT ?_ | refine ZF ?_ | refine Zc ?_ | refine XO_gU (hk := ?_))
  refine XO_call (pwalk_spec p0 s sb hR.k0 hR.hP (by simp; exact hlen.1)) (hk := ?_)
  rintro _ _ ⟨wa, wc, rfl, rfl⟩
  have hK2 : KInv C (walkM P m (S.parts.map runP)).f (plH 1 o 0 S.larges ++ (plH 0 o 0 (S.parts.map runP) ++ oth)) := by rw [walkM_f]; exact hR.k1
  repeat (first | refine Zq ?_ | refine Zs ?_ | refine ZT ?_ | refine ZF ?_ | refine Zc ?_ | refine XO_gU (hk := ?_))
  refine XO_call (pwalk_spec p1 s sb hK2 hR.hP hlen.2) (hk := ?_)
  rintro _ _ ⟨xa, xc, rfl, rfl⟩
  repeat (first | refine Zq ?_ | refine Zs ?_ | refine ZT ?_ | refine ZF ?_ | refine Zc ?_ | refine XO_gU (hk := ?_))
  refine XE_fold (by repeat (first | exact FindAll.nil | exact Find.here | apply Find.there | apply FindAll.cons)) (Rs.fold (r := r) (s := s) (p0 := p0) (p1 := p1) (S := S) (a := a) (c := c)) ?_
  refine XE_fold (by repeat (first | exact FindAll.nil | exact Find.here | apply Find.there | apply FindAll.cons)) (Rg.fold (r := r) (s := s) (o := o) (S := S) (p0 := p0) (p1 := p1)) ?_
  refine XE_ret (.inl rfl) (tells_tmps rfl rfl) ⟨_, ⟨wa, wc, xa, xc, rfl, rfl⟩, by ((try simp only [List.cons_append, List.nil_append]); repeat (first | exact ent_refl | refine ent_take (by repeat (first | exact Find.here | apply Find.there)) ?_ | refine ent_drop ?_))⟩
theorem RInv.walk {P : Int} {B : Nat} {o : Int} {C : Co} {m : Mm} {s : Sh} {oth : List (Int × Hd)} (h : RInv P B o C m.f s oth) (l l' : List (Int × Int)) : RInv P B o C (walkM P (walkM P m l) l').f s oth := by rw [walkM_f, walkM_f]; exact h
end Go.Proofs.YtamecmklcnohjaaGreat.Sep
namespace Go.Proofs.YtamecmklcnohjaaGreat.Sep
open Go.RowKit
set_option linter.unusedSimpArgs false
set_option linter.unusedVariables false
/-! as many things as a list has, and one of them taken out -/
section
variable {α : Type}
theorem find_ix {f : α → HP} : ∀ {M : List α} {i : Nat} {q : α}, M[i]? = some q → Find (M.map f) (f q) ((M.eraseIdx i).map f)
  | [], i, q, h => by simp at h
  | x :: M, 0, q, h => by simp at h; subst h; exact Find.here
  | x :: M, i + 1, q, h => by simp at h; exact Find.there (find_ix h)
theorem Star.outI {f : α → HP} {M : List α} {i : Nat} {q : α} (h : M[i]? = some q) : ∀ H, Star f M H → ∃ x : Unit, True ∧ SL [f q, Star f (M.eraseIdx i)] H := fun H hs => ⟨(), trivial, SL_pack H ((find_ix h).fwd hs)⟩
theorem eraseIdx_set_same : ∀ (M : List α) (i : Nat) (q : α), (M.set i q).eraseIdx i = M.eraseIdx i
  | [], _, _ => by simp
  | x :: M, 0, q => by simp
  | x :: M, i + 1, q => by simp [eraseIdx_set_same M i q]
theorem Star.backI {f : α → HP} {M : List α} {i : Nat} {q : α} (h : i < M.length) : ∀ H, SL [f q, Star f (M.eraseIdx i)] H → Star f (M.set i q) H := fun H hs => by
  have h1 : (M.set i q)[i]? = some q := by simp [h]
  have := (find_ix (f := f) h1).bwd (SL_unpack H (by rw [eraseIdx_set_same]; exact hs))
  exact this
theorem Star.sameI {f : α → HP} {M : List α} {i : Nat} {q : α} (h : M[i]? = some q) : ∀ H, SL [f q, Star f (M.eraseIdx i)] H → Star f M H := fun H hs => (find_ix (f := f) h).bwd (SL_unpack H hs)
theorem Star.snocI {f : α → HP} {M : List α} {q : α} : ∀ H, SL [f q, Star f M] H → Star f (M ++ [q]) H := fun H hs => by
  have h1 : (M ++ [q])[M.length]? = some q := by simp
  have := (find_ix (f := f) h1).bwd (SL_unpack H (by rw [show (M ++ [q]).eraseIdx M.length = M from by rw [List.eraseIdx_append_of_length_le (Nat.le_refl _)]; simp]; exact hs))
  exact this
theorem perm_ix : ∀ {M : List α} {i : Nat} {q : α}, M[i]? = some q → M.Perm (q :: M.eraseIdx i)
  | [], i, q, h => by simp at h
  | x :: M, 0, q, h => by simp at h; subst h; simp
  | x :: M, i + 1, q, h => by
    simp at h
    have := perm_ix h
    simp only [List.eraseIdx_cons_succ]
    exact (this.cons x).trans (List.Perm.swap _ _ _)
end
/-! regions of one store: block, owner, shape -/
abbrev RgT := Nat × Int × Sh
def RgOf (s : Nat) (q : RgT) : HP := Rg q.1 s q.2.1 q.2.2
def gotM (M : List RgT) : List (Int × Hd) := M.flatMap fun q => gotR q.2.1 q.2.2
theorem gotM_perm {M M' : List RgT} (h : M.Perm M') : (gotM M).Perm (gotM M') := h.flatMap_right _
structure RAll (P : Int) (B : Nat) (C : Co) (m : Int → Int) (M : List RgT) : Prop where
  K : KInv C m (gotM M)
  hP : C.P = P
  S : ∀ q ∈ M, SInv P B q.2.2
  po : ∀ q ∈ M, ∀ p ∈ q.2.2.parts, PtOk p
theorem RAll.one {P : Int} {B : Nat} {C : Co} {m : Int → Int} {M : List RgT} (h : RAll P B C m M) {i : Nat} {q : RgT} (hq : M[i]? = some q) : RInv P B q.2.1 C m q.2.2 (gotM (M.eraseIdx i)) :=
  ⟨h.K.perm (gotM_perm (perm_ix hq)), h.hP, h.S q (List.mem_of_getElem? hq), h.po q (List.mem_of_getElem? hq)⟩
theorem SInv.le {P : Int} {B B' : Nat} {s : Sh} (h : SInv P B s) (hB : B ≤ B') : SInv P B' s := ⟨h.ok, h.pi, Nat.le_trans h.lp hB, Nat.le_trans h.ll hB⟩
theorem RAll.le {P : Int} {B B' : Nat} {C : Co} {m : Int → Int} {M : List RgT} (h : RAll P B C m M) (hB : B ≤ B') : RAll P B' C m M := ⟨h.K, h.hP, fun q hq => (h.S q hq).le hB, h.po⟩
theorem RAll.set {P : Int} {B B' : Nat} {C C' : Co} {m m' : Int → Int} {M : List RgT} (h : RAll P B C m M) {i : Nat} (hi : i < M.length) {q' : RgT} (hB : B ≤ B') (hR : RInv P B' q'.2.1 C' m' q'.2.2 (gotM (M.eraseIdx i))) : RAll P B' C' m' (M.set i q') := by
  have hg : (M.set i q')[i]? = some q' := by simp [hi]
  refine ⟨?_, hR.hP, fun q hq => ?_, fun q hq => ?_⟩
  · refine hR.K.perm (List.Perm.symm ?_)
    have := gotM_perm (perm_ix hg)
    rw [eraseIdx_set_same] at this
    exact this
  · rcases List.mem_or_eq_of_mem_set hq with h1 | h1
    · exact (h.S q h1).le hB
    · subst h1; exact hR.S
  · rcases List.mem_or_eq_of_mem_set hq with h1 | h1
    · exact h.po q h1
    · subst h1; exact hR.po
theorem RAll.ok {P : Int} {B : Nat} {C : Co} {m : Int → Int} {M : List RgT} (h : RAll P B C m M) : CoOk C := h.K.ci.ok
theorem Rgs.snoc {r s : Nat} {o : Int} {S : Sh} {M : List RgT} : ∀ H, SL [Rg r s o S, Star (RgOf s) M] H → Star (RgOf s) (M ++ [(r, o, S)]) H := fun H hs => Star.snocI (f := RgOf s) (q := (r, o, S)) H hs
theorem Rgs.out {s i : Nat} {q : RgT} {M : List RgT} (h : M[i]? = some q) : ∀ H, Star (RgOf s) M H → ∃ x : Unit, True ∧ SL [Rg q.1 s q.2.1 q.2.2, Star (RgOf s) (M.eraseIdx i)] H := fun H hs => Star.outI (f := RgOf s) h H hs
theorem Rgs.back {r s i : Nat} {o : Int} {S : Sh} {M : List RgT} (h : i < M.length) : ∀ H, SL [Rg r s o S, Star (RgOf s) (M.eraseIdx i)] H → Star (RgOf s) (M.set i (r, o, S)) H := fun H hs => Star.backI (f := RgOf s) (q := (r, o, S)) h H hs
theorem Rgs.same {s i : Nat} {q : RgT} {M : List RgT} (h : M[i]? = some q) : ∀ H, SL [Rg q.1 s q.2.1 q.2.2, Star (RgOf s) (M.eraseIdx i)] H → Star (RgOf s) M H := fun H hs => Star.sameI (f := RgOf s) h H hs
end Go.Proofs.YtamecmklcnohjaaGreat.Sep
namespace Go.Proofs.YtamecmklcnohjaaGreat.Sep
open Go.RowKit
set_option linter.unusedSimpArgs false
set_option linter.unusedVariables false
theorem del_ins {κ α : Type} [DecidableEq κ] {l : List (κ × α)} {k : κ} {v v' : α} (h : lk l k = some v) : del (ins l k v') k = del l k := by
  obtain ⟨l1, l2, rfl, h1⟩ := lk_split h
  rw [ins_split h1, del_split h1, del_split h1]
theorem fits_zero (s : Sh) : fitsS s 0 0 0 = true := by
  unfold fitsS
  rw [if_neg (by omega), if_pos rfl]; rfl
theorem rew_zero (C : Co) (s : Sh) : rewS C s 0 0 0 0 0 = some (putsC C s 0 0, emptySh) := by
  unfold rewS
  rw [if_pos (fits_zero s), if_pos rfl]
def endV (l : Nat) (C : Co) (rg : List (Int × Sh)) (id : Int) : Option Sh → Value → List HP → Prop
  | none => fun v L => v = .bool false ∧ L = [Lg l C rg]
  | some s => fun v L => v = .bool true ∧ L = [Lg l (putsC C s 0 0) (del rg id)]
attribute [local irreducible] Core Shd Shs Lg
set_option maxHeartbeats 8000000
attribute [local irreducible] X XE XO XD XDi XDa PV RV DV pt base Spec Sl Mp Keeps Pg Kc
end Go.Proofs.YtamecmklcnohjaaGreat.Sep
namespace Go.Proofs.YtamecmklcnohjaaGreat.Sep
open Go.RowKit
set_option linter.unusedSimpArgs false
set_option linter.unusedVariables false
attribute [local irreducible] Core Shd Shs Lg
set_option maxHeartbeats 8000000
attribute [local irreducible] X XE XO XD XDi XDa PV RV DV pt base Spec Sl Mp Keeps Pg Kc
def lmarkV (l : Nat) (C : Co) (rg : List (Int × Sh)) : Option Sh → Value → List HP → Prop
  | none => fun v L => v = .tuple #[.agg #[.int .i64 0, .int .i64 0, .int .u64 0, .int .u64 0, .int .u64 0], .bool false] ∧ L = [Lg l C rg]
  | some s => fun v L => v = .tuple #[.agg #[.int .i64 (s.parts.length : Int), .int .i64 (s.larges.length : Int), .int .u64 (topAt s), .int .u64 s.obj, .int .u64 s.pad], .bool true] ∧ L = [Lg l C rg]
theorem mark_spec (l : Nat) (C : Co) (rg : List (Int × Sh)) (id : Int) (hS : ∀ q ∈ rg, q.2.parts.length ≤ 1048576) :
    Spec Tryz.prog 25 [.pointer (some ⟨l, 0, none⟩), .int .u64 id] [Lg l C rg] (lmarkV l C rg (lk rg id)) := by
  refine Spec.intro (IsEnt.out) Tryz.func25 rfl Tryz.ntmps25 (by simp) (fun w0 F => ?_)
  simp only [envOf, List.zipIdx, List.map, List.cons_append, List.nil_append, Nat.zero_add, Nat.reduceAdd]
  refine X_open .here Lg.open ?_
  rintro ⟨mb, M⟩ hM
  dsimp only [List.cons_append, List.nil_append] at hM ⊢
  repeat (first | refine Zq ?_ | refine Zs ?_ | refine ZT ?_ | refine ZF ?_ | refine Zc ?_ | refine XO_gU (hk := ?_))
  refine XO_dv dv_alloc (hk := ?_)
  rintro _ _ ⟨gb, rfl, rfl⟩
  repeat (first | refine Zq ?_ | refine Zs ?_ | refine ZT ?_ | refine ZF ?_ | refine Zc ?_ | refine XO_gU (hk := ?_))
  refine XO_call (of_spec l mb C (blk M) id) (hk := ?_)
  rintro _ _ ⟨rfl, rfl⟩
  rw [lk_blk]
  cases hk : lk M id with
  | none =>
    have hrg : lk rg id = none := by rw [← hM, lk_rgs, hk]; rfl
    rw [hrg]
    simp only [Option.map_none, Option.getD_none, ptV]
    repeat (first | refine Zq ?_ | refine Zs ?_ | refine ZT ?_ | refine ZF ?_ | refine Zc ?_ | refine XO_gU (hk := ?_))
    refine X_cond rfl (fun _ => ?_) (fun h => by cases h)
    repeat (first | refine Zq ?_ | refine Zs ?_ | refine ZT ?_ | refine ZF ?_ | refine Zc ?_ | refine XO_gU (hk := ?_))
    refine XO_dv0 dv_storeW (hk := ?_)
    rintro _ _ rfl
    repeat (first | refine Zq ?_ | refine Zs ?_ | refine ZT ?_ | refine ZF ?_ | refine Zc ?_ | refine XO_gU (hk := ?_))
    refine XE_fold (by repeat (first | exact FindAll.nil | exact Find.here | apply Find.there | apply FindAll.cons)) (Lg.fold hM) ?_
    refine XE_ret (.inl rfl) (tells_many (rs := [.cell _ _, .tmp _]) (vs := [_, _]) rfl ⟨told_cell, told_tmp, trivial⟩) ⟨_, ⟨rfl, rfl⟩, by ((try simp only [List.cons_append, List.nil_append]); repeat (first | exact ent_refl | refine ent_take (by repeat (first | exact Find.here | apply Find.there)) ?_ | refine ent_drop ?_))⟩
  | some q =>
    obtain ⟨b, s⟩ := q
    have hrg : lk rg id = some s := by rw [← hM, lk_rgs, hk]; rfl
    have hsame := ins_same hrg
    rw [hrg]
    obtain ⟨M1, M2, rfl, hn1⟩ := lk_split hk
    have hs2 := hS (id, s) (by rw [← hM]; simp [rgs])
    dsimp only at hs2
    simp only [Option.map_some, Option.getD_some, ptV]
    repeat (first | refine Zq ?_ | refine Zs ?_ | refine ZT ?_ | refine ZF ?_ | refine Zc ?_ | refine XO_gU (hk := ?_))
    refine X_cond rfl (fun h => by cases h) (fun _ => ?_)
    refine X_open (A := Shs (M1 ++ (id, b, s) :: M2)) (by (repeat (first | exact Find.here | apply Find.there))) Shs.out ?_
    rintro ⟨⟩ -
    dsimp only [List.cons_append, List.nil_append]
    refine X_open (A := Shd b s) (by (repeat (first | exact Find.here | apply Find.there))) Shd.open ?_
    rintro ⟨a, c, a', c'⟩ -
    dsimp only [List.cons_append, List.nil_append]
    repeat (first | refine Zq ?_ | refine Zs ?_ | refine ZT ?_ | refine ZF ?_ | refine Zc ?_ | refine XO_gU (hk := ?_))
    repeat (first | refine XD_pick (h := ?_) | refine Dq ?_ | refine Ds ?_ | refine XDi_gF (h := ?_) | refine XDi_gU (h := ?_) | refine X_draws (h := ?_))
    refine XD_one (h := ?_)
    refine XDa_dvA (dv_call (top_raw b s a a' c c' (by omega))) (hk := ?_)
    rintro _ _ ⟨_, ⟨cb, o, A, G, rfl, hCur, hfold, rfl⟩, rfl⟩
    refine ⟨by (repeat (first | exact keeps_nil | exact keeps_fnil | refine keeps_skip (h := ?_) | refine keeps_takeQ (h := ?_))), ?_⟩
    repeat (first | refine XD_pick (h := ?_) | refine Dq ?_ | refine Ds ?_ | refine XDi_gF (h := ?_) | refine XDi_gU (h := ?_) | refine X_draws (h := ?_))
    refine XDi_rvA (hCur.load1 (by (repeat (first | exact Find.here | apply Find.there))) rfl) (h := ?_)
    repeat (first | refine XD_pick (h := ?_) | refine Dq ?_ | refine Ds ?_ | refine XDi_gF (h := ?_) | refine XDi_gU (h := ?_) | refine X_draws (h := ?_))
    refine XD_one (h := ?_)
    refine XDa_dvk0 dv_storeW (K := _) (hk := ?_)
    rintro _ _ rfl
    refine ⟨by (repeat (first | exact keeps_nil | exact keeps_fnil | refine keeps_skip (h := ?_) | refine keeps_takeQ (h := ?_))), ?_⟩
    (refine XD_one (h := ?_); refine XDa_dvA (dv_of_rv (rv_of_pv pv_assign)) (hk := ?_); rintro _ _ ⟨rfl, rfl⟩; refine ⟨by (repeat (first | exact keeps_nil | exact keeps_fnil | refine keeps_skip (h := ?_) | refine keeps_takeQ (h := ?_))), ?_⟩)
    (refine XD_end (h := ?_); repeat (first | refine Zq ?_ | refine Zs ?_ | refine ZT ?_ | refine ZF ?_ | refine Zc ?_ | refine XO_gU (hk := ?_)))
    refine XE_fold (by repeat (first | exact FindAll.nil | exact Find.here | apply Find.there | apply FindAll.cons)) (hfold (topAt s) s.obj s.pad) ?_
    rw [setTop_self]
    refine XE_fold (by repeat (first | exact FindAll.nil | exact Find.here | apply Find.there | apply FindAll.cons)) (Lg.back s hM hn1) ?_
    rw [hsame]
    refine XE_ret (.inl rfl) (tells_many (rs := [.cell _ _, .tmp _]) (vs := [_, _]) rfl ⟨told_cell, told_tmp, trivial⟩) ⟨_, ⟨rfl, rfl⟩, by ((try simp only [List.cons_append, List.nil_append]); repeat (first | exact ent_refl | refine ent_take (by repeat (first | exact Find.here | apply Find.there)) ?_ | refine ent_drop ?_))⟩
end Go.Proofs.YtamecmklcnohjaaGreat.Sep
namespace Go.Proofs.YtamecmklcnohjaaGreat.Sep
open Go.RowKit
set_option linter.unusedSimpArgs false
set_option linter.unusedVariables false
/-! a ledger's regions: what contracts want of them -/
theorem trimLg_spec (l : Nat) (C : Co) (rg : List (Int × Sh)) (h : CoOk C) : Spec Tryz.prog 24 [.pointer (some ⟨l, 0, none⟩)] [Lg l C rg] (fun v L => v = .int .i64 (trimN C) ∧ L = [Lg l (trimC C) rg]) := by
  refine ⟨(trim_spec l 0 C h).1, fun w0 w F hs => ?_⟩
  obtain ⟨⟨mb, M⟩, hM, hs⟩ := hs.openA Lg.open
  refine ((trim_spec l mb C h).2 w0 w ([Mp idE ptV mb (blk M), Shs M] ++ F) hs).mono ?_
  rintro e w' ⟨v, L', he, ⟨hv, rfl⟩, hs'⟩
  exact ⟨v, _, he, ⟨hv, rfl⟩, hs'.map (ent_fold (S := [Core l mb (trimC C), Mp idE ptV mb (blk M), Shs M]) (by repeat (first | exact FindAll.nil | exact Find.here | apply Find.there | apply FindAll.cons)) (Lg.fold hM) (fun _ h => h))⟩
/-- What an alloc and a rewind come to, where there is the region. -/
theorem lalloc_ok (l : Nat) (C : Co) (rg : List (Int × Sh)) (id size align : Int) (s : Sh) (ho : lk rg id = some s) (hC : CoOk C) (hS : ∀ q ∈ rg, ShOk q.2 ∧ q.2.parts.length ≤ 1048576 ∧ q.2.larges.length ≤ 1048576) (h0 : 0 ≤ size) (h1 : size ≤ 18446744073709551615) (h2 : 0 ≤ align) (h3 : align ≤ 18446744073709551615) {C' : Co} {s' : Sh} {e : Int} (ha : allocS C s size align = ((C', s'), e)) :
    Spec Tryz.prog 19 [.pointer (some ⟨l, 0, none⟩), .int .u64 id, .int .u64 size, .int .u64 align] [Lg l C rg] (fun v L => v = .int .i64 e ∧ L = [Lg l C' (ins rg id s')]) := by
  refine (alloc_spec l C rg id size align hC hS h0 h1 h2 h3).mono fun v L h => ?_
  rw [ho, allocV_eq ha] at h
  exact h
theorem lrew_ok (l : Nat) (C : Co) (rg : List (Int × Sh)) (id mc ml at_ ob pd : Int) (s : Sh) (ho : lk rg id = some s) (hC : CoOk C) (hS : ∀ q ∈ rg, ShOk q.2 ∧ q.2.parts.length ≤ 1048576 ∧ q.2.larges.length ≤ 1048576) (hmc : -9223372036854775808 ≤ mc) (hmc' : mc ≤ 9223372036854775807) (hml : -9223372036854775808 ≤ ml) (hml' : ml ≤ 9223372036854775807) {q : Co × Sh} (hr : rewS C s mc ml at_ ob pd = some q) :
    Spec Tryz.prog 22 [.pointer (some ⟨l, 0, none⟩), .int .u64 id, .agg #[.int .i64 mc, .int .i64 ml, .int .u64 at_, .int .u64 ob, .int .u64 pd]] [Lg l C rg] (fun v L => v = .int .i64 0 ∧ L = [Lg l q.1 (ins rg id q.2)]) := by
  refine (rewind_spec l C rg id mc ml at_ ob pd hC hS hmc hmc' hml hml').mono fun v L h => ?_
  rw [ho, rewV_some hr] at h
  exact h
theorem lrew_no (l : Nat) (C : Co) (rg : List (Int × Sh)) (id mc ml at_ ob pd : Int) (s : Sh) (ho : lk rg id = some s) (hC : CoOk C) (hS : ∀ q ∈ rg, ShOk q.2 ∧ q.2.parts.length ≤ 1048576 ∧ q.2.larges.length ≤ 1048576) (hmc : -9223372036854775808 ≤ mc) (hmc' : mc ≤ 9223372036854775807) (hml : -9223372036854775808 ≤ ml) (hml' : ml ≤ 9223372036854775807) (hr : rewS C s mc ml at_ ob pd = none) :
    Spec Tryz.prog 22 [.pointer (some ⟨l, 0, none⟩), .int .u64 id, .agg #[.int .i64 mc, .int .i64 ml, .int .u64 at_, .int .u64 ob, .int .u64 pd]] [Lg l C rg] (fun v L => v = .int .i64 2 ∧ L = [Lg l C rg]) := by
  refine (rewind_spec l C rg id mc ml at_ ob pd hC hS hmc hmc' hml hml').mono fun v L h => ?_
  rw [ho, rewV_none hr] at h
  exact h
theorem lmark_ok (l : Nat) (C : Co) (rg : List (Int × Sh)) (id : Int) (s : Sh) (ho : lk rg id = some s) (hS : ∀ q ∈ rg, q.2.parts.length ≤ 1048576) :
    Spec Tryz.prog 25 [.pointer (some ⟨l, 0, none⟩), .int .u64 id] [Lg l C rg] (fun v L => v = .tuple #[.agg #[.int .i64 (s.parts.length : Int), .int .i64 (s.larges.length : Int), .int .u64 (topAt s), .int .u64 s.obj, .int .u64 s.pad], .bool true] ∧ L = [Lg l C rg]) := by
  refine (mark_spec l C rg id hS).mono fun v L h => ?_
  rw [ho] at h
  exact h
end Go.Proofs.YtamecmklcnohjaaGreat.Sep
namespace Go.Proofs.YtamecmklcnohjaaGreat.Sep
open Go.ChangeShapes Go.WideShapes Go.ChangeAt Go.RowKit Go.Deep
set_option linter.unusedSimpArgs false
set_option linter.unusedVariables false
/-! acts of ledgers, told by their fields -/
structure A19 where
  d : Int
  i : Int
  sz : Int
  al : Int
  k : Int
  mc : Int
  ml : Int
  at_ : Int
  ob : Int
  pd : Int
def eA19 : E A19 := ⟨10, true, fun x => [.int .u8 x.d, .int .u8 x.i, .int .u64 x.sz, .int .u64 x.al, .int .u8 x.k, .int .i64 x.mc, .int .i64 x.ml, .int .u64 x.at_, .int .u64 x.ob, .int .u64 x.pd], fun _ => rfl, fun _ _ h => by simp at h; rcases h with rfl | rfl | rfl | rfl | rfl | rfl | rfl | rfl | rfl | rfl <;> rfl, by decide, fun h => by cases h⟩
structure OkM (mc ml at_ ob pd : Int) : Prop where
  mc : -9223372036854775808 ≤ mc ∧ mc ≤ 9223372036854775807
  ml : -9223372036854775808 ≤ ml ∧ ml ≤ 9223372036854775807
  at_ : 0 ≤ at_ ∧ at_ ≤ 18446744073709551615
  ob : 0 ≤ ob ∧ ob ≤ 18446744073709551615
  pd : 0 ≤ pd ∧ pd ≤ 18446744073709551615
structure OkA19 (x : A19) : Prop where
  d : 0 ≤ x.d ∧ x.d ≤ 255
  i : 0 ≤ x.i ∧ x.i ≤ 255
  sz : 0 ≤ x.sz ∧ x.sz ≤ 18446744073709551615
  al : 0 ≤ x.al ∧ x.al ≤ 18446744073709551615
  k : 0 ≤ x.k ∧ x.k ≤ 255
  m : OkM x.mc x.ml x.at_ x.ob x.pd
abbrev qInt (k : IntKind) : Nat × (List Value → Prop) := (1, fun cs => ∃ n, (Lit.int k n).wf = true ∧ cs = [.int k n])
def mPs19 : List (Nat × (List Value → Prop)) := [qInt .i64, qInt .i64, qInt .u64, qInt .u64, qInt .u64]
def aPs19 : List (Nat × (List Value → Prop)) := [qInt .u8, qInt .u8, qInt .u64, qInt .u64, qInt .u8, (5, fun cs => Parts cs mPs19)]
theorem flat_m19 : FlatP Tryz.prog 36 5 (fun cs => Parts cs mPs19) :=
  flatP_struct Tryz.underlying36 mPs19 ⟨rfl, flatP_int Tryz.underlying3 (by kernel_rfl), rfl, flatP_int Tryz.underlying3 (by kernel_rfl), rfl, flatP_int Tryz.underlying32 (by kernel_rfl), rfl, flatP_int Tryz.underlying32 (by kernel_rfl), rfl, flatP_int Tryz.underlying32 (by kernel_rfl), trivial⟩ (by kernel_rfl)
theorem flat_a19 : FlatP Tryz.prog 38 10 (fun cs => Parts cs aPs19) :=
  flatP_struct Tryz.underlying38 aPs19 ⟨rfl, flatP_int Tryz.underlying5 (by kernel_rfl), rfl, flatP_int Tryz.underlying5 (by kernel_rfl), rfl, flatP_int Tryz.underlying32 (by kernel_rfl), rfl, flatP_int Tryz.underlying32 (by kernel_rfl), rfl, flatP_int Tryz.underlying5 (by kernel_rfl), rfl, flat_m19, trivial⟩ (by kernel_rfl)
theorem take_eq19 {cs a : List Value} {n : Nat} (h : cs.take n = a) : cs = a ++ cs.drop n := by rw [← h, List.take_append_drop]
theorem parts_a19 (cs : List Value) (h : Parts cs aPs19) : ∃ y : A19, OkA19 y ∧ cs = eA19.cells y := by
  obtain ⟨⟨d, w1, e1⟩, ⟨w, w2, e2⟩, ⟨sz, w3, e3⟩, ⟨al, w4, e4⟩, ⟨k, w5, e5⟩, hm, hn⟩ := h
  obtain ⟨⟨mc, w6, e6⟩, ⟨ml, w7, e7⟩, ⟨at_, w8, e8⟩, ⟨ob, w9, e9⟩, ⟨pd, w10, e10⟩, hn2⟩ := hm
  refine ⟨⟨d, w, sz, al, k, mc, ml, at_, ob, pd⟩, ⟨wf_u8 w1, wf_u8 w2, wf_u64 w3, wf_u64 w4, wf_u8 w5, ⟨wf_i64 w6, wf_i64 w7, wf_u64 w8, wf_u64 w9, wf_u64 w10⟩⟩, ?_⟩
  have f1 := take_eq19 e1
  have f2 := take_eq19 e2
  have f3 := take_eq19 e3
  have f4 := take_eq19 e4
  have f5 := take_eq19 e5
  have f6 := take_eq19 e6
  have f7 := take_eq19 e7
  have f8 := take_eq19 e8
  have f9 := take_eq19 e9
  have f10 := take_eq19 e10
  have fm := List.take_append_drop 5 (List.drop 1 (List.drop 1 (List.drop 1 (List.drop 1 (List.drop 1 cs)))))
  rw [f1, f2, f3, f4, f5, ← fm]
  have hn' : List.drop 5 (List.drop 1 (List.drop 1 (List.drop 1 (List.drop 1 (List.drop 1 cs))))) = [] := hn
  rw [hn', List.append_nil, f6, f7, f8, f9, f10]
  have hn2' : List.drop 1 (List.drop 1 (List.drop 1 (List.drop 1 (List.drop 1 (List.take 5 (List.drop 1 (List.drop 1 (List.drop 1 (List.drop 1 (List.drop 1 cs))))))))))= [] := hn2
  rw [hn2']
  rfl
/-! lists of marks, and lists of these -/
abbrev M5 := Int × Int × Int × Int × Int
def eM5 : E M5 := ⟨5, true, fun q => [.int .i64 q.1, .int .i64 q.2.1, .int .u64 q.2.2.1, .int .u64 q.2.2.2.1, .int .u64 q.2.2.2.2], fun _ => rfl, fun _ _ h => by simp at h; rcases h with rfl | rfl | rfl | rfl | rfl <;> rfl, by decide, fun h => by cases h⟩
abbrev SlT := Option Addr × Nat × List M5
def eSlc : E SlT := ⟨1, false, fun q => [.slice q.1 q.2.2.length q.2.1], fun _ => rfl, fun _ _ h => by simp at h; subst h; rfl, by decide, fun _ => rfl⟩
def SlOf (q : SlT) : HP := Sl eM5 q.1 q.2.1 q.2.2
def ePn : E Nat := ⟨1, false, fun b => [.pointer (some ⟨b, 0, none⟩)], fun _ => rfl, fun _ _ h => by simp at h; subst h; rfl, by decide, fun _ => rfl⟩
theorem star_nils {L : List HP} : ∀ (n : Nat) (H : PH), SL L H → SL (Star SlOf (List.replicate n (none, 0, [])) :: L) H
  | 0, H, h => Star.nil h
  | n + 1, H, h => by
    have h1 := SL_nilSl eM5 (star_nils n H h)
    rw [List.replicate_succ']
    exact ent_fold (S := [SlOf (none, 0, []), Star SlOf (List.replicate n (none, 0, []))]) (.cons .here (.cons .here .nil)) (Star.add (f := SlOf)) (fun _ h => h) H h1
theorem Sls.out {i : Nat} {q : SlT} {M : List SlT} (h : M[i]? = some q) : ∀ H, Star SlOf M H → ∃ x : Unit, True ∧ SL [Sl eM5 q.1 q.2.1 q.2.2, Star SlOf (M.eraseIdx i)] H := fun H hs => Star.outI (f := SlOf) h H hs
theorem Sls.back {i c : Nat} {a : Option Addr} {xs : List M5} {M : List SlT} (h : i < M.length) : ∀ H, SL [Sl eM5 a c xs, Star SlOf (M.eraseIdx i)] H → Star SlOf (M.set i (a, c, xs)) H := fun H hs => Star.backI (f := SlOf) (q := (a, c, xs)) h H hs
theorem Sls.same {i : Nat} {q : SlT} {M : List SlT} (h : M[i]? = some q) : ∀ H, SL [Sl eM5 q.1 q.2.1 q.2.2, Star SlOf (M.eraseIdx i)] H → Star SlOf M H := fun H hs => Star.sameI (f := SlOf) h H hs
structure LrZ where
  C : Co
  m : Mm
  M : List RgT
  Ms : List SlT
structure LrJ (P : Int) (bl : List Nat) (B Bm : Nat) (z : LrZ) : Prop where
  R : RAll P B z.C z.m.f z.M
  bs : z.M.map (·.1) = bl
  os : z.M.map (·.2.1) = [0, 1, 2]
  ln : z.Ms.length = 3
  ms : ∀ q ∈ z.Ms, q.2.2.length ≤ Bm ∧ ∀ k ∈ q.2.2, OkM k.1 k.2.1 k.2.2.1 k.2.2.2.1 k.2.2.2.2
theorem os_one {M : List RgT} (h : M.map (·.2.1) = [0, 1, 2]) {id : Nat} (hid : id < 3) : ∃ q, M[id]? = some q ∧ q.2.1 = (id : Int) ∧ lk (M.map (·.2)) (id : Int) = some q.2.2 ∧ ∀ b S', ins (M.map (·.2)) (id : Int) S' = (M.set id (b, (id : Int), S')).map (·.2) := by
  match M, h with
  | [(b0, o0, s0), (b1, o1, s1), (b2, o2, s2)], h =>
    simp only [List.map_cons, List.map_nil, List.cons.injEq, and_true] at h
    obtain ⟨rfl, rfl, rfl⟩ := h
    rcases id with _ | _ | _ | id
    · exact ⟨_, rfl, rfl, by simp [lk], fun b S' => by simp [ins]⟩
    · exact ⟨_, rfl, rfl, by simp [lk], fun b S' => by simp [ins]⟩
    · exact ⟨_, rfl, rfl, by simp [lk], fun b S' => by simp [ins]⟩
    · omega
theorem LrJ.set {P : Int} {bl : List Nat} {B B' Bm : Nat} {z : LrZ} (h : LrJ P bl B Bm z) (hB : B ≤ B') {id : Nat} {q : RgT} (hq : z.M[id]? = some q) {C' : Co} {m' : Mm} {S' : Sh} (hR : RInv P B' q.2.1 C' m'.f S' (gotM (z.M.eraseIdx id))) : LrJ P bl B' Bm ⟨C', m', z.M.set id (q.1, q.2.1, S'), z.Ms⟩ := by
  obtain ⟨hi, he⟩ := List.getElem?_eq_some_iff.1 hq
  refine ⟨h.R.set hi hB hR, ?_, ?_, h.ln, h.ms⟩
  · rw [← h.bs, List.map_set]
    refine List.ext_getElem (by simp) fun n h1 h2 => ?_
    simp only [List.getElem_set, List.getElem_map]
    split
    · rename_i e; subst e; rw [he]
    · rfl
  · rw [← h.os, List.map_set]
    refine List.ext_getElem (by simp) fun n h1 h2 => ?_
    simp only [List.getElem_set, List.getElem_map]
    split
    · rename_i e; subst e; rw [he]
    · rfl
theorem RAll.hS {P : Int} {B : Nat} {C : Co} {m : Int → Int} {M : List RgT} (h : RAll P B C m M) (hB : B ≤ 100000) : ∀ q ∈ M.map (·.2), ShOk q.2 ∧ q.2.parts.length ≤ 1048576 ∧ q.2.larges.length ≤ 1048576 := fun q hq => by
  obtain ⟨r, hr, rfl⟩ := List.mem_map.1 hq
  have := h.S r hr
  exact ⟨this.ok, by have := this.lp; omega, by have := this.ll; omega⟩
theorem RAll.hB {P : Int} {B : Nat} {C : Co} {m : Int → Int} {M : List RgT} (h : RAll P B C m M) (hB : B ≤ 100000) : ∀ q ∈ M.map (·.2), ShB q.2 := fun q hq => by
  have := h.hS hB q hq
  exact ⟨this.1, this.2.1, this.2.2⟩
end Go.Proofs.YtamecmklcnohjaaGreat.Sep
