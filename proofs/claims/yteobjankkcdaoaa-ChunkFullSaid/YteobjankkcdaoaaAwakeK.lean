import Derived.Test.YteobjankkcdaoaaChunkE
namespace Go.Proofs.Yteobjankkcdaoaa.Sep
open Go.RowKit
set_option linter.unusedSimpArgs false
set_option linter.unusedVariables false
/-! the document's example of chunks -/
theorem readI_hdr {P : Int} {m : Int → Int} {page : Int} {h : Hd} (hin : 0 ≤ page ∧ page < P) (hr : rdM m (page * 4096) 32 = hdB h) (hg : HdGood h) : readI P m page = (h, 0) := by
  obtain ⟨g1, g2, g3, g4⟩ := hg
  unfold readI
  rw [if_pos hin, hr, hd_back g1 g2 g3 (by rw [g4]; decide) (by rw [g4]; decide)]
theorem get_hr {C : Co} {m : Int → Int} {got : List (Int × Hd)} (h : KInv C m got) (p k o : Int) (ho : 0 ≤ o ∧ o < 18446744073709551616) : ¬ bad p k → (getC C (rnd p)).2.2 = 0 → RunOk C.P ((getC C (rnd p)).2.1, rnd p) := fun hb hz => by
  have hb' : 1 ≤ p ∧ p ≤ 1048576 ∧ 0 ≤ k ∧ k ≤ 255 := by unfold bad at hb; omega
  obtain ⟨g1, g2, g3, g4⟩ := hb'
  obtain ⟨r1, r2, r3, -⟩ := rnd_ok g1 g2
  exact (kget (hd := ⟨rnd p, k, o, 0⟩) h ⟨⟨by show 1 ≤ rnd p; omega, r2, g3, by show k < 256; omega⟩, ho.1, ho.2, rfl⟩ r3 hz).2.2
/-- A chunk is got: what is told then. -/
theorem get_inv2 {C : Co} {m : Int → Int} {got : List (Int × Hd)} (h : KInv C m got) {p k o : Int} (ho : 0 ≤ o ∧ o < 18446744073709551616) (hb : ¬ bad p k) (hz : (getC C (rnd p)).2.2 = 0) :
    KInv (getC C (rnd p)).1 (wrM m ((getC C (rnd p)).2.1 * 4096) (hdB ⟨rnd p, k, o, 0⟩)) (got ++ [((getC C (rnd p)).2.1, ⟨rnd p, k, o, 0⟩)]) ∧ (getC C (rnd p)).1.P = C.P := by
  have hb' : 1 ≤ p ∧ p ≤ 1048576 ∧ 0 ≤ k ∧ k ≤ 255 := by unfold bad at hb; omega
  obtain ⟨g1, g2, g3, g4⟩ := hb'
  obtain ⟨r1, r2, r3, -⟩ := rnd_ok g1 g2
  have := kget (hd := ⟨rnd p, k, o, 0⟩) h ⟨⟨by show 1 ≤ rnd p; omega, r2, g3, by show k < 256; omega⟩, ho.1, ho.2, rfl⟩ r3 hz
  exact ⟨this.1, this.2.1⟩
def ck0 : Co := ⟨16, [(0, 16)], fun _ => []⟩
def ck1 : Co := (getC ck0 4).1
def ck2 : Co := putC ck1 (0, 4)
def ck3 : Co := (getC ck2 4).1
theorem ckf1 : rnd 3 = 4 ∧ rnd 4 = 4 := by decide
theorem ckf2 : (getC ck0 4).2.1 = 0 ∧ (getC ck0 4).2.2 = 0 ∧ ck1.P = 16 := by decide +kernel
theorem ckf3 : putCE ck1 (0, 4) = 0 ∧ ck2.P = 16 := by decide +kernel
theorem ckf4 : (getC ck2 4).2.1 = 0 ∧ (getC ck2 4).2.2 = 0 ∧ ck3.P = 16 := by decide +kernel
theorem ckf5 : totI ck3.fr = 12 ∧ ck3.fr.length = 1 ∧ trimN ck3 = 0 := by decide +kernel
set_option maxHeartbeats 8000000
attribute [local irreducible] X XE XO XD XDi XDa PV RV DV pt base Spec Sl Mp Keeps Pg Kc Pgs Spc Ck
theorem awake10_spec : Spec Try.prog 9 [] [] isTrue := by
  refine Spec.intro (IsEnt.out) Try.func9 rfl Try.ntmps9 (by simp) (fun w0 F => ?_)
  simp only [envOf, List.zipIdx, List.map, List.cons_append, List.nil_append, Nat.zero_add, Nat.reduceAdd]
  have hk0 : KInv ck0 (fun _ => 0) [] := knew 16 _
  have hz1 : (getC ck0 (rnd 3)).2.2 = 0 := by rw [ckf1.1]; exact ckf2.2.1
  have hb1 : ¬ bad 3 0 := by decide
  have hb2 : ¬ bad 4 0 := by decide
  obtain ⟨hk1, -⟩ := get_inv2 (p := 3) (k := 0) (o := 7) hk0 (by decide) hb1 hz1
  rw [ckf1.1, ckf2.1, List.nil_append] at hk1
  have hm1 := hk1.hdr (0, ⟨4, 0, 7, 0⟩) (by simp)
  have hrd : readI ck1.P (wrM (fun _ => 0) (0 * 4096) (hdB ⟨4, 0, 7, 0⟩)) 0 = (⟨4, 0, 7, 0⟩, 0) := readI_hdr (by rw [ckf2.2.2]; decide) hm1.1 hm1.2
  obtain ⟨hk2, -⟩ := kput (l1 := []) (l2 := []) (p := 0) (hd := ⟨4, 0, 7, 0⟩) hk1
  have hz2 : (getC ck2 (rnd 4)).2.2 = 0 := by rw [ckf1.2]; exact ckf4.2.1
  have hk3 := (get_inv2 (p := 4) (k := 0) (o := 8) hk2 (by decide) hb2 hz2).1
  repeat (first | refine ZT ?_ | refine ZF ?_ | refine Zp pv_move ?_ | refine Zp pv_assign ?_ | refine Zp pv_nil_ptr ?_ | refine Zp pv_cmp ?_ | refine Zp pv_arith ?_ | refine Zp pv_field ?_ | refine Zr rv_load ?_ | refine Zp pv_len_slice ?_ | refine Zp pv_extract ?_ | refine Zp pv_not ?_ | refine Zp pv_index ?_ | refine Zr rv_loadW ?_ | refine Zr rv_loadS ?_ | refine Zp pv_pickT ?_ | refine Zp pv_pickF ?_ | refine Zp pv_max ?_ | refine Zp pv_min ?_ | refine Zp pv_eqnil ?_ | refine Zp pv_nenil ?_ | refine Zp pv_conv_int ?_ | refine Zp pv_build ?_ | refine Zp pv_eqb ?_ | refine Zp pv_neb ?_ | refine Zp pv_bits ?_ | refine Zp pv_shr12 ?_ | refine Zp pv_shl12 ?_ | refine Zp pv_quo ?_ | refine Zp pv_rem ?_ | refine Zp pv_neg ?_ | refine Zp pv_sliceH ?_ | refine Zp pv_build0 ?_ | refine Zp pv_makeFunc ?_ | refine Zp pv_indexArr ?_ | refine Zp pv_sliceArr ?_ | refine Zp pv_sliceL ?_ | refine XO_gU (hk := ?_) | refine Zp pv_nil_fn ?_ | refine X_seq ?_ | refine X_region ?_ | refine X_block ?_ | refine X_skip ?_ | refine X_exit ?_ | refine X_ret ?_ | refine XO_nil ?_ | refine XE_code ?_ | refine XE_block ?_ | refine XE_code_exit ?_ | refine XE_block_exit ?_ | refine XE_code_ret ?_ | refine XE_block_ret ?_ | refine XE_pred_ret ?_ | refine XE_pred_exit ?_ | refine XE_block_other rfl ?_)
  refine XO_call (knew_spec 16) (hk := ?_)
  rintro _ _ ⟨s, sb, rfl, rfl⟩
  repeat (first | refine ZT ?_ | refine ZF ?_ | refine Zp pv_move ?_ | refine Zp pv_assign ?_ | refine Zp pv_nil_ptr ?_ | refine Zp pv_cmp ?_ | refine Zp pv_arith ?_ | refine Zp pv_field ?_ | refine Zr rv_load ?_ | refine Zp pv_len_slice ?_ | refine Zp pv_extract ?_ | refine Zp pv_not ?_ | refine Zp pv_index ?_ | refine Zr rv_loadW ?_ | refine Zr rv_loadS ?_ | refine Zp pv_pickT ?_ | refine Zp pv_pickF ?_ | refine Zp pv_max ?_ | refine Zp pv_min ?_ | refine Zp pv_eqnil ?_ | refine Zp pv_nenil ?_ | refine Zp pv_conv_int ?_ | refine Zp pv_build ?_ | refine Zp pv_eqb ?_ | refine Zp pv_neb ?_ | refine Zp pv_bits ?_ | refine Zp pv_shr12 ?_ | refine Zp pv_shl12 ?_ | refine Zp pv_quo ?_ | refine Zp pv_rem ?_ | refine Zp pv_neg ?_ | refine Zp pv_sliceH ?_ | refine Zp pv_build0 ?_ | refine Zp pv_makeFunc ?_ | refine Zp pv_indexArr ?_ | refine Zp pv_sliceArr ?_ | refine Zp pv_sliceL ?_ | refine XO_gU (hk := ?_) | refine Zp pv_nil_fn ?_ | refine X_seq ?_ | refine X_region ?_ | refine X_block ?_ | refine X_skip ?_ | refine X_exit ?_ | refine X_ret ?_ | refine XO_nil ?_ | refine XE_code ?_ | refine XE_block ?_ | refine XE_code_exit ?_ | refine XE_block_exit ?_ | refine XE_code_ret ?_ | refine XE_block_ret ?_ | refine XE_pred_ret ?_ | refine XE_pred_exit ?_ | refine XE_block_other rfl ?_)
  have h1 := kget_spec s sb ck0 (fun _ => 0) 3 0 7 hk0.ci.ok (get_hr hk0 3 0 7 (by decide))
  unfold kgetV at h1
  rw [if_neg hb1, if_pos hz1, ckf1.1, ckf2.1, show ck0.P = 16 from rfl] at h1
  refine XO_call h1 (hk := ?_)
  rintro _ _ ⟨rfl, rfl⟩
  repeat (first | refine ZT ?_ | refine ZF ?_ | refine Zp pv_move ?_ | refine Zp pv_assign ?_ | refine Zp pv_nil_ptr ?_ | refine Zp pv_cmp ?_ | refine Zp pv_arith ?_ | refine Zp pv_field ?_ | refine Zr rv_load ?_ | refine Zp pv_len_slice ?_ | refine Zp pv_extract ?_ | refine Zp pv_not ?_ | refine Zp pv_index ?_ | refine Zr rv_loadW ?_ | refine Zr rv_loadS ?_ | refine Zp pv_pickT ?_ | refine Zp pv_pickF ?_ | refine Zp pv_max ?_ | refine Zp pv_min ?_ | refine Zp pv_eqnil ?_ | refine Zp pv_nenil ?_ | refine Zp pv_conv_int ?_ | refine Zp pv_build ?_ | refine Zp pv_eqb ?_ | refine Zp pv_neb ?_ | refine Zp pv_bits ?_ | refine Zp pv_shr12 ?_ | refine Zp pv_shl12 ?_ | refine Zp pv_quo ?_ | refine Zp pv_rem ?_ | refine Zp pv_neg ?_ | refine Zp pv_sliceH ?_ | refine Zp pv_build0 ?_ | refine Zp pv_makeFunc ?_ | refine Zp pv_indexArr ?_ | refine Zp pv_sliceArr ?_ | refine Zp pv_sliceL ?_ | refine XO_gU (hk := ?_) | refine Zp pv_nil_fn ?_ | refine X_seq ?_ | refine X_region ?_ | refine X_block ?_ | refine X_skip ?_ | refine X_exit ?_ | refine X_ret ?_ | refine XO_nil ?_ | refine XE_code ?_ | refine XE_block ?_ | refine XE_code_exit ?_ | refine XE_block_exit ?_ | refine XE_code_ret ?_ | refine XE_block_ret ?_ | refine XE_pred_ret ?_ | refine XE_pred_exit ?_ | refine XE_block_other rfl ?_)
  refine XO_call (kspace_spec s sb ck1) (hk := ?_)
  rintro _ _ ⟨rfl, rfl⟩
  repeat (first | refine ZT ?_ | refine ZF ?_ | refine Zp pv_move ?_ | refine Zp pv_assign ?_ | refine Zp pv_nil_ptr ?_ | refine Zp pv_cmp ?_ | refine Zp pv_arith ?_ | refine Zp pv_field ?_ | refine Zr rv_load ?_ | refine Zp pv_len_slice ?_ | refine Zp pv_extract ?_ | refine Zp pv_not ?_ | refine Zp pv_index ?_ | refine Zr rv_loadW ?_ | refine Zr rv_loadS ?_ | refine Zp pv_pickT ?_ | refine Zp pv_pickF ?_ | refine Zp pv_max ?_ | refine Zp pv_min ?_ | refine Zp pv_eqnil ?_ | refine Zp pv_nenil ?_ | refine Zp pv_conv_int ?_ | refine Zp pv_build ?_ | refine Zp pv_eqb ?_ | refine Zp pv_neb ?_ | refine Zp pv_bits ?_ | refine Zp pv_shr12 ?_ | refine Zp pv_shl12 ?_ | refine Zp pv_quo ?_ | refine Zp pv_rem ?_ | refine Zp pv_neg ?_ | refine Zp pv_sliceH ?_ | refine Zp pv_build0 ?_ | refine Zp pv_makeFunc ?_ | refine Zp pv_indexArr ?_ | refine Zp pv_sliceArr ?_ | refine Zp pv_sliceL ?_ | refine XO_gU (hk := ?_) | refine Zp pv_nil_fn ?_ | refine X_seq ?_ | refine X_region ?_ | refine X_block ?_ | refine X_skip ?_ | refine X_exit ?_ | refine X_ret ?_ | refine XO_nil ?_ | refine XE_code ?_ | refine XE_block ?_ | refine XE_code_exit ?_ | refine XE_block_exit ?_ | refine XE_code_ret ?_ | refine XE_block_ret ?_ | refine XE_pred_ret ?_ | refine XE_pred_exit ?_ | refine XE_block_other rfl ?_)
  have h2 := hread_spec sb 16 (wrM (fun _ => 0) (0 * 4096) (hdB ⟨4, 0, 7, 0⟩)) 0 (by decide) (by decide)
  have hrd2 := hrd
  rw [ckf2.2.2] at hrd2
  rw [hrd2] at h2
  refine XO_call h2 (hk := ?_)
  rintro _ _ ⟨rfl, rfl⟩
  repeat (first | refine ZT ?_ | refine ZF ?_ | refine Zp pv_move ?_ | refine Zp pv_assign ?_ | refine Zp pv_nil_ptr ?_ | refine Zp pv_cmp ?_ | refine Zp pv_arith ?_ | refine Zp pv_field ?_ | refine Zr rv_load ?_ | refine Zp pv_len_slice ?_ | refine Zp pv_extract ?_ | refine Zp pv_not ?_ | refine Zp pv_index ?_ | refine Zr rv_loadW ?_ | refine Zr rv_loadS ?_ | refine Zp pv_pickT ?_ | refine Zp pv_pickF ?_ | refine Zp pv_max ?_ | refine Zp pv_min ?_ | refine Zp pv_eqnil ?_ | refine Zp pv_nenil ?_ | refine Zp pv_conv_int ?_ | refine Zp pv_build ?_ | refine Zp pv_eqb ?_ | refine Zp pv_neb ?_ | refine Zp pv_bits ?_ | refine Zp pv_shr12 ?_ | refine Zp pv_shl12 ?_ | refine Zp pv_quo ?_ | refine Zp pv_rem ?_ | refine Zp pv_neg ?_ | refine Zp pv_sliceH ?_ | refine Zp pv_build0 ?_ | refine Zp pv_makeFunc ?_ | refine Zp pv_indexArr ?_ | refine Zp pv_sliceArr ?_ | refine Zp pv_sliceL ?_ | refine XO_gU (hk := ?_) | refine Zp pv_nil_fn ?_ | refine X_seq ?_ | refine X_region ?_ | refine X_block ?_ | refine X_skip ?_ | refine X_exit ?_ | refine X_ret ?_ | refine XO_nil ?_ | refine XE_code ?_ | refine XE_block ?_ | refine XE_code_exit ?_ | refine XE_block_exit ?_ | refine XE_code_ret ?_ | refine XE_block_ret ?_ | refine XE_pred_ret ?_ | refine XE_pred_exit ?_ | refine XE_block_other rfl ?_)
  refine XO_dv (dv_alloc (row := [.int .i64 0, .int .i64 0, .int .u64 0, .int .u64 0])) (hk := ?_)
  rintro _ _ ⟨hb, rfl, rfl⟩
  refine XO_dv0 (dv_storeW (vs := [.int .i64 4, .int .i64 0, .int .u64 7, .int .u64 0])) (hk := ?_)
  rintro _ _ rfl
  repeat (first | refine ZT ?_ | refine ZF ?_ | refine Zp pv_move ?_ | refine Zp pv_assign ?_ | refine Zp pv_nil_ptr ?_ | refine Zp pv_cmp ?_ | refine Zp pv_arith ?_ | refine Zp pv_field ?_ | refine Zr rv_load ?_ | refine Zp pv_len_slice ?_ | refine Zp pv_extract ?_ | refine Zp pv_not ?_ | refine Zp pv_index ?_ | refine Zr rv_loadW ?_ | refine Zr rv_loadS ?_ | refine Zp pv_pickT ?_ | refine Zp pv_pickF ?_ | refine Zp pv_max ?_ | refine Zp pv_min ?_ | refine Zp pv_eqnil ?_ | refine Zp pv_nenil ?_ | refine Zp pv_conv_int ?_ | refine Zp pv_build ?_ | refine Zp pv_eqb ?_ | refine Zp pv_neb ?_ | refine Zp pv_bits ?_ | refine Zp pv_shr12 ?_ | refine Zp pv_shl12 ?_ | refine Zp pv_quo ?_ | refine Zp pv_rem ?_ | refine Zp pv_neg ?_ | refine Zp pv_sliceH ?_ | refine Zp pv_build0 ?_ | refine Zp pv_makeFunc ?_ | refine Zp pv_indexArr ?_ | refine Zp pv_sliceArr ?_ | refine Zp pv_sliceL ?_ | refine XO_gU (hk := ?_) | refine Zp pv_nil_fn ?_ | refine X_seq ?_ | refine X_region ?_ | refine X_block ?_ | refine X_skip ?_ | refine X_exit ?_ | refine X_ret ?_ | refine XO_nil ?_ | refine XE_code ?_ | refine XE_block ?_ | refine XE_code_exit ?_ | refine XE_block_exit ?_ | refine XE_code_ret ?_ | refine XE_block_ret ?_ | refine XE_pred_ret ?_ | refine XE_pred_exit ?_ | refine XE_block_other rfl ?_)
  have h3 := kput_spec s sb ck1 (wrM (fun _ => 0) (0 * 4096) (hdB ⟨4, 0, 7, 0⟩)) 0 hk1.ci.ok
  unfold kputV at h3
  rw [hrd, if_pos rfl] at h3
  dsimp only at h3
  rw [ckf3.1, ckf2.2.2] at h3
  refine XO_call h3 (hk := ?_)
  rintro _ _ ⟨rfl, rfl⟩
  repeat (first | refine ZT ?_ | refine ZF ?_ | refine Zp pv_move ?_ | refine Zp pv_assign ?_ | refine Zp pv_nil_ptr ?_ | refine Zp pv_cmp ?_ | refine Zp pv_arith ?_ | refine Zp pv_field ?_ | refine Zr rv_load ?_ | refine Zp pv_len_slice ?_ | refine Zp pv_extract ?_ | refine Zp pv_not ?_ | refine Zp pv_index ?_ | refine Zr rv_loadW ?_ | refine Zr rv_loadS ?_ | refine Zp pv_pickT ?_ | refine Zp pv_pickF ?_ | refine Zp pv_max ?_ | refine Zp pv_min ?_ | refine Zp pv_eqnil ?_ | refine Zp pv_nenil ?_ | refine Zp pv_conv_int ?_ | refine Zp pv_build ?_ | refine Zp pv_eqb ?_ | refine Zp pv_neb ?_ | refine Zp pv_bits ?_ | refine Zp pv_shr12 ?_ | refine Zp pv_shl12 ?_ | refine Zp pv_quo ?_ | refine Zp pv_rem ?_ | refine Zp pv_neg ?_ | refine Zp pv_sliceH ?_ | refine Zp pv_build0 ?_ | refine Zp pv_makeFunc ?_ | refine Zp pv_indexArr ?_ | refine Zp pv_sliceArr ?_ | refine Zp pv_sliceL ?_ | refine XO_gU (hk := ?_) | refine Zp pv_nil_fn ?_ | refine X_seq ?_ | refine X_region ?_ | refine X_block ?_ | refine X_skip ?_ | refine X_exit ?_ | refine X_ret ?_ | refine XO_nil ?_ | refine XE_code ?_ | refine XE_block ?_ | refine XE_code_exit ?_ | refine XE_block_exit ?_ | refine XE_code_ret ?_ | refine XE_block_ret ?_ | refine XE_pred_ret ?_ | refine XE_pred_exit ?_ | refine XE_block_other rfl ?_)
  have h4 := kget_spec s sb ck2 (zrM (wrM (fun _ => 0) (0 * 4096) (hdB ⟨4, 0, 7, 0⟩)) (0 * 4096) 32) 4 0 8 hk2.ci.ok (get_hr hk2 4 0 8 (by decide))
  unfold kgetV at h4
  rw [if_neg hb2, if_pos hz2, ckf1.2, ckf4.1, ckf3.2] at h4
  refine XO_call h4 (hk := ?_)
  rintro _ _ ⟨rfl, rfl⟩
  repeat (first | refine ZT ?_ | refine ZF ?_ | refine Zp pv_move ?_ | refine Zp pv_assign ?_ | refine Zp pv_nil_ptr ?_ | refine Zp pv_cmp ?_ | refine Zp pv_arith ?_ | refine Zp pv_field ?_ | refine Zr rv_load ?_ | refine Zp pv_len_slice ?_ | refine Zp pv_extract ?_ | refine Zp pv_not ?_ | refine Zp pv_index ?_ | refine Zr rv_loadW ?_ | refine Zr rv_loadS ?_ | refine Zp pv_pickT ?_ | refine Zp pv_pickF ?_ | refine Zp pv_max ?_ | refine Zp pv_min ?_ | refine Zp pv_eqnil ?_ | refine Zp pv_nenil ?_ | refine Zp pv_conv_int ?_ | refine Zp pv_build ?_ | refine Zp pv_eqb ?_ | refine Zp pv_neb ?_ | refine Zp pv_bits ?_ | refine Zp pv_shr12 ?_ | refine Zp pv_shl12 ?_ | refine Zp pv_quo ?_ | refine Zp pv_rem ?_ | refine Zp pv_neg ?_ | refine Zp pv_sliceH ?_ | refine Zp pv_build0 ?_ | refine Zp pv_makeFunc ?_ | refine Zp pv_indexArr ?_ | refine Zp pv_sliceArr ?_ | refine Zp pv_sliceL ?_ | refine XO_gU (hk := ?_) | refine Zp pv_nil_fn ?_ | refine X_seq ?_ | refine X_region ?_ | refine X_block ?_ | refine X_skip ?_ | refine X_exit ?_ | refine X_ret ?_ | refine XO_nil ?_ | refine XE_code ?_ | refine XE_block ?_ | refine XE_code_exit ?_ | refine XE_block_exit ?_ | refine XE_code_ret ?_ | refine XE_block_ret ?_ | refine XE_pred_ret ?_ | refine XE_pred_exit ?_ | refine XE_block_other rfl ?_)
  have hok3 : CoOk ck3 := by have := hk3.ci.ok; rw [ckf1.2] at this; exact this
  have h5 := kfree_spec s sb ck3 hok3
  rw [ckf5.1, ckf5.2.1] at h5
  refine XO_call h5 (hk := ?_)
  rintro _ _ ⟨rfl, rfl⟩
  repeat (first | refine ZT ?_ | refine ZF ?_ | refine Zp pv_move ?_ | refine Zp pv_assign ?_ | refine Zp pv_nil_ptr ?_ | refine Zp pv_cmp ?_ | refine Zp pv_arith ?_ | refine Zp pv_field ?_ | refine Zr rv_load ?_ | refine Zp pv_len_slice ?_ | refine Zp pv_extract ?_ | refine Zp pv_not ?_ | refine Zp pv_index ?_ | refine Zr rv_loadW ?_ | refine Zr rv_loadS ?_ | refine Zp pv_pickT ?_ | refine Zp pv_pickF ?_ | refine Zp pv_max ?_ | refine Zp pv_min ?_ | refine Zp pv_eqnil ?_ | refine Zp pv_nenil ?_ | refine Zp pv_conv_int ?_ | refine Zp pv_build ?_ | refine Zp pv_eqb ?_ | refine Zp pv_neb ?_ | refine Zp pv_bits ?_ | refine Zp pv_shr12 ?_ | refine Zp pv_shl12 ?_ | refine Zp pv_quo ?_ | refine Zp pv_rem ?_ | refine Zp pv_neg ?_ | refine Zp pv_sliceH ?_ | refine Zp pv_build0 ?_ | refine Zp pv_makeFunc ?_ | refine Zp pv_indexArr ?_ | refine Zp pv_sliceArr ?_ | refine Zp pv_sliceL ?_ | refine XO_gU (hk := ?_) | refine Zp pv_nil_fn ?_ | refine X_seq ?_ | refine X_region ?_ | refine X_block ?_ | refine X_skip ?_ | refine X_exit ?_ | refine X_ret ?_ | refine XO_nil ?_ | refine XE_code ?_ | refine XE_block ?_ | refine XE_code_exit ?_ | refine XE_block_exit ?_ | refine XE_code_ret ?_ | refine XE_block_ret ?_ | refine XE_pred_ret ?_ | refine XE_pred_exit ?_ | refine XE_block_other rfl ?_)
  have h6 := ctrim_spec s sb ck3 hok3
  rw [ckf5.2.2] at h6
  refine XO_call h6 (hk := ?_)
  rintro _ _ ⟨rfl, rfl⟩
  repeat (first | refine ZT ?_ | refine ZF ?_ | refine Zp pv_move ?_ | refine Zp pv_assign ?_ | refine Zp pv_nil_ptr ?_ | refine Zp pv_cmp ?_ | refine Zp pv_arith ?_ | refine Zp pv_field ?_ | refine Zr rv_load ?_ | refine Zp pv_len_slice ?_ | refine Zp pv_extract ?_ | refine Zp pv_not ?_ | refine Zp pv_index ?_ | refine Zr rv_loadW ?_ | refine Zr rv_loadS ?_ | refine Zp pv_pickT ?_ | refine Zp pv_pickF ?_ | refine Zp pv_max ?_ | refine Zp pv_min ?_ | refine Zp pv_eqnil ?_ | refine Zp pv_nenil ?_ | refine Zp pv_conv_int ?_ | refine Zp pv_build ?_ | refine Zp pv_eqb ?_ | refine Zp pv_neb ?_ | refine Zp pv_bits ?_ | refine Zp pv_shr12 ?_ | refine Zp pv_shl12 ?_ | refine Zp pv_quo ?_ | refine Zp pv_rem ?_ | refine Zp pv_neg ?_ | refine Zp pv_sliceH ?_ | refine Zp pv_build0 ?_ | refine Zp pv_makeFunc ?_ | refine Zp pv_indexArr ?_ | refine Zp pv_sliceArr ?_ | refine Zp pv_sliceL ?_ | refine XO_gU (hk := ?_) | refine Zp pv_nil_fn ?_ | refine X_seq ?_ | refine X_region ?_ | refine X_block ?_ | refine X_skip ?_ | refine X_exit ?_ | refine X_ret ?_ | refine XO_nil ?_ | refine XE_code ?_ | refine XE_block ?_ | refine XE_code_exit ?_ | refine XE_block_exit ?_ | refine XE_code_ret ?_ | refine XE_block_ret ?_ | refine XE_pred_ret ?_ | refine XE_pred_exit ?_ | refine XE_block_other rfl ?_)
  refine XE_ret (.inl rfl) (tells_tmps rfl rfl) ⟨_, ⟨rfl, rfl⟩, by ((try simp only [List.cons_append, List.nil_append]); repeat (first | exact ent_refl | refine ent_take (by repeat (first | exact Find.here | apply Find.there)) ?_ | refine ent_drop ?_))⟩
end Go.Proofs.Yteobjankkcdaoaa.Sep
