import Derived.Test.YteobjankkcdaoaaSpaceE
namespace Go.Proofs.Yteobjankkcdaoaa.Sep
open Go.RowKit
set_option linter.unusedSimpArgs false
set_option linter.unusedVariables false
/-! bytes that are made 0: fewer than a page's -/
def tb (T : List (Int × Nat)) : List (Int × Option Nat) := T.map fun z => (z.1, some z.2)
structure ZInv (P : Int) (m : Int → Int) (at_ n : Int) (M : List (Int × Nat × List Int)) (T : List (Int × Nat)) : Prop where
  mem : ∀ a, memOf M a = if a / 4096 ∈ T.map (·.1) then m a else zrM m at_ n a
  len : ∀ q ∈ M, 0 ≤ q.1 ∧ q.1 < P ∧ q.2.2.length = 4096
  sub : ∀ z ∈ T, ∃ ys, (z.1, z.2, ys) ∈ M
  nd : (T.map (·.1)).Nodup
def zpage (at_ n p : Int) (ys : List Int) : List Int :=
  if min (at_ + n) (p * 4096 + 4096) ≤ max at_ (p * 4096) then ys
  else cutIn ys (max at_ (p * 4096) - p * 4096).toNat (List.replicate (min (at_ + n) (p * 4096 + 4096) - max at_ (p * 4096)).toNat 0)
theorem memOf_mid {M1 M2 : List (Int × Nat × List Int)} {p : Int} {b : Nat} {ys : List Int} (hn : lk M1 p = none) {a : Int} (ha : a / 4096 ≠ p) (ys' : List Int) : memOf (M1 ++ (p, b, ys') :: M2) a = memOf (M1 ++ (p, b, ys) :: M2) a := by
  rw [← ins_split (v := (b, ys)) hn]
  unfold memOf
  rw [lk_ins, if_neg ha]
theorem zinv_step {P : Int} {m : Int → Int} {at_ n p : Int} {b : Nat} {ys : List Int} {M1 M2 : List (Int × Nat × List Int)} {T1 T2 : List (Int × Nat)} (h : ZInv P m at_ n (M1 ++ (p, b, ys) :: M2) (T1 ++ (p, b) :: T2)) (hn : lk M1 p = none) :
    ZInv P m at_ n (M1 ++ (p, b, zpage at_ n p ys) :: M2) (T1 ++ T2) := by
  have hl := (h.len (p, b, ys) (by simp)).2.2
  have hlk : lk (M1 ++ (p, b, ys) :: M2) p = some (b, ys) := lk_mid hn
  have hnd := h.nd
  rw [List.map_append, List.map_cons, List.nodup_append] at hnd
  obtain ⟨n1, n2, n3⟩ := hnd
  rw [List.nodup_cons] at n2
  have hp1 : p ∉ T1.map (·.1) := fun hp => n3 p hp p (by simp) rfl
  have hzl : (zpage at_ n p ys).length = 4096 := by
    unfold zpage
    split
    · exact hl
    · rw [cutIn_len (by rw [List.length_replicate, hl]; omega)]; exact hl
  refine ⟨fun a => ?_, fun q hq => ?_, fun z hz => ?_, ?_⟩
  · by_cases ha : a / 4096 = p
    · have hin : ¬ a / 4096 ∈ (T1 ++ T2).map (·.1) := by
        rw [ha, List.map_append, List.mem_append]
        rintro (hx | hx)
        · exact hp1 hx
        · exact n2.1 hx
      rw [if_neg hin]
      have hm := h.mem a
      rw [if_pos (by rw [ha]; simp)] at hm
      unfold zpage
      split
      · rw [hm]; unfold zrM; rw [if_neg (by omega)]
      · rw [← ins_split (v := (b, ys)) hn, memOf_put hlk hl (by rw [List.length_replicate]; omega)]
        unfold wrM zrM
        rw [List.length_replicate]
        by_cases hc : at_ ≤ a ∧ a < at_ + n
        · rw [if_pos hc, if_pos (by omega)]; exact rep0 _ _
        · rw [if_neg hc, if_neg (by omega), hm]
    · rw [memOf_mid hn ha, h.mem a]
      have e : a / 4096 ∈ (T1 ++ (p, b) :: T2).map (·.1) ↔ a / 4096 ∈ (T1 ++ T2).map (·.1) := by
        simp only [List.map_append, List.map_cons, List.mem_append, List.mem_cons, ha, false_or]
      by_cases hx : a / 4096 ∈ (T1 ++ T2).map (·.1)
      · rw [if_pos hx, if_pos (e.2 hx)]
      · rw [if_neg hx, if_neg (fun h => hx (e.1 h))]
  · rcases List.mem_append.1 hq with hq | hq
    · exact h.len q (by simp [hq])
    · rcases List.mem_cons.1 hq with rfl | hq
      · exact ⟨(h.len (p, b, ys) (by simp)).1, (h.len (p, b, ys) (by simp)).2.1, hzl⟩
      · exact h.len q (by simp [hq])
  · have hz' : z ∈ T1 ++ (p, b) :: T2 := by rcases List.mem_append.1 hz with hz | hz <;> simp [hz]
    have hne : z.1 ≠ p := by
      rintro rfl
      rcases List.mem_append.1 hz with hz | hz
      · exact hp1 (List.mem_map.2 ⟨z, hz, rfl⟩)
      · exact n2.1 (List.mem_map.2 ⟨z, hz, rfl⟩)
    obtain ⟨zs, hzs⟩ := h.sub z hz'
    refine ⟨zs, ?_⟩
    rcases List.mem_append.1 hzs with hx | hx
    · simp [hx]
    · rcases List.mem_cons.1 hx with hx | hx
      · exact absurd (congrArg (·.1) hx) hne
      · simp [hx]
  · rw [List.map_append, List.nodup_append]
    exact ⟨n1, n2.2, fun a ha c hc => n3 a ha c (List.mem_cons_of_mem _ hc)⟩
theorem zinv_start {P : Int} {m : Int → Int} {at_ n : Int} {M : List (Int × Nat × List Int)} (h : SpOk P m M) (hnd : (M.map (·.1)).Nodup) : ZInv P m at_ n M (M.map fun q => (q.1, q.2.1)) := by
  have e : (M.map fun q => (q.1, q.2.1)).map (·.1) = M.map (·.1) := by rw [List.map_map]; rfl
  refine ⟨fun a => ?_, h.len, fun z hz => ?_, by rw [e]; exact hnd⟩
  · rw [e, h.mem]
    split
    · rfl
    · rename_i hx
      have h0 : m a = 0 := by
        rw [← h.mem]; unfold memOf
        rw [lk_none.2 hx]
      unfold zrM
      split
      · exact h0
      · rfl
  · obtain ⟨q, hq, rfl⟩ := List.mem_map.1 hz
    exact ⟨q.2.2, hq⟩
theorem zinv_end {P : Int} {m : Int → Int} {at_ n : Int} {M : List (Int × Nat × List Int)} (h : ZInv P m at_ n M []) (hb : ∀ a, 0 ≤ m a ∧ m a ≤ 255) : SpOk P (zrM m at_ n) M :=
  ⟨funext fun a => by rw [h.mem a]; simp, h.len, fun a => by unfold zrM; split; exact ⟨Int.le_refl 0, by decide⟩; exact hb a⟩
theorem tb_app (T1 T2 : List (Int × Nat)) : tb (T1 ++ T2) = tb T1 ++ tb T2 := by simp [tb]
theorem mpi_nd {κ α : Type} {ke : κ → Value} {ve : α → Value} {b r : Nat} {l todo : List (κ × α)} : ∀ H, MpI ke ve b r l todo H → (l.map (·.1)).Nodup := fun H h => h.1
theorem pblk_keys (M : List (Int × Nat × List Int)) : (pblk M).map (·.1) = M.map (·.1) := by unfold pblk; rw [List.map_map]; rfl
theorem key_or {p : Int} (h0 : 0 ≤ p) (h1 : p < 1048576) : bitop .or .u64 (p / 65536 * 65536) (p % 65536) = p := by
  obtain ⟨k, rfl⟩ : ∃ k : Nat, p = (k : Int) := ⟨p.toNat, by omega⟩
  have h2 := bitop_or_u64 (a := k / 65536 * 65536) (b := k % 65536) (by omega) (by omega)
  have e1 : ((k / 65536 * 65536 : Nat) : Int) = (k : Int) / 65536 * 65536 := by omega
  have e2 : ((k % 65536 : Nat) : Int) = (k : Int) % 65536 := by omega
  rw [e1, e2] at h2
  rw [h2, Nat.mul_comm, show (65536 : Nat) = 2 ^ 16 from rfl, ← Nat.two_pow_add_eq_or_of_lt (Nat.mod_lt _ (by decide)), Nat.div_add_mod]
set_option maxHeartbeats 8000000
attribute [local irreducible] X XE XO XD XDi XDa PV RV DV pt base Spec Sl Mp Keeps Pgs Spc MpI MpL
theorem number_spec (p : Int) (h0 : 0 ≤ p) (h1 : p < 1048576) : Spec Try.prog 61 [keyV p] [] (fun v L => v = .int .u64 p ∧ L = []) := by
  refine Spec.intro (IsEnt.out) Try.func61 rfl Try.ntmps61 (by simp) (fun w0 F => ?_)
  simp only [envOf, List.zipIdx, List.map, List.cons_append, List.nil_append, Nat.zero_add, Nat.reduceAdd]
  unfold keyV
  repeat (first | refine ZT ?_ | refine ZF ?_ | refine Zp pv_move ?_ | refine Zp pv_assign ?_ | refine Zp pv_nil_ptr ?_ | refine Zp pv_cmp ?_ | refine Zp pv_arith ?_ | refine Zp pv_field ?_ | refine Zr rv_load ?_ | refine Zp pv_len_slice ?_ | refine Zp pv_extract ?_ | refine Zp pv_not ?_ | refine Zp pv_index ?_ | refine Zr rv_loadW ?_ | refine Zr rv_loadS ?_ | refine Zp pv_pickT ?_ | refine Zp pv_pickF ?_ | refine Zp pv_max ?_ | refine Zp pv_min ?_ | refine Zp pv_eqnil ?_ | refine Zp pv_nenil ?_ | refine Zp pv_conv_int ?_ | refine Zp pv_build ?_ | refine Zp pv_eqb ?_ | refine Zp pv_neb ?_ | refine Zp pv_bits ?_ | refine Zp pv_shr12 ?_ | refine Zp pv_shl12 ?_ | refine Zp pv_quo ?_ | refine Zp pv_rem ?_ | refine Zp pv_neg ?_ | refine Zp pv_sliceH ?_ | refine Zp pv_build0 ?_ | refine Zp pv_makeFunc ?_ | refine Zp pv_indexArr ?_ | refine Zp pv_sliceArr ?_ | refine Zp pv_sliceL ?_ | refine XO_gU (hk := ?_) | refine Zp pv_nil_fn ?_ | refine X_seq ?_ | refine X_region ?_ | refine X_block ?_ | refine X_skip ?_ | refine X_exit ?_ | refine X_ret ?_ | refine XO_nil ?_ | refine XE_code ?_ | refine XE_block ?_ | refine XE_code_exit ?_ | refine XE_block_exit ?_ | refine XE_code_ret ?_ | refine XE_block_ret ?_ | refine XE_pred_ret ?_ | refine XE_pred_exit ?_ | refine XE_block_other rfl ?_)
  refine XO_dv (dv_box (row := [.int .u16 (p / 65536), .int .u16 (p % 65536)])) (hk := ?_)
  rintro _ _ ⟨cb, rfl, rfl⟩
  repeat (first | refine ZT ?_ | refine ZF ?_ | refine Zp pv_move ?_ | refine Zp pv_assign ?_ | refine Zp pv_nil_ptr ?_ | refine Zp pv_cmp ?_ | refine Zp pv_arith ?_ | refine Zp pv_field ?_ | refine Zr rv_load ?_ | refine Zp pv_len_slice ?_ | refine Zp pv_extract ?_ | refine Zp pv_not ?_ | refine Zp pv_index ?_ | refine Zr rv_loadW ?_ | refine Zr rv_loadS ?_ | refine Zp pv_pickT ?_ | refine Zp pv_pickF ?_ | refine Zp pv_max ?_ | refine Zp pv_min ?_ | refine Zp pv_eqnil ?_ | refine Zp pv_nenil ?_ | refine Zp pv_conv_int ?_ | refine Zp pv_build ?_ | refine Zp pv_eqb ?_ | refine Zp pv_neb ?_ | refine Zp pv_bits ?_ | refine Zp pv_shr12 ?_ | refine Zp pv_shl12 ?_ | refine Zp pv_quo ?_ | refine Zp pv_rem ?_ | refine Zp pv_neg ?_ | refine Zp pv_sliceH ?_ | refine Zp pv_build0 ?_ | refine Zp pv_makeFunc ?_ | refine Zp pv_indexArr ?_ | refine Zp pv_sliceArr ?_ | refine Zp pv_sliceL ?_ | refine XO_gU (hk := ?_) | refine Zp pv_nil_fn ?_ | refine X_seq ?_ | refine X_region ?_ | refine X_block ?_ | refine X_skip ?_ | refine X_exit ?_ | refine X_ret ?_ | refine XO_nil ?_ | refine XE_code ?_ | refine XE_block ?_ | refine XE_code_exit ?_ | refine XE_block_exit ?_ | refine XE_code_ret ?_ | refine XE_block_ret ?_ | refine XE_pred_ret ?_ | refine XE_pred_exit ?_ | refine XE_block_other rfl ?_)
  refine XO_pv (pv_shlN (r := p / 65536 * 65536) (hw := by show IntKind.u64.wrap (p / 65536 * 65536) = _; exact wrap_u64 (by omega) (by omega))) (hk := ?_)
  repeat (first | refine ZT ?_ | refine ZF ?_ | refine Zp pv_move ?_ | refine Zp pv_assign ?_ | refine Zp pv_nil_ptr ?_ | refine Zp pv_cmp ?_ | refine Zp pv_arith ?_ | refine Zp pv_field ?_ | refine Zr rv_load ?_ | refine Zp pv_len_slice ?_ | refine Zp pv_extract ?_ | refine Zp pv_not ?_ | refine Zp pv_index ?_ | refine Zr rv_loadW ?_ | refine Zr rv_loadS ?_ | refine Zp pv_pickT ?_ | refine Zp pv_pickF ?_ | refine Zp pv_max ?_ | refine Zp pv_min ?_ | refine Zp pv_eqnil ?_ | refine Zp pv_nenil ?_ | refine Zp pv_conv_int ?_ | refine Zp pv_build ?_ | refine Zp pv_eqb ?_ | refine Zp pv_neb ?_ | refine Zp pv_bits ?_ | refine Zp pv_shr12 ?_ | refine Zp pv_shl12 ?_ | refine Zp pv_quo ?_ | refine Zp pv_rem ?_ | refine Zp pv_neg ?_ | refine Zp pv_sliceH ?_ | refine Zp pv_build0 ?_ | refine Zp pv_makeFunc ?_ | refine Zp pv_indexArr ?_ | refine Zp pv_sliceArr ?_ | refine Zp pv_sliceL ?_ | refine XO_gU (hk := ?_) | refine Zp pv_nil_fn ?_ | refine X_seq ?_ | refine X_region ?_ | refine X_block ?_ | refine X_skip ?_ | refine X_exit ?_ | refine X_ret ?_ | refine XO_nil ?_ | refine XE_code ?_ | refine XE_block ?_ | refine XE_code_exit ?_ | refine XE_block_exit ?_ | refine XE_code_ret ?_ | refine XE_block_ret ?_ | refine XE_pred_ret ?_ | refine XE_pred_exit ?_ | refine XE_block_other rfl ?_)
  refine XE_ret (.inl rfl) (tells_tmps rfl rfl) ⟨_, ⟨?_, rfl⟩, by ((try simp only [List.cons_append, List.nil_append]); repeat (first | exact ent_refl | refine ent_take (by repeat (first | exact Find.here | apply Find.there)) ?_ | refine ent_drop ?_))⟩
  exact congrArg (Value.int .u64) (key_or h0 h1)
def zeroV (sb : Nat) (P : Int) (m : Int → Int) (at_ n : Int) : Value → List HP → Prop :=
  if at_ + n ≤ P * 4096 then fun v L => v = .int .i64 0 ∧ L = [Spc sb P (zrM m at_ n)] else fun v L => v = .int .i64 3 ∧ L = [Spc sb P m]
theorem Zero_spec (sb : Nat) (P : Int) (m : Int → Int) (at_ n : Int) (hP0 : 0 ≤ P) (hP : P ≤ 1048576) (h0 : 0 ≤ at_) (h1 : at_ ≤ 18446744073709551615) (h2 : 0 ≤ n) (h3 : n < 4096) :
    Spec Try.prog 45 [.pointer (some ⟨sb, 0, none⟩), .int .u64 at_, .int .u64 n] [Spc sb P m] (zeroV sb P m at_ n) := by
  refine Spec.intro (IsEnt.out) Try.func45 rfl Try.ntmps45 (by simp) (fun w0 F => ?_)
  simp only [envOf, List.zipIdx, List.map, List.cons_append, List.nil_append, Nat.zero_add, Nat.reduceAdd]
  repeat (first | refine ZT ?_ | refine ZF ?_ | refine Zp pv_move ?_ | refine Zp pv_assign ?_ | refine Zp pv_nil_ptr ?_ | refine Zp pv_cmp ?_ | refine Zp pv_arith ?_ | refine Zp pv_field ?_ | refine Zr rv_load ?_ | refine Zp pv_len_slice ?_ | refine Zp pv_extract ?_ | refine Zp pv_not ?_ | refine Zp pv_index ?_ | refine Zr rv_loadW ?_ | refine Zr rv_loadS ?_ | refine Zp pv_pickT ?_ | refine Zp pv_pickF ?_ | refine Zp pv_max ?_ | refine Zp pv_min ?_ | refine Zp pv_eqnil ?_ | refine Zp pv_nenil ?_ | refine Zp pv_conv_int ?_ | refine Zp pv_build ?_ | refine Zp pv_eqb ?_ | refine Zp pv_neb ?_ | refine Zp pv_bits ?_ | refine Zp pv_shr12 ?_ | refine Zp pv_shl12 ?_ | refine Zp pv_quo ?_ | refine Zp pv_rem ?_ | refine Zp pv_neg ?_ | refine Zp pv_sliceH ?_ | refine Zp pv_build0 ?_ | refine Zp pv_makeFunc ?_ | refine Zp pv_indexArr ?_ | refine Zp pv_sliceArr ?_ | refine Zp pv_sliceL ?_ | refine XO_gU (hk := ?_) | refine Zp pv_nil_fn ?_ | refine X_seq ?_ | refine X_region ?_ | refine X_block ?_ | refine X_skip ?_ | refine X_exit ?_ | refine X_ret ?_ | refine XO_nil ?_ | refine XE_code ?_ | refine XE_block ?_ | refine XE_code_exit ?_ | refine XE_block_exit ?_ | refine XE_code_ret ?_ | refine XE_block_ret ?_ | refine XE_pred_ret ?_ | refine XE_pred_exit ?_ | refine XE_block_other rfl ?_)
  refine XO_call (fits_spec sb P m at_ n n hP0 hP h0 h1 h2 (by omega)) (hk := ?_)
  rintro _ _ ⟨rfl, rfl⟩
  have hfi : fitsI P at_ n n = if at_ + n ≤ P * 4096 then 0 else 3 := by unfold fitsI; split <;> simp
  rw [hfi]
  unfold zeroV
  by_cases hf : at_ + n ≤ P * 4096
  case neg =>
    simp only [if_neg hf]
    repeat (first | refine ZT ?_ | refine ZF ?_ | refine Zp pv_move ?_ | refine Zp pv_assign ?_ | refine Zp pv_nil_ptr ?_ | refine Zp pv_cmp ?_ | refine Zp pv_arith ?_ | refine Zp pv_field ?_ | refine Zr rv_load ?_ | refine Zp pv_len_slice ?_ | refine Zp pv_extract ?_ | refine Zp pv_not ?_ | refine Zp pv_index ?_ | refine Zr rv_loadW ?_ | refine Zr rv_loadS ?_ | refine Zp pv_pickT ?_ | refine Zp pv_pickF ?_ | refine Zp pv_max ?_ | refine Zp pv_min ?_ | refine Zp pv_eqnil ?_ | refine Zp pv_nenil ?_ | refine Zp pv_conv_int ?_ | refine Zp pv_build ?_ | refine Zp pv_eqb ?_ | refine Zp pv_neb ?_ | refine Zp pv_bits ?_ | refine Zp pv_shr12 ?_ | refine Zp pv_shl12 ?_ | refine Zp pv_quo ?_ | refine Zp pv_rem ?_ | refine Zp pv_neg ?_ | refine Zp pv_sliceH ?_ | refine Zp pv_build0 ?_ | refine Zp pv_makeFunc ?_ | refine Zp pv_indexArr ?_ | refine Zp pv_sliceArr ?_ | refine Zp pv_sliceL ?_ | refine XO_gU (hk := ?_) | refine Zp pv_nil_fn ?_ | refine X_seq ?_ | refine X_region ?_ | refine X_block ?_ | refine X_skip ?_ | refine X_exit ?_ | refine X_ret ?_ | refine XO_nil ?_ | refine XE_code ?_ | refine XE_block ?_ | refine XE_code_exit ?_ | refine XE_block_exit ?_ | refine XE_code_ret ?_ | refine XE_block_ret ?_ | refine XE_pred_ret ?_ | refine XE_pred_exit ?_ | refine XE_block_other rfl ?_)
    refine X_cond rfl (fun _ => ?_) (fun h => by cases h)
    repeat (first | refine ZT ?_ | refine ZF ?_ | refine Zp pv_move ?_ | refine Zp pv_assign ?_ | refine Zp pv_nil_ptr ?_ | refine Zp pv_cmp ?_ | refine Zp pv_arith ?_ | refine Zp pv_field ?_ | refine Zr rv_load ?_ | refine Zp pv_len_slice ?_ | refine Zp pv_extract ?_ | refine Zp pv_not ?_ | refine Zp pv_index ?_ | refine Zr rv_loadW ?_ | refine Zr rv_loadS ?_ | refine Zp pv_pickT ?_ | refine Zp pv_pickF ?_ | refine Zp pv_max ?_ | refine Zp pv_min ?_ | refine Zp pv_eqnil ?_ | refine Zp pv_nenil ?_ | refine Zp pv_conv_int ?_ | refine Zp pv_build ?_ | refine Zp pv_eqb ?_ | refine Zp pv_neb ?_ | refine Zp pv_bits ?_ | refine Zp pv_shr12 ?_ | refine Zp pv_shl12 ?_ | refine Zp pv_quo ?_ | refine Zp pv_rem ?_ | refine Zp pv_neg ?_ | refine Zp pv_sliceH ?_ | refine Zp pv_build0 ?_ | refine Zp pv_makeFunc ?_ | refine Zp pv_indexArr ?_ | refine Zp pv_sliceArr ?_ | refine Zp pv_sliceL ?_ | refine XO_gU (hk := ?_) | refine Zp pv_nil_fn ?_ | refine X_seq ?_ | refine X_region ?_ | refine X_block ?_ | refine X_skip ?_ | refine X_exit ?_ | refine X_ret ?_ | refine XO_nil ?_ | refine XE_code ?_ | refine XE_block ?_ | refine XE_code_exit ?_ | refine XE_block_exit ?_ | refine XE_code_ret ?_ | refine XE_block_ret ?_ | refine XE_pred_ret ?_ | refine XE_pred_exit ?_ | refine XE_block_other rfl ?_)
    refine XE_ret (.inl rfl) (tells_tmps rfl rfl) ⟨_, ⟨rfl, rfl⟩, by ((try simp only [List.cons_append, List.nil_append]); repeat (first | exact ent_refl | refine ent_take (by repeat (first | exact Find.here | apply Find.there)) ?_ | refine ent_drop ?_))⟩
  simp only [if_pos hf]
  repeat (first | refine ZT ?_ | refine ZF ?_ | refine Zp pv_move ?_ | refine Zp pv_assign ?_ | refine Zp pv_nil_ptr ?_ | refine Zp pv_cmp ?_ | refine Zp pv_arith ?_ | refine Zp pv_field ?_ | refine Zr rv_load ?_ | refine Zp pv_len_slice ?_ | refine Zp pv_extract ?_ | refine Zp pv_not ?_ | refine Zp pv_index ?_ | refine Zr rv_loadW ?_ | refine Zr rv_loadS ?_ | refine Zp pv_pickT ?_ | refine Zp pv_pickF ?_ | refine Zp pv_max ?_ | refine Zp pv_min ?_ | refine Zp pv_eqnil ?_ | refine Zp pv_nenil ?_ | refine Zp pv_conv_int ?_ | refine Zp pv_build ?_ | refine Zp pv_eqb ?_ | refine Zp pv_neb ?_ | refine Zp pv_bits ?_ | refine Zp pv_shr12 ?_ | refine Zp pv_shl12 ?_ | refine Zp pv_quo ?_ | refine Zp pv_rem ?_ | refine Zp pv_neg ?_ | refine Zp pv_sliceH ?_ | refine Zp pv_build0 ?_ | refine Zp pv_makeFunc ?_ | refine Zp pv_indexArr ?_ | refine Zp pv_sliceArr ?_ | refine Zp pv_sliceL ?_ | refine XO_gU (hk := ?_) | refine Zp pv_nil_fn ?_ | refine X_seq ?_ | refine X_region ?_ | refine X_block ?_ | refine X_skip ?_ | refine X_exit ?_ | refine X_ret ?_ | refine XO_nil ?_ | refine XE_code ?_ | refine XE_block ?_ | refine XE_code_exit ?_ | refine XE_block_exit ?_ | refine XE_code_ret ?_ | refine XE_block_ret ?_ | refine XE_pred_ret ?_ | refine XE_pred_exit ?_ | refine XE_block_other rfl ?_)
  refine X_cond rfl (fun h => by cases h) (fun _ => ?_)
  refine X_open .here Spc.open ?_
  rintro ⟨mb, M, t⟩ hM
  dsimp only [List.cons_append, List.nil_append] at hM ⊢
  repeat (first | refine ZT ?_ | refine ZF ?_ | refine Zp pv_move ?_ | refine Zp pv_assign ?_ | refine Zp pv_nil_ptr ?_ | refine Zp pv_cmp ?_ | refine Zp pv_arith ?_ | refine Zp pv_field ?_ | refine Zr rv_load ?_ | refine Zp pv_len_slice ?_ | refine Zp pv_extract ?_ | refine Zp pv_not ?_ | refine Zp pv_index ?_ | refine Zr rv_loadW ?_ | refine Zr rv_loadS ?_ | refine Zp pv_pickT ?_ | refine Zp pv_pickF ?_ | refine Zp pv_max ?_ | refine Zp pv_min ?_ | refine Zp pv_eqnil ?_ | refine Zp pv_nenil ?_ | refine Zp pv_conv_int ?_ | refine Zp pv_build ?_ | refine Zp pv_eqb ?_ | refine Zp pv_neb ?_ | refine Zp pv_bits ?_ | refine Zp pv_shr12 ?_ | refine Zp pv_shl12 ?_ | refine Zp pv_quo ?_ | refine Zp pv_rem ?_ | refine Zp pv_neg ?_ | refine Zp pv_sliceH ?_ | refine Zp pv_build0 ?_ | refine Zp pv_makeFunc ?_ | refine Zp pv_indexArr ?_ | refine Zp pv_sliceArr ?_ | refine Zp pv_sliceL ?_ | refine XO_gU (hk := ?_) | refine Zp pv_nil_fn ?_ | refine X_seq ?_ | refine X_region ?_ | refine X_block ?_ | refine X_skip ?_ | refine X_exit ?_ | refine X_ret ?_ | refine XO_nil ?_ | refine XE_code ?_ | refine XE_block ?_ | refine XE_code_exit ?_ | refine XE_block_exit ?_ | refine XE_code_ret ?_ | refine XE_block_ret ?_ | refine XE_pred_ret ?_ | refine XE_pred_exit ?_ | refine XE_block_other rfl ?_)
  repeat (first | refine Dp pv_move ?_ | refine Dp pv_assign ?_ | refine Dp pv_nil_ptr ?_ | refine Dp pv_field ?_ | refine Dp pv_cmp ?_ | refine Dp pv_arith ?_ | refine Dp pv_index ?_ | refine Dp pv_len_slice ?_ | refine Dp pv_extract ?_ | refine Dp pv_not ?_ | refine Dp pv_build ?_ | refine Dp pv_eqnil ?_ | refine Dp pv_nenil ?_ | refine Dp pv_conv_int ?_ | refine Dp pv_max ?_ | refine Dp pv_min ?_ | refine Dp pv_pickT ?_ | refine Dp pv_pickF ?_ | refine Dp pv_eqb ?_ | refine Dp pv_neb ?_ | refine Dp pv_bits ?_ | refine Dp pv_sliceH ?_ | refine Dp pv_build0 ?_ | refine Dp pv_indexArr ?_ | refine Dp pv_sliceArr ?_ | refine Dp pv_sliceL ?_ | refine Dr rv_load ?_ | refine Dr rv_loadW ?_ | refine Dr rv_loadS ?_ | refine XDi_gF (h := ?_) | refine XDi_gU (h := ?_) | refine XD_pick (h := ?_) | refine X_draws (h := ?_))
  refine XD_one (h := ?_)
  refine XDa_dvA (dv_call (touched_spec at_ n h0 h2 (by omega))) (hk := ?_)
  rintro _ _ ⟨_, ⟨t2, rfl, rfl⟩, rfl⟩
  refine ⟨by (repeat (first | exact keeps_nil | exact keeps_fnil | refine keeps_skip (h := ?_) | refine keeps_takeA (hv := by first | exact rv_load | exact rv_loadW | exact rv_loadS) (h := ?_))), ?_⟩
  repeat (first | refine Dp pv_move ?_ | refine Dp pv_assign ?_ | refine Dp pv_nil_ptr ?_ | refine Dp pv_field ?_ | refine Dp pv_cmp ?_ | refine Dp pv_arith ?_ | refine Dp pv_index ?_ | refine Dp pv_len_slice ?_ | refine Dp pv_extract ?_ | refine Dp pv_not ?_ | refine Dp pv_build ?_ | refine Dp pv_eqnil ?_ | refine Dp pv_nenil ?_ | refine Dp pv_conv_int ?_ | refine Dp pv_max ?_ | refine Dp pv_min ?_ | refine Dp pv_pickT ?_ | refine Dp pv_pickF ?_ | refine Dp pv_eqb ?_ | refine Dp pv_neb ?_ | refine Dp pv_bits ?_ | refine Dp pv_sliceH ?_ | refine Dp pv_build0 ?_ | refine Dp pv_indexArr ?_ | refine Dp pv_sliceArr ?_ | refine Dp pv_sliceL ?_ | refine Dr rv_load ?_ | refine Dr rv_loadW ?_ | refine Dr rv_loadS ?_ | refine XDi_gF (h := ?_) | refine XDi_gU (h := ?_) | refine XD_pick (h := ?_) | refine X_draws (h := ?_))
  refine XD_one (h := ?_)
  refine XDa_dvk0 dv_store (K := _) (hk := ?_)
  rintro _ _ rfl
  refine ⟨by (repeat (first | exact keeps_nil | exact keeps_fnil | refine keeps_skip (h := ?_) | refine keeps_takeA (hv := by first | exact rv_load | exact rv_loadW | exact rv_loadS) (h := ?_))), ?_⟩
  (refine XD_end (h := ?_); repeat (first | refine ZT ?_ | refine ZF ?_ | refine Zp pv_move ?_ | refine Zp pv_assign ?_ | refine Zp pv_nil_ptr ?_ | refine Zp pv_cmp ?_ | refine Zp pv_arith ?_ | refine Zp pv_field ?_ | refine Zr rv_load ?_ | refine Zp pv_len_slice ?_ | refine Zp pv_extract ?_ | refine Zp pv_not ?_ | refine Zp pv_index ?_ | refine Zr rv_loadW ?_ | refine Zr rv_loadS ?_ | refine Zp pv_pickT ?_ | refine Zp pv_pickF ?_ | refine Zp pv_max ?_ | refine Zp pv_min ?_ | refine Zp pv_eqnil ?_ | refine Zp pv_nenil ?_ | refine Zp pv_conv_int ?_ | refine Zp pv_build ?_ | refine Zp pv_eqb ?_ | refine Zp pv_neb ?_ | refine Zp pv_bits ?_ | refine Zp pv_shr12 ?_ | refine Zp pv_shl12 ?_ | refine Zp pv_quo ?_ | refine Zp pv_rem ?_ | refine Zp pv_neg ?_ | refine Zp pv_sliceH ?_ | refine Zp pv_build0 ?_ | refine Zp pv_makeFunc ?_ | refine Zp pv_indexArr ?_ | refine Zp pv_sliceArr ?_ | refine Zp pv_sliceL ?_ | refine XO_gU (hk := ?_) | refine Zp pv_nil_fn ?_ | refine X_seq ?_ | refine X_region ?_ | refine X_block ?_ | refine X_skip ?_ | refine X_exit ?_ | refine X_ret ?_ | refine XO_nil ?_ | refine XE_code ?_ | refine XE_block ?_ | refine XE_code_exit ?_ | refine XE_block_exit ?_ | refine XE_code_ret ?_ | refine XE_block_ret ?_ | refine XE_pred_ret ?_ | refine XE_pred_exit ?_ | refine XE_block_other rfl ?_))
  refine XO_fact (A := Mp keyV pgV mb (pblk M)) (by (repeat (first | exact Find.here | apply Find.there))) Mp.nodup (fun hnd => ?_)
  rw [pblk_keys] at hnd
  refine XO_dv (dv_range (ke := keyV) (ve := pgV) (l := pblk M)) (hk := ?_)
  rintro _ _ ⟨r, rfl, rfl⟩
  repeat (first | refine ZT ?_ | refine ZF ?_ | refine Zp pv_move ?_ | refine Zp pv_assign ?_ | refine Zp pv_nil_ptr ?_ | refine Zp pv_cmp ?_ | refine Zp pv_arith ?_ | refine Zp pv_field ?_ | refine Zr rv_load ?_ | refine Zp pv_len_slice ?_ | refine Zp pv_extract ?_ | refine Zp pv_not ?_ | refine Zp pv_index ?_ | refine Zr rv_loadW ?_ | refine Zr rv_loadS ?_ | refine Zp pv_pickT ?_ | refine Zp pv_pickF ?_ | refine Zp pv_max ?_ | refine Zp pv_min ?_ | refine Zp pv_eqnil ?_ | refine Zp pv_nenil ?_ | refine Zp pv_conv_int ?_ | refine Zp pv_build ?_ | refine Zp pv_eqb ?_ | refine Zp pv_neb ?_ | refine Zp pv_bits ?_ | refine Zp pv_shr12 ?_ | refine Zp pv_shl12 ?_ | refine Zp pv_quo ?_ | refine Zp pv_rem ?_ | refine Zp pv_neg ?_ | refine Zp pv_sliceH ?_ | refine Zp pv_build0 ?_ | refine Zp pv_makeFunc ?_ | refine Zp pv_indexArr ?_ | refine Zp pv_sliceArr ?_ | refine Zp pv_sliceL ?_ | refine XO_gU (hk := ?_) | refine Zp pv_nil_fn ?_ | refine X_seq ?_ | refine X_region ?_ | refine X_block ?_ | refine X_skip ?_ | refine X_exit ?_ | refine X_ret ?_ | refine XO_nil ?_ | refine XE_code ?_ | refine XE_block ?_ | refine XE_code_exit ?_ | refine XE_block_exit ?_ | refine XE_code_ret ?_ | refine XE_block_ret ?_ | refine XE_pred_ret ?_ | refine XE_pred_exit ?_ | refine XE_block_other rfl ?_)
  have hZ0 := zinv_start (at_ := at_) (n := n) hM hnd
  have htb : tb (M.map fun q => (q.1, q.2.1)) = pblk M := by simp [tb, pblk]
  refine X_loop (ι := List (Int × Nat × List Int) × List (Int × Nat)) (fun q => ZInv P m at_ n q.1 q.2) (fun q => [(0, .pointer (some ⟨sb, 0, none⟩)), (1, .int .u64 at_), (2, .int .u64 n), (35, .pointer (some ⟨r, 0, none⟩))])
    (fun q => MpI keyV pgV mb r (pblk q.1) (tb q.2) :: pt sb (.cells [.int .i64 P, .map (some mb), .int .i64 (IntKind.i64.wrap (t + t2))].toArray 78 (0, 0)) :: Pgs q.1 :: F) (fun q => q.2.length) (M, M.map fun q => (q.1, q.2.1)) hZ0 ?_ (by dsimp only; rw [htb]; ((try simp only [List.cons_append, List.nil_append]); repeat (first | exact ent_refl | refine ent_take (by repeat (first | exact Find.here | apply Find.there)) ?_ | refine ent_drop ?_))) ?_
  · (repeat (first | exact Env.sub_nil _ | refine Env.sub_cons rfl ?_))
  rintro ⟨M', T⟩ hZ
  dsimp only at hZ ⊢
  repeat (first | refine ZT ?_ | refine ZF ?_ | refine Zp pv_move ?_ | refine Zp pv_assign ?_ | refine Zp pv_nil_ptr ?_ | refine Zp pv_cmp ?_ | refine Zp pv_arith ?_ | refine Zp pv_field ?_ | refine Zr rv_load ?_ | refine Zp pv_len_slice ?_ | refine Zp pv_extract ?_ | refine Zp pv_not ?_ | refine Zp pv_index ?_ | refine Zr rv_loadW ?_ | refine Zr rv_loadS ?_ | refine Zp pv_pickT ?_ | refine Zp pv_pickF ?_ | refine Zp pv_max ?_ | refine Zp pv_min ?_ | refine Zp pv_eqnil ?_ | refine Zp pv_nenil ?_ | refine Zp pv_conv_int ?_ | refine Zp pv_build ?_ | refine Zp pv_eqb ?_ | refine Zp pv_neb ?_ | refine Zp pv_bits ?_ | refine Zp pv_shr12 ?_ | refine Zp pv_shl12 ?_ | refine Zp pv_quo ?_ | refine Zp pv_rem ?_ | refine Zp pv_neg ?_ | refine Zp pv_sliceH ?_ | refine Zp pv_build0 ?_ | refine Zp pv_makeFunc ?_ | refine Zp pv_indexArr ?_ | refine Zp pv_sliceArr ?_ | refine Zp pv_sliceL ?_ | refine XO_gU (hk := ?_) | refine Zp pv_nil_fn ?_ | refine X_seq ?_ | refine X_region ?_ | refine X_block ?_ | refine X_skip ?_ | refine X_exit ?_ | refine X_ret ?_ | refine XO_nil ?_ | refine XE_code ?_ | refine XE_block ?_ | refine XE_code_exit ?_ | refine XE_block_exit ?_ | refine XE_code_ret ?_ | refine XE_block_ret ?_ | refine XE_pred_ret ?_ | refine XE_pred_exit ?_ | refine XE_block_other rfl ?_)
  refine XO_fact (A := MpI keyV pgV mb r (pblk M') (tb T)) (by (repeat (first | exact Find.here | apply Find.there))) mpi_nd (fun hnd' => ?_)
  rw [pblk_keys] at hnd'
  refine XO_dv (dv_nextL (ke := keyV) (ve := pgV) (l := pblk M') (todo := tb T)) (hk := ?_)
  rintro _ _ (⟨rfl, hT0, rfl⟩ | ⟨t1, z, t2, ht, rfl, rfl⟩)
  · refine XO_conv (fun _ => SL.head MpI.done) ?_
    have hT : T = [] := by cases T with
      | nil => rfl
      | cons => simp [tb] at hT0
    subst hT
    repeat (first | refine ZT ?_ | refine ZF ?_ | refine Zp pv_move ?_ | refine Zp pv_assign ?_ | refine Zp pv_nil_ptr ?_ | refine Zp pv_cmp ?_ | refine Zp pv_arith ?_ | refine Zp pv_field ?_ | refine Zr rv_load ?_ | refine Zp pv_len_slice ?_ | refine Zp pv_extract ?_ | refine Zp pv_not ?_ | refine Zp pv_index ?_ | refine Zr rv_loadW ?_ | refine Zr rv_loadS ?_ | refine Zp pv_pickT ?_ | refine Zp pv_pickF ?_ | refine Zp pv_max ?_ | refine Zp pv_min ?_ | refine Zp pv_eqnil ?_ | refine Zp pv_nenil ?_ | refine Zp pv_conv_int ?_ | refine Zp pv_build ?_ | refine Zp pv_eqb ?_ | refine Zp pv_neb ?_ | refine Zp pv_bits ?_ | refine Zp pv_shr12 ?_ | refine Zp pv_shl12 ?_ | refine Zp pv_quo ?_ | refine Zp pv_rem ?_ | refine Zp pv_neg ?_ | refine Zp pv_sliceH ?_ | refine Zp pv_build0 ?_ | refine Zp pv_makeFunc ?_ | refine Zp pv_indexArr ?_ | refine Zp pv_sliceArr ?_ | refine Zp pv_sliceL ?_ | refine XO_gU (hk := ?_) | refine Zp pv_nil_fn ?_ | refine X_seq ?_ | refine X_region ?_ | refine X_block ?_ | refine X_skip ?_ | refine X_exit ?_ | refine X_ret ?_ | refine XO_nil ?_ | refine XE_code ?_ | refine XE_block ?_ | refine XE_code_exit ?_ | refine XE_block_exit ?_ | refine XE_code_ret ?_ | refine XE_block_ret ?_ | refine XE_pred_ret ?_ | refine XE_pred_exit ?_ | refine XE_block_other rfl ?_)
    refine X_cond rfl (fun h => by cases h) (fun _ => ?_)
    repeat (first | refine ZT ?_ | refine ZF ?_ | refine Zp pv_move ?_ | refine Zp pv_assign ?_ | refine Zp pv_nil_ptr ?_ | refine Zp pv_cmp ?_ | refine Zp pv_arith ?_ | refine Zp pv_field ?_ | refine Zr rv_load ?_ | refine Zp pv_len_slice ?_ | refine Zp pv_extract ?_ | refine Zp pv_not ?_ | refine Zp pv_index ?_ | refine Zr rv_loadW ?_ | refine Zr rv_loadS ?_ | refine Zp pv_pickT ?_ | refine Zp pv_pickF ?_ | refine Zp pv_max ?_ | refine Zp pv_min ?_ | refine Zp pv_eqnil ?_ | refine Zp pv_nenil ?_ | refine Zp pv_conv_int ?_ | refine Zp pv_build ?_ | refine Zp pv_eqb ?_ | refine Zp pv_neb ?_ | refine Zp pv_bits ?_ | refine Zp pv_shr12 ?_ | refine Zp pv_shl12 ?_ | refine Zp pv_quo ?_ | refine Zp pv_rem ?_ | refine Zp pv_neg ?_ | refine Zp pv_sliceH ?_ | refine Zp pv_build0 ?_ | refine Zp pv_makeFunc ?_ | refine Zp pv_indexArr ?_ | refine Zp pv_sliceArr ?_ | refine Zp pv_sliceL ?_ | refine XO_gU (hk := ?_) | refine Zp pv_nil_fn ?_ | refine X_seq ?_ | refine X_region ?_ | refine X_block ?_ | refine X_skip ?_ | refine X_exit ?_ | refine X_ret ?_ | refine XO_nil ?_ | refine XE_code ?_ | refine XE_block ?_ | refine XE_code_exit ?_ | refine XE_block_exit ?_ | refine XE_code_ret ?_ | refine XE_block_ret ?_ | refine XE_pred_ret ?_ | refine XE_pred_exit ?_ | refine XE_block_other rfl ?_)
    refine XE_fold (by repeat (first | exact FindAll.nil | exact Find.here | apply Find.there | apply FindAll.cons)) (Spc.fold (zinv_end hZ hM.byt)) ?_
    refine XE_ret (.inl rfl) (tells_tmps rfl rfl) ⟨_, ⟨rfl, rfl⟩, by ((try simp only [List.cons_append, List.nil_append]); repeat (first | exact ent_refl | refine ent_take (by repeat (first | exact Find.here | apply Find.there)) ?_ | refine ent_drop ?_))⟩
  · obtain ⟨T1, z', T2, hTz, ht1, hz, ht2⟩ : ∃ T1 z' T2, T = T1 ++ z' :: T2 ∧ t1 = tb T1 ∧ z = (z'.1, some z'.2) ∧ t2 = tb T2 := by
      unfold tb at ht
      obtain ⟨T1, T3, h1, h2, h3⟩ := List.map_eq_append_iff.1 ht
      obtain ⟨z', T2, h4, h5, h6⟩ := List.map_eq_cons_iff.1 h3
      exact ⟨T1, z', T2, by rw [h1, h4], h2.symm, h5.symm, h6.symm⟩
    subst hTz ht1 hz ht2
    obtain ⟨p, b⟩ := z'
    obtain ⟨ys, hys⟩ := hZ.sub (p, b) (by simp)
    obtain ⟨M1, M2, rfl⟩ := List.append_of_mem hys
    have hn : lk M1 p = none := by
      rw [List.map_append, List.map_cons, List.nodup_append] at hnd'
      exact lk_none.2 fun hp => hnd'.2.2 p hp p (by simp) rfl
    obtain ⟨hp0, hp1, hyl⟩ := hZ.len (p, b, ys) (by simp)
    have hZ' := zinv_step hZ hn
    simp only at hp0 hp1 hyl
    repeat (first | refine ZT ?_ | refine ZF ?_ | refine Zp pv_move ?_ | refine Zp pv_assign ?_ | refine Zp pv_nil_ptr ?_ | refine Zp pv_cmp ?_ | refine Zp pv_arith ?_ | refine Zp pv_field ?_ | refine Zr rv_load ?_ | refine Zp pv_len_slice ?_ | refine Zp pv_extract ?_ | refine Zp pv_not ?_ | refine Zp pv_index ?_ | refine Zr rv_loadW ?_ | refine Zr rv_loadS ?_ | refine Zp pv_pickT ?_ | refine Zp pv_pickF ?_ | refine Zp pv_max ?_ | refine Zp pv_min ?_ | refine Zp pv_eqnil ?_ | refine Zp pv_nenil ?_ | refine Zp pv_conv_int ?_ | refine Zp pv_build ?_ | refine Zp pv_eqb ?_ | refine Zp pv_neb ?_ | refine Zp pv_bits ?_ | refine Zp pv_shr12 ?_ | refine Zp pv_shl12 ?_ | refine Zp pv_quo ?_ | refine Zp pv_rem ?_ | refine Zp pv_neg ?_ | refine Zp pv_sliceH ?_ | refine Zp pv_build0 ?_ | refine Zp pv_makeFunc ?_ | refine Zp pv_indexArr ?_ | refine Zp pv_sliceArr ?_ | refine Zp pv_sliceL ?_ | refine XO_gU (hk := ?_) | refine Zp pv_nil_fn ?_ | refine X_seq ?_ | refine X_region ?_ | refine X_block ?_ | refine X_skip ?_ | refine X_exit ?_ | refine X_ret ?_ | refine XO_nil ?_ | refine XE_code ?_ | refine XE_block ?_ | refine XE_code_exit ?_ | refine XE_block_exit ?_ | refine XE_code_ret ?_ | refine XE_block_ret ?_ | refine XE_pred_ret ?_ | refine XE_pred_exit ?_ | refine XE_block_other rfl ?_)
    refine X_cond rfl (fun _ => ?_) (fun h => by cases h)
    repeat (first | refine ZT ?_ | refine ZF ?_ | refine Zp pv_move ?_ | refine Zp pv_assign ?_ | refine Zp pv_nil_ptr ?_ | refine Zp pv_cmp ?_ | refine Zp pv_arith ?_ | refine Zp pv_field ?_ | refine Zr rv_load ?_ | refine Zp pv_len_slice ?_ | refine Zp pv_extract ?_ | refine Zp pv_not ?_ | refine Zp pv_index ?_ | refine Zr rv_loadW ?_ | refine Zr rv_loadS ?_ | refine Zp pv_pickT ?_ | refine Zp pv_pickF ?_ | refine Zp pv_max ?_ | refine Zp pv_min ?_ | refine Zp pv_eqnil ?_ | refine Zp pv_nenil ?_ | refine Zp pv_conv_int ?_ | refine Zp pv_build ?_ | refine Zp pv_eqb ?_ | refine Zp pv_neb ?_ | refine Zp pv_bits ?_ | refine Zp pv_shr12 ?_ | refine Zp pv_shl12 ?_ | refine Zp pv_quo ?_ | refine Zp pv_rem ?_ | refine Zp pv_neg ?_ | refine Zp pv_sliceH ?_ | refine Zp pv_build0 ?_ | refine Zp pv_makeFunc ?_ | refine Zp pv_indexArr ?_ | refine Zp pv_sliceArr ?_ | refine Zp pv_sliceL ?_ | refine XO_gU (hk := ?_) | refine Zp pv_nil_fn ?_ | refine X_seq ?_ | refine X_region ?_ | refine X_block ?_ | refine X_skip ?_ | refine X_exit ?_ | refine X_ret ?_ | refine XO_nil ?_ | refine XE_code ?_ | refine XE_block ?_ | refine XE_code_exit ?_ | refine XE_block_exit ?_ | refine XE_code_ret ?_ | refine XE_block_ret ?_ | refine XE_pred_ret ?_ | refine XE_pred_exit ?_ | refine XE_block_other rfl ?_)
    refine XO_rv (rv_entry (ke := keyV) (ve := pgV)) (hk := ?_)
    refine XO_conv (L' := MpI keyV pgV mb r (pblk (M1 ++ (p, b, ys) :: M2)) (tb T1 ++ tb T2) :: _) (fun _ => SL.head MpL.on) ?_
    repeat (first | refine ZT ?_ | refine ZF ?_ | refine Zp pv_move ?_ | refine Zp pv_assign ?_ | refine Zp pv_nil_ptr ?_ | refine Zp pv_cmp ?_ | refine Zp pv_arith ?_ | refine Zp pv_field ?_ | refine Zr rv_load ?_ | refine Zp pv_len_slice ?_ | refine Zp pv_extract ?_ | refine Zp pv_not ?_ | refine Zp pv_index ?_ | refine Zr rv_loadW ?_ | refine Zr rv_loadS ?_ | refine Zp pv_pickT ?_ | refine Zp pv_pickF ?_ | refine Zp pv_max ?_ | refine Zp pv_min ?_ | refine Zp pv_eqnil ?_ | refine Zp pv_nenil ?_ | refine Zp pv_conv_int ?_ | refine Zp pv_build ?_ | refine Zp pv_eqb ?_ | refine Zp pv_neb ?_ | refine Zp pv_bits ?_ | refine Zp pv_shr12 ?_ | refine Zp pv_shl12 ?_ | refine Zp pv_quo ?_ | refine Zp pv_rem ?_ | refine Zp pv_neg ?_ | refine Zp pv_sliceH ?_ | refine Zp pv_build0 ?_ | refine Zp pv_makeFunc ?_ | refine Zp pv_indexArr ?_ | refine Zp pv_sliceArr ?_ | refine Zp pv_sliceL ?_ | refine XO_gU (hk := ?_) | refine Zp pv_nil_fn ?_ | refine X_seq ?_ | refine X_region ?_ | refine X_block ?_ | refine X_skip ?_ | refine X_exit ?_ | refine X_ret ?_ | refine XO_nil ?_ | refine XE_code ?_ | refine XE_block ?_ | refine XE_code_exit ?_ | refine XE_block_exit ?_ | refine XE_code_ret ?_ | refine XE_block_ret ?_ | refine XE_pred_ret ?_ | refine XE_pred_exit ?_ | refine XE_block_other rfl ?_)
    refine XO_dv (dv_alloc (row := [.int .u16 0, .int .u16 0])) (hk := ?_)
    rintro _ _ ⟨cb, rfl, rfl⟩
    refine XO_dv0 (dv_storeW (vs := [.int .u16 (p / 65536), .int .u16 (p % 65536)])) (hk := ?_)
    rintro _ _ rfl
    repeat (first | refine ZT ?_ | refine ZF ?_ | refine Zp pv_move ?_ | refine Zp pv_assign ?_ | refine Zp pv_nil_ptr ?_ | refine Zp pv_cmp ?_ | refine Zp pv_arith ?_ | refine Zp pv_field ?_ | refine Zr rv_load ?_ | refine Zp pv_len_slice ?_ | refine Zp pv_extract ?_ | refine Zp pv_not ?_ | refine Zp pv_index ?_ | refine Zr rv_loadW ?_ | refine Zr rv_loadS ?_ | refine Zp pv_pickT ?_ | refine Zp pv_pickF ?_ | refine Zp pv_max ?_ | refine Zp pv_min ?_ | refine Zp pv_eqnil ?_ | refine Zp pv_nenil ?_ | refine Zp pv_conv_int ?_ | refine Zp pv_build ?_ | refine Zp pv_eqb ?_ | refine Zp pv_neb ?_ | refine Zp pv_bits ?_ | refine Zp pv_shr12 ?_ | refine Zp pv_shl12 ?_ | refine Zp pv_quo ?_ | refine Zp pv_rem ?_ | refine Zp pv_neg ?_ | refine Zp pv_sliceH ?_ | refine Zp pv_build0 ?_ | refine Zp pv_makeFunc ?_ | refine Zp pv_indexArr ?_ | refine Zp pv_sliceArr ?_ | refine Zp pv_sliceL ?_ | refine XO_gU (hk := ?_) | refine Zp pv_nil_fn ?_ | refine X_seq ?_ | refine X_region ?_ | refine X_block ?_ | refine X_skip ?_ | refine X_exit ?_ | refine X_ret ?_ | refine XO_nil ?_ | refine XE_code ?_ | refine XE_block ?_ | refine XE_code_exit ?_ | refine XE_block_exit ?_ | refine XE_code_ret ?_ | refine XE_block_ret ?_ | refine XE_pred_ret ?_ | refine XE_pred_exit ?_ | refine XE_block_other rfl ?_)
    refine XO_call (number_spec p hp0 (by omega)) (hk := ?_)
    rintro _ _ ⟨rfl, rfl⟩
    repeat (first | refine ZT ?_ | refine ZF ?_ | refine Zp pv_move ?_ | refine Zp pv_assign ?_ | refine Zp pv_nil_ptr ?_ | refine Zp pv_cmp ?_ | refine Zp pv_arith ?_ | refine Zp pv_field ?_ | refine Zr rv_load ?_ | refine Zp pv_len_slice ?_ | refine Zp pv_extract ?_ | refine Zp pv_not ?_ | refine Zp pv_index ?_ | refine Zr rv_loadW ?_ | refine Zr rv_loadS ?_ | refine Zp pv_pickT ?_ | refine Zp pv_pickF ?_ | refine Zp pv_max ?_ | refine Zp pv_min ?_ | refine Zp pv_eqnil ?_ | refine Zp pv_nenil ?_ | refine Zp pv_conv_int ?_ | refine Zp pv_build ?_ | refine Zp pv_eqb ?_ | refine Zp pv_neb ?_ | refine Zp pv_bits ?_ | refine Zp pv_shr12 ?_ | refine Zp pv_shl12 ?_ | refine Zp pv_quo ?_ | refine Zp pv_rem ?_ | refine Zp pv_neg ?_ | refine Zp pv_sliceH ?_ | refine Zp pv_build0 ?_ | refine Zp pv_makeFunc ?_ | refine Zp pv_indexArr ?_ | refine Zp pv_sliceArr ?_ | refine Zp pv_sliceL ?_ | refine XO_gU (hk := ?_) | refine Zp pv_nil_fn ?_ | refine X_seq ?_ | refine X_region ?_ | refine X_block ?_ | refine X_skip ?_ | refine X_exit ?_ | refine X_ret ?_ | refine XO_nil ?_ | refine XE_code ?_ | refine XE_block ?_ | refine XE_code_exit ?_ | refine XE_block_exit ?_ | refine XE_code_ret ?_ | refine XE_block_ret ?_ | refine XE_pred_ret ?_ | refine XE_pred_exit ?_ | refine XE_block_other rfl ?_)
    have hle : (T1 ++ T2).length < (T1 ++ (p, b) :: T2).length := by simp
    refine X_cond rfl (fun h4 => ?_) (fun h4 => ?_) <;> simp only [decide_eq_true_eq, decide_eq_false_iff_not] at h4
    · repeat (first | refine ZT ?_ | refine ZF ?_ | refine Zp pv_move ?_ | refine Zp pv_assign ?_ | refine Zp pv_nil_ptr ?_ | refine Zp pv_cmp ?_ | refine Zp pv_arith ?_ | refine Zp pv_field ?_ | refine Zr rv_load ?_ | refine Zp pv_len_slice ?_ | refine Zp pv_extract ?_ | refine Zp pv_not ?_ | refine Zp pv_index ?_ | refine Zr rv_loadW ?_ | refine Zr rv_loadS ?_ | refine Zp pv_pickT ?_ | refine Zp pv_pickF ?_ | refine Zp pv_max ?_ | refine Zp pv_min ?_ | refine Zp pv_eqnil ?_ | refine Zp pv_nenil ?_ | refine Zp pv_conv_int ?_ | refine Zp pv_build ?_ | refine Zp pv_eqb ?_ | refine Zp pv_neb ?_ | refine Zp pv_bits ?_ | refine Zp pv_shr12 ?_ | refine Zp pv_shl12 ?_ | refine Zp pv_quo ?_ | refine Zp pv_rem ?_ | refine Zp pv_neg ?_ | refine Zp pv_sliceH ?_ | refine Zp pv_build0 ?_ | refine Zp pv_makeFunc ?_ | refine Zp pv_indexArr ?_ | refine Zp pv_sliceArr ?_ | refine Zp pv_sliceL ?_ | refine XO_gU (hk := ?_) | refine Zp pv_nil_fn ?_ | refine X_seq ?_ | refine X_region ?_ | refine X_block ?_ | refine X_skip ?_ | refine X_exit ?_ | refine X_ret ?_ | refine XO_nil ?_ | refine XE_code ?_ | refine XE_block ?_ | refine XE_code_exit ?_ | refine XE_block_exit ?_ | refine XE_code_ret ?_ | refine XE_block_ret ?_ | refine XE_pred_ret ?_ | refine XE_pred_exit ?_ | refine XE_block_other rfl ?_)
      have e : zpage at_ n p ys = ys := by unfold zpage; rw [if_pos h4]
      rw [e] at hZ'
      exact X_round (M1 ++ (p, b, ys) :: M2, T1 ++ T2) hZ' hle (by (repeat (first | exact Env.sub_nil _ | refine Env.sub_cons rfl ?_))) (by dsimp only; rw [tb_app]; ((try simp only [List.cons_append, List.nil_append]); repeat (first | exact ent_refl | refine ent_take (by repeat (first | exact Find.here | apply Find.there)) ?_ | refine ent_drop ?_)))
    · repeat (first | refine ZT ?_ | refine ZF ?_ | refine Zp pv_move ?_ | refine Zp pv_assign ?_ | refine Zp pv_nil_ptr ?_ | refine Zp pv_cmp ?_ | refine Zp pv_arith ?_ | refine Zp pv_field ?_ | refine Zr rv_load ?_ | refine Zp pv_len_slice ?_ | refine Zp pv_extract ?_ | refine Zp pv_not ?_ | refine Zp pv_index ?_ | refine Zr rv_loadW ?_ | refine Zr rv_loadS ?_ | refine Zp pv_pickT ?_ | refine Zp pv_pickF ?_ | refine Zp pv_max ?_ | refine Zp pv_min ?_ | refine Zp pv_eqnil ?_ | refine Zp pv_nenil ?_ | refine Zp pv_conv_int ?_ | refine Zp pv_build ?_ | refine Zp pv_eqb ?_ | refine Zp pv_neb ?_ | refine Zp pv_bits ?_ | refine Zp pv_shr12 ?_ | refine Zp pv_shl12 ?_ | refine Zp pv_quo ?_ | refine Zp pv_rem ?_ | refine Zp pv_neg ?_ | refine Zp pv_sliceH ?_ | refine Zp pv_build0 ?_ | refine Zp pv_makeFunc ?_ | refine Zp pv_indexArr ?_ | refine Zp pv_sliceArr ?_ | refine Zp pv_sliceL ?_ | refine XO_gU (hk := ?_) | refine Zp pv_nil_fn ?_ | refine X_seq ?_ | refine X_region ?_ | refine X_block ?_ | refine X_skip ?_ | refine X_exit ?_ | refine X_ret ?_ | refine XO_nil ?_ | refine XE_code ?_ | refine XE_block ?_ | refine XE_code_exit ?_ | refine XE_block_exit ?_ | refine XE_code_ret ?_ | refine XE_block_ret ?_ | refine XE_pred_ret ?_ | refine XE_pred_exit ?_ | refine XE_block_other rfl ?_)
      refine X_cond rfl (fun h5 => ?_) (fun h5 => ?_)
      · exfalso
        simp only [beq_iff_eq] at h5
        omega
      refine X_open (A := Pgs (M1 ++ (p, b, ys) :: M2)) (by (repeat (first | exact Find.here | apply Find.there))) Pgs.out ?_
      rintro ⟨⟩ -
      dsimp only [List.cons_append, List.nil_append]
      repeat (first | refine ZT ?_ | refine ZF ?_ | refine Zp pv_move ?_ | refine Zp pv_assign ?_ | refine Zp pv_nil_ptr ?_ | refine Zp pv_cmp ?_ | refine Zp pv_arith ?_ | refine Zp pv_field ?_ | refine Zr rv_load ?_ | refine Zp pv_len_slice ?_ | refine Zp pv_extract ?_ | refine Zp pv_not ?_ | refine Zp pv_index ?_ | refine Zr rv_loadW ?_ | refine Zr rv_loadS ?_ | refine Zp pv_pickT ?_ | refine Zp pv_pickF ?_ | refine Zp pv_max ?_ | refine Zp pv_min ?_ | refine Zp pv_eqnil ?_ | refine Zp pv_nenil ?_ | refine Zp pv_conv_int ?_ | refine Zp pv_build ?_ | refine Zp pv_eqb ?_ | refine Zp pv_neb ?_ | refine Zp pv_bits ?_ | refine Zp pv_shr12 ?_ | refine Zp pv_shl12 ?_ | refine Zp pv_quo ?_ | refine Zp pv_rem ?_ | refine Zp pv_neg ?_ | refine Zp pv_sliceH ?_ | refine Zp pv_build0 ?_ | refine Zp pv_makeFunc ?_ | refine Zp pv_indexArr ?_ | refine Zp pv_sliceArr ?_ | refine Zp pv_sliceL ?_ | refine XO_gU (hk := ?_) | refine Zp pv_nil_fn ?_ | refine X_seq ?_ | refine X_region ?_ | refine X_block ?_ | refine X_skip ?_ | refine X_exit ?_ | refine X_ret ?_ | refine XO_nil ?_ | refine XE_code ?_ | refine XE_block ?_ | refine XE_code_exit ?_ | refine XE_block_exit ?_ | refine XE_code_ret ?_ | refine XE_block_ret ?_ | refine XE_pred_ret ?_ | refine XE_pred_exit ?_ | refine XE_block_other rfl ?_)
      refine XO_pv pv_sliceArrLH (hk := ?_)
      obtain ⟨lo, hlo⟩ : ∃ lo, lo = (max at_ (p * 4096) - p * 4096).toNat := ⟨_, rfl⟩
      obtain ⟨w, hw⟩ : ∃ w, w = (min (at_ + n) (p * 4096 + 4096) - max at_ (p * 4096)).toNat := ⟨_, rfl⟩
      have hfit : lo + w ≤ ys.length := by omega
      refine XO_dv0 (dv_clearAt (kk := .u8) (b := b) (o := 0) (i := lo) (m := w) (c2 := 4096 - lo) (c := 4096) (xs := ys)
        (hx := by
          show some (Value.slice (subA (some ⟨b, 0, none⟩) (max at_ (p * 4096) - p * 4096).toNat 4096 1) ((min (at_ + n) (p * 4096 + 4096) - p * 4096).toNat - (max at_ (p * 4096) - p * 4096).toNat) (4096 - (max at_ (p * 4096) - p * 4096).toNat)) = _
          rw [subA_lt (by omega), ← hlo, show (min (at_ + n) (p * 4096 + 4096) - p * 4096).toNat - lo = w from by omega, Nat.mul_one]) (hm := hfit)) (hk := ?_)
      rintro _ _ rfl
      repeat (first | refine ZT ?_ | refine ZF ?_ | refine Zp pv_move ?_ | refine Zp pv_assign ?_ | refine Zp pv_nil_ptr ?_ | refine Zp pv_cmp ?_ | refine Zp pv_arith ?_ | refine Zp pv_field ?_ | refine Zr rv_load ?_ | refine Zp pv_len_slice ?_ | refine Zp pv_extract ?_ | refine Zp pv_not ?_ | refine Zp pv_index ?_ | refine Zr rv_loadW ?_ | refine Zr rv_loadS ?_ | refine Zp pv_pickT ?_ | refine Zp pv_pickF ?_ | refine Zp pv_max ?_ | refine Zp pv_min ?_ | refine Zp pv_eqnil ?_ | refine Zp pv_nenil ?_ | refine Zp pv_conv_int ?_ | refine Zp pv_build ?_ | refine Zp pv_eqb ?_ | refine Zp pv_neb ?_ | refine Zp pv_bits ?_ | refine Zp pv_shr12 ?_ | refine Zp pv_shl12 ?_ | refine Zp pv_quo ?_ | refine Zp pv_rem ?_ | refine Zp pv_neg ?_ | refine Zp pv_sliceH ?_ | refine Zp pv_build0 ?_ | refine Zp pv_makeFunc ?_ | refine Zp pv_indexArr ?_ | refine Zp pv_sliceArr ?_ | refine Zp pv_sliceL ?_ | refine XO_gU (hk := ?_) | refine Zp pv_nil_fn ?_ | refine X_seq ?_ | refine X_region ?_ | refine X_block ?_ | refine X_skip ?_ | refine X_exit ?_ | refine X_ret ?_ | refine XO_nil ?_ | refine XE_code ?_ | refine XE_block ?_ | refine XE_code_exit ?_ | refine XE_block_exit ?_ | refine XE_code_ret ?_ | refine XE_block_ret ?_ | refine XE_pred_ret ?_ | refine XE_pred_exit ?_ | refine XE_block_other rfl ?_)
      have e : zpage at_ n p ys = ys.take lo ++ (List.replicate w 0 ++ ys.drop (lo + w)) := by
        unfold zpage cutIn
        rw [if_neg h4, List.length_replicate, ← hlo, ← hw]
      rw [e] at hZ'
      refine XE_fold (by repeat (first | exact FindAll.nil | exact Find.here | apply Find.there | apply FindAll.cons)) (Pgs.back (p := p) (b := b) (xs := ys.take lo ++ (List.replicate w 0 ++ ys.drop (lo + w))) (M1 := M1) (M2 := M2)) ?_
      rw [show pblk (M1 ++ (p, b, ys) :: M2) = pblk (M1 ++ (p, b, ys.take lo ++ (List.replicate w 0 ++ ys.drop (lo + w))) :: M2) from by simp [pblk]]
      exact X_round (M1 ++ (p, b, ys.take lo ++ (List.replicate w 0 ++ ys.drop (lo + w))) :: M2, T1 ++ T2) hZ' hle (by (repeat (first | exact Env.sub_nil _ | refine Env.sub_cons rfl ?_))) (by dsimp only; rw [tb_app]; ((try simp only [List.cons_append, List.nil_append]); repeat (first | exact ent_refl | refine ent_take (by repeat (first | exact Find.here | apply Find.there)) ?_ | refine ent_drop ?_)))
end Go.Proofs.Yteobjankkcdaoaa.Sep
