import Derived.Test.YteobjankkcdaoaaSpaceC
namespace Go.Proofs.Yteobjankkcdaoaa.Sep
open Go.RowKit
set_option linter.unusedSimpArgs false
set_option linter.unusedVariables false
/-! bytes that are laid -/
theorem newPage {nb : Nat} {T : TypeId} : ∀ H, SL [pt nb (.cells (List.replicate 4096 (Value.int .u8 0)).toArray T (0, 0))] H → Sl (eI .u8) (some ⟨nb, 0, none⟩) 4096 (List.replicate 4096 0) H := fun H ⟨H1, H2, d, u, hA, _⟩ => by
  have h : pt nb (.cells (List.replicate 4096 (Value.int .u8 0)).toArray T (0, 0)) H := by
    have hA' : H1 nb = some (.cells (List.replicate 4096 (Value.int .u8 0)).toArray T (0, 0)) := hA
    show H nb = _
    rw [u nb, hA']; rfl
  have := Sl.of_pt (E' := eI .u8) (xs := List.replicate 4096 (0 : Int)) (vs := List.replicate 4096 (Value.int .u8 0)) (by rw [flat_eI, List.map_replicate]) H h
  rwa [List.length_replicate] at this
theorem ins_pblk {M : List (Int × Nat × List Int)} {p : Int} {b : Nat} {xs : List Int} (h : lk M p = none) : ins (pblk M) p (some b) = pblk (M ++ [(p, b, xs)]) := by
  rw [ins_new (by rw [lk_pblk, h]; rfl)]; simp [pblk]
theorem byt_wr {m : Int → Int} {at_ : Int} {bs : List Int} (h : ∀ a, 0 ≤ m a ∧ m a ≤ 255) (hb : Byt bs) : ∀ a, 0 ≤ wrM m at_ bs a ∧ wrM m at_ bs a ≤ 255 := fun a => by
  unfold wrM
  split
  · rename_i hc
    have hl : (a - at_).toNat < bs.length := by omega
    have := hb bs[(a - at_).toNat] (List.getElem_mem hl)
    simpa [List.getD, hl] using this
  · exact h a
theorem SpOk.add {P : Int} {m : Int → Int} {M : List (Int × Nat × List Int)} {p : Int} {b : Nat} (h : SpOk P m M) (hp : 0 ≤ p ∧ p < P) (hn : lk M p = none) : SpOk P m (M ++ [(p, b, List.replicate 4096 0)]) := by
  refine ⟨?_, fun q hq => ?_, h.byt⟩
  · rw [← h.mem, ← ins_new hn]
    funext a
    exact memOf_new hn a
  · rcases List.mem_append.1 hq with hq | hq
    · exact h.len q hq
    · simp only [List.mem_singleton] at hq; subst hq; exact ⟨hp.1, hp.2, List.length_replicate⟩
theorem SpOk.put {P : Int} {m : Int → Int} {M1 M2 : List (Int × Nat × List Int)} {p : Int} {b i : Nat} {xs bs : List Int} (h : SpOk P m (M1 ++ (p, b, xs) :: M2)) (hn : lk M1 p = none) (hi : i + bs.length ≤ 4096) (hb : Byt bs) :
    SpOk P (wrM m (p * 4096 + i) bs) (M1 ++ (p, b, cutIn xs i bs) :: M2) := by
  have hx := h.len (p, b, xs) (by simp)
  have hlk : lk (M1 ++ (p, b, xs) :: M2) p = some (b, xs) := lk_mid hn
  refine ⟨?_, fun q hq => ?_, byt_wr h.byt hb⟩
  · rw [← h.mem, ← ins_split (v := (b, xs)) hn]
    funext a
    exact memOf_put hlk hx.2.2 hi a
  · rcases List.mem_append.1 hq with hq | hq
    · exact h.len q (by simp [hq])
    · rcases List.mem_cons.1 hq with rfl | hq
      · exact ⟨hx.1, hx.2.1, by rw [cutIn_len (by rw [hx.2.2]; exact hi)]; exact hx.2.2⟩
      · exact h.len q (by simp [hq])
def stI (A : HP) (sb sc bc N c : Nat) (a : Option Addr) (P : Int) (m : Int → Int) (at_ : Int) (bs : List Int) (f : Int) : List HP :=
  [Spc sb P (wrM m at_ (bs.take f.toNat)), pt sc (.cells [.pointer (some ⟨sb, 0, none⟩)].toArray 48 (0, 0)), pt bc (.cells [.slice a N c].toArray 41 (0, 0)), A]
set_option maxHeartbeats 8000000
attribute [local irreducible] X XE XO XD XDi XDa PV RV DV pt base Spec Sl Mp Keeps Pgs Spc
theorem store1_spec (A : HP) (sb sc bc c : Nat) (a : Option Addr) (P : Int) (m : Int → Int) (at_ f : Int) (bs : List Int) (hV : View A (eI .u8) a bs) (hB : Byt bs) (hc : bs.length ≤ c) (hP : P ≤ 1048576) (h0 : 0 ≤ at_) (h1 : at_ + bs.length ≤ P * 4096) (f0 : 0 ≤ f) (f1 : f < bs.length) :
    Spec Try.prog 71 ([.int .u64 ((at_ + f) / 4096), .int .u64 ((at_ + f) % 4096), .int .u64 (stepI at_ bs.length f), .int .u64 f] ++ [.pointer (some ⟨sc, 0, none⟩), .pointer (some ⟨bc, 0, none⟩)])
      (stI A sb sc bc bs.length c a P m at_ bs f) (fun _ L => L = stI A sb sc bc bs.length c a P m at_ bs (f + stepI at_ bs.length f)) := by
  unfold stI
  refine Spec.intro (IsEnt.out) Try.func71 rfl Try.ntmps71 (by simp) (fun w0 F => ?_)
  simp only [envOf, List.zipIdx, List.map, List.cons_append, List.nil_append, Nat.zero_add, Nat.reduceAdd]
  obtain ⟨p, hp⟩ : ∃ p, p = (at_ + f) / 4096 := ⟨_, rfl⟩
  obtain ⟨i, hi⟩ : ∃ i, i = (at_ + f) % 4096 := ⟨_, rfl⟩
  have hs : 1 ≤ stepI at_ bs.length f ∧ f + stepI at_ bs.length f ≤ bs.length ∧ i + stepI at_ bs.length f ≤ 4096 := by unfold stepI; omega
  rw [← hp, ← hi]
  generalize stepI at_ bs.length f = k at hs ⊢
  have hpP : 0 ≤ p ∧ p < P := by omega
  generalize hm' : wrM m at_ (bs.take f.toNat) = m'
  refine X_open .here Spc.open ?_
  rintro ⟨mb, M, t⟩ hM
  dsimp only [List.cons_append, List.nil_append] at hM ⊢
  repeat (first | refine ZT ?_ | refine ZF ?_ | refine Zp pv_move ?_ | refine Zp pv_assign ?_ | refine Zp pv_nil_ptr ?_ | refine Zp pv_cmp ?_ | refine Zp pv_arith ?_ | refine Zp pv_field ?_ | refine Zr rv_load ?_ | refine Zp pv_len_slice ?_ | refine Zp pv_extract ?_ | refine Zp pv_not ?_ | refine Zp pv_index ?_ | refine Zr rv_loadW ?_ | refine Zr rv_loadS ?_ | refine Zp pv_pickT ?_ | refine Zp pv_pickF ?_ | refine Zp pv_max ?_ | refine Zp pv_min ?_ | refine Zp pv_eqnil ?_ | refine Zp pv_nenil ?_ | refine Zp pv_conv_int ?_ | refine Zp pv_build ?_ | refine Zp pv_eqb ?_ | refine Zp pv_neb ?_ | refine Zp pv_bits ?_ | refine Zp pv_shr12 ?_ | refine Zp pv_shl12 ?_ | refine Zp pv_quo ?_ | refine Zp pv_rem ?_ | refine Zp pv_neg ?_ | refine Zp pv_sliceH ?_ | refine Zp pv_build0 ?_ | refine Zp pv_makeFunc ?_ | refine Zp pv_indexArr ?_ | refine Zp pv_sliceArr ?_ | refine Zp pv_sliceL ?_ | refine XO_gU (hk := ?_) | refine Zp pv_nil_fn ?_ | refine X_seq ?_ | refine X_region ?_ | refine X_block ?_ | refine X_skip ?_ | refine X_exit ?_ | refine X_ret ?_ | refine XO_nil ?_ | refine XE_code ?_ | refine XE_block ?_ | refine XE_code_exit ?_ | refine XE_block_exit ?_ | refine XE_code_ret ?_ | refine XE_block_ret ?_ | refine XE_pred_ret ?_ | refine XE_pred_exit ?_ | refine XE_block_other rfl ?_)
  refine XO_call (keyOf_spec p hpP.1 (by omega)) (hk := ?_)
  rintro _ _ ⟨rfl, rfl⟩
  refine XO_dv (dv_alloc (row := [.int .u16 0, .int .u16 0])) (hk := ?_)
  rintro _ _ ⟨cb, rfl, rfl⟩
  refine XO_dv0 (dv_storeW (vs := [.int .u16 (p / 65536), .int .u16 (p % 65536)])) (hk := ?_)
  rintro _ _ rfl
  refine XO_nil ?_
  refine XE_code ?_
  refine X_seq ?_
  refine X_join (ι := Nat × List Int × List (Int × Nat × List Int) × List (Int × Nat × List Int)) (fun q => SpOk P m' (q.2.2.1 ++ (p, q.1, q.2.1) :: q.2.2.2) ∧ lk q.2.2.1 p = none)
    (fun q => [(0, .int .u64 p), (1, .int .u64 i), (2, .int .u64 k), (3, .int .u64 f), (4, .pointer (some ⟨sc, 0, none⟩)), (5, .pointer (some ⟨bc, 0, none⟩)), (10, .pointer (some ⟨cb, 0, none⟩))])
    (fun q => pt cb (.cells [.int .u16 (p / 65536), .int .u16 (p % 65536)].toArray 117 (0, 0)) :: Pgs (q.2.2.1 ++ (p, q.1, q.2.1) :: q.2.2.2) :: pt sb (.cells [.int .i64 P, .map (some mb), .int .i64 t].toArray 78 (0, 0)) :: Mp keyV pgV mb (pblk (q.2.2.1 ++ (p, q.1, q.2.1) :: q.2.2.2)) :: pt sc (.cells [.pointer (some ⟨sb, 0, none⟩)].toArray 48 (0, 0)) :: pt bc (.cells [.slice a bs.length c].toArray 41 (0, 0)) :: A :: F) ?_ ?_
  · repeat (first | refine ZT ?_ | refine ZF ?_ | refine Zp pv_move ?_ | refine Zp pv_assign ?_ | refine Zp pv_nil_ptr ?_ | refine Zp pv_cmp ?_ | refine Zp pv_arith ?_ | refine Zp pv_field ?_ | refine Zr rv_load ?_ | refine Zp pv_len_slice ?_ | refine Zp pv_extract ?_ | refine Zp pv_not ?_ | refine Zp pv_index ?_ | refine Zr rv_loadW ?_ | refine Zr rv_loadS ?_ | refine Zp pv_pickT ?_ | refine Zp pv_pickF ?_ | refine Zp pv_max ?_ | refine Zp pv_min ?_ | refine Zp pv_eqnil ?_ | refine Zp pv_nenil ?_ | refine Zp pv_conv_int ?_ | refine Zp pv_build ?_ | refine Zp pv_eqb ?_ | refine Zp pv_neb ?_ | refine Zp pv_bits ?_ | refine Zp pv_shr12 ?_ | refine Zp pv_shl12 ?_ | refine Zp pv_quo ?_ | refine Zp pv_rem ?_ | refine Zp pv_neg ?_ | refine Zp pv_sliceH ?_ | refine Zp pv_build0 ?_ | refine Zp pv_makeFunc ?_ | refine Zp pv_indexArr ?_ | refine Zp pv_sliceArr ?_ | refine Zp pv_sliceL ?_ | refine XO_gU (hk := ?_) | refine Zp pv_nil_fn ?_ | refine X_seq ?_ | refine X_region ?_ | refine X_block ?_ | refine X_skip ?_ | refine X_exit ?_ | refine X_ret ?_ | refine XO_nil ?_ | refine XE_code ?_ | refine XE_block ?_ | refine XE_code_exit ?_ | refine XE_block_exit ?_ | refine XE_code_ret ?_ | refine XE_block_ret ?_ | refine XE_pred_ret ?_ | refine XE_pred_exit ?_ | refine XE_block_other rfl ?_)
    repeat (first | refine Dp pv_move ?_ | refine Dp pv_assign ?_ | refine Dp pv_nil_ptr ?_ | refine Dp pv_field ?_ | refine Dp pv_cmp ?_ | refine Dp pv_arith ?_ | refine Dp pv_index ?_ | refine Dp pv_len_slice ?_ | refine Dp pv_extract ?_ | refine Dp pv_not ?_ | refine Dp pv_build ?_ | refine Dp pv_eqnil ?_ | refine Dp pv_nenil ?_ | refine Dp pv_conv_int ?_ | refine Dp pv_max ?_ | refine Dp pv_min ?_ | refine Dp pv_pickT ?_ | refine Dp pv_pickF ?_ | refine Dp pv_eqb ?_ | refine Dp pv_neb ?_ | refine Dp pv_bits ?_ | refine Dp pv_sliceH ?_ | refine Dp pv_build0 ?_ | refine Dp pv_indexArr ?_ | refine Dp pv_sliceArr ?_ | refine Dp pv_sliceL ?_ | refine Dr rv_load ?_ | refine Dr rv_loadW ?_ | refine Dr rv_loadS ?_ | refine XDi_gF (h := ?_) | refine XDi_gU (h := ?_) | refine XD_pick (h := ?_) | refine X_draws (h := ?_))
    refine Dr (rv_lookup (ke := keyV) (ve := pgV) p none (ht := tk_page)) ?_
    repeat (first | refine Dp pv_move ?_ | refine Dp pv_assign ?_ | refine Dp pv_nil_ptr ?_ | refine Dp pv_field ?_ | refine Dp pv_cmp ?_ | refine Dp pv_arith ?_ | refine Dp pv_index ?_ | refine Dp pv_len_slice ?_ | refine Dp pv_extract ?_ | refine Dp pv_not ?_ | refine Dp pv_build ?_ | refine Dp pv_eqnil ?_ | refine Dp pv_nenil ?_ | refine Dp pv_conv_int ?_ | refine Dp pv_max ?_ | refine Dp pv_min ?_ | refine Dp pv_pickT ?_ | refine Dp pv_pickF ?_ | refine Dp pv_eqb ?_ | refine Dp pv_neb ?_ | refine Dp pv_bits ?_ | refine Dp pv_sliceH ?_ | refine Dp pv_build0 ?_ | refine Dp pv_indexArr ?_ | refine Dp pv_sliceArr ?_ | refine Dp pv_sliceL ?_ | refine Dr rv_load ?_ | refine Dr rv_loadW ?_ | refine Dr rv_loadS ?_ | refine XDi_gF (h := ?_) | refine XDi_gU (h := ?_) | refine XD_pick (h := ?_) | refine X_draws (h := ?_))
    rw [lk_pblk]
    cases hlk : lk M p with
    | none =>
      simp only [Option.map_none, Option.getD_none]
      (refine XD_end (h := ?_); repeat (first | refine ZT ?_ | refine ZF ?_ | refine Zp pv_move ?_ | refine Zp pv_assign ?_ | refine Zp pv_nil_ptr ?_ | refine Zp pv_cmp ?_ | refine Zp pv_arith ?_ | refine Zp pv_field ?_ | refine Zr rv_load ?_ | refine Zp pv_len_slice ?_ | refine Zp pv_extract ?_ | refine Zp pv_not ?_ | refine Zp pv_index ?_ | refine Zr rv_loadW ?_ | refine Zr rv_loadS ?_ | refine Zp pv_pickT ?_ | refine Zp pv_pickF ?_ | refine Zp pv_max ?_ | refine Zp pv_min ?_ | refine Zp pv_eqnil ?_ | refine Zp pv_nenil ?_ | refine Zp pv_conv_int ?_ | refine Zp pv_build ?_ | refine Zp pv_eqb ?_ | refine Zp pv_neb ?_ | refine Zp pv_bits ?_ | refine Zp pv_shr12 ?_ | refine Zp pv_shl12 ?_ | refine Zp pv_quo ?_ | refine Zp pv_rem ?_ | refine Zp pv_neg ?_ | refine Zp pv_sliceH ?_ | refine Zp pv_build0 ?_ | refine Zp pv_makeFunc ?_ | refine Zp pv_indexArr ?_ | refine Zp pv_sliceArr ?_ | refine Zp pv_sliceL ?_ | refine XO_gU (hk := ?_) | refine Zp pv_nil_fn ?_ | refine X_seq ?_ | refine X_region ?_ | refine X_block ?_ | refine X_skip ?_ | refine X_exit ?_ | refine X_ret ?_ | refine XO_nil ?_ | refine XE_code ?_ | refine XE_block ?_ | refine XE_code_exit ?_ | refine XE_block_exit ?_ | refine XE_code_ret ?_ | refine XE_block_ret ?_ | refine XE_pred_ret ?_ | refine XE_pred_exit ?_ | refine XE_block_other rfl ?_))
      refine X_cond rfl (fun _ => ?_) (fun h => by cases h)
      repeat (first | refine ZT ?_ | refine ZF ?_ | refine Zp pv_move ?_ | refine Zp pv_assign ?_ | refine Zp pv_nil_ptr ?_ | refine Zp pv_cmp ?_ | refine Zp pv_arith ?_ | refine Zp pv_field ?_ | refine Zr rv_load ?_ | refine Zp pv_len_slice ?_ | refine Zp pv_extract ?_ | refine Zp pv_not ?_ | refine Zp pv_index ?_ | refine Zr rv_loadW ?_ | refine Zr rv_loadS ?_ | refine Zp pv_pickT ?_ | refine Zp pv_pickF ?_ | refine Zp pv_max ?_ | refine Zp pv_min ?_ | refine Zp pv_eqnil ?_ | refine Zp pv_nenil ?_ | refine Zp pv_conv_int ?_ | refine Zp pv_build ?_ | refine Zp pv_eqb ?_ | refine Zp pv_neb ?_ | refine Zp pv_bits ?_ | refine Zp pv_shr12 ?_ | refine Zp pv_shl12 ?_ | refine Zp pv_quo ?_ | refine Zp pv_rem ?_ | refine Zp pv_neg ?_ | refine Zp pv_sliceH ?_ | refine Zp pv_build0 ?_ | refine Zp pv_makeFunc ?_ | refine Zp pv_indexArr ?_ | refine Zp pv_sliceArr ?_ | refine Zp pv_sliceL ?_ | refine XO_gU (hk := ?_) | refine Zp pv_nil_fn ?_ | refine X_seq ?_ | refine X_region ?_ | refine X_block ?_ | refine X_skip ?_ | refine X_exit ?_ | refine X_ret ?_ | refine XO_nil ?_ | refine XE_code ?_ | refine XE_block ?_ | refine XE_code_exit ?_ | refine XE_block_exit ?_ | refine XE_code_ret ?_ | refine XE_block_ret ?_ | refine XE_pred_ret ?_ | refine XE_pred_exit ?_ | refine XE_block_other rfl ?_)
      repeat (first | refine Dp pv_move ?_ | refine Dp pv_assign ?_ | refine Dp pv_nil_ptr ?_ | refine Dp pv_field ?_ | refine Dp pv_cmp ?_ | refine Dp pv_arith ?_ | refine Dp pv_index ?_ | refine Dp pv_len_slice ?_ | refine Dp pv_extract ?_ | refine Dp pv_not ?_ | refine Dp pv_build ?_ | refine Dp pv_eqnil ?_ | refine Dp pv_nenil ?_ | refine Dp pv_conv_int ?_ | refine Dp pv_max ?_ | refine Dp pv_min ?_ | refine Dp pv_pickT ?_ | refine Dp pv_pickF ?_ | refine Dp pv_eqb ?_ | refine Dp pv_neb ?_ | refine Dp pv_bits ?_ | refine Dp pv_sliceH ?_ | refine Dp pv_build0 ?_ | refine Dp pv_indexArr ?_ | refine Dp pv_sliceArr ?_ | refine Dp pv_sliceL ?_ | refine Dr rv_load ?_ | refine Dr rv_loadW ?_ | refine Dr rv_loadS ?_ | refine XDi_gF (h := ?_) | refine XDi_gU (h := ?_) | refine XD_pick (h := ?_) | refine X_draws (h := ?_))
      refine Dp (pv_buildArr (List.replicate 4096 (.int .u8 0)) (vs := []) (hf := congrArg some zero4096)) ?_
      repeat (first | refine Dp pv_move ?_ | refine Dp pv_assign ?_ | refine Dp pv_nil_ptr ?_ | refine Dp pv_field ?_ | refine Dp pv_cmp ?_ | refine Dp pv_arith ?_ | refine Dp pv_index ?_ | refine Dp pv_len_slice ?_ | refine Dp pv_extract ?_ | refine Dp pv_not ?_ | refine Dp pv_build ?_ | refine Dp pv_eqnil ?_ | refine Dp pv_nenil ?_ | refine Dp pv_conv_int ?_ | refine Dp pv_max ?_ | refine Dp pv_min ?_ | refine Dp pv_pickT ?_ | refine Dp pv_pickF ?_ | refine Dp pv_eqb ?_ | refine Dp pv_neb ?_ | refine Dp pv_bits ?_ | refine Dp pv_sliceH ?_ | refine Dp pv_build0 ?_ | refine Dp pv_indexArr ?_ | refine Dp pv_sliceArr ?_ | refine Dp pv_sliceL ?_ | refine Dr rv_load ?_ | refine Dr rv_loadW ?_ | refine Dr rv_loadS ?_ | refine XDi_gF (h := ?_) | refine XDi_gU (h := ?_) | refine XD_pick (h := ?_) | refine X_draws (h := ?_))
      refine XD_one (h := ?_)
      refine XDa_dvA (dv_box (row := List.replicate 4096 (.int .u8 0))) (hk := ?_)
      rintro _ _ ⟨nb, rfl, rfl⟩
      refine ⟨by (repeat (first | exact keeps_nil | exact keeps_fnil | refine keeps_skip (h := ?_) | refine keeps_takeA (hv := by first | exact rv_load | exact rv_loadW | exact rv_loadS) (h := ?_))), ?_⟩
      repeat (first | refine Dp pv_move ?_ | refine Dp pv_assign ?_ | refine Dp pv_nil_ptr ?_ | refine Dp pv_field ?_ | refine Dp pv_cmp ?_ | refine Dp pv_arith ?_ | refine Dp pv_index ?_ | refine Dp pv_len_slice ?_ | refine Dp pv_extract ?_ | refine Dp pv_not ?_ | refine Dp pv_build ?_ | refine Dp pv_eqnil ?_ | refine Dp pv_nenil ?_ | refine Dp pv_conv_int ?_ | refine Dp pv_max ?_ | refine Dp pv_min ?_ | refine Dp pv_pickT ?_ | refine Dp pv_pickF ?_ | refine Dp pv_eqb ?_ | refine Dp pv_neb ?_ | refine Dp pv_bits ?_ | refine Dp pv_sliceH ?_ | refine Dp pv_build0 ?_ | refine Dp pv_indexArr ?_ | refine Dp pv_sliceArr ?_ | refine Dp pv_sliceL ?_ | refine Dr rv_load ?_ | refine Dr rv_loadW ?_ | refine Dr rv_loadS ?_ | refine XDi_gF (h := ?_) | refine XDi_gU (h := ?_) | refine XD_pick (h := ?_) | refine X_draws (h := ?_))
      refine XD_one (h := ?_)
      refine XDa_dvk0 (dv_mapUpdate (ke := keyV) (ve := pgV) p (some nb) (ht := tk_page)) (K := _) (hk := ?_)
      rintro _ _ rfl
      refine ⟨by (repeat (first | exact keeps_nil | exact keeps_fnil | refine keeps_skip (h := ?_) | refine keeps_takeA (hv := by first | exact rv_load | exact rv_loadW | exact rv_loadS) (h := ?_))), ?_⟩
      (refine XD_end (h := ?_); repeat (first | refine ZT ?_ | refine ZF ?_ | refine Zp pv_move ?_ | refine Zp pv_assign ?_ | refine Zp pv_nil_ptr ?_ | refine Zp pv_cmp ?_ | refine Zp pv_arith ?_ | refine Zp pv_field ?_ | refine Zr rv_load ?_ | refine Zp pv_len_slice ?_ | refine Zp pv_extract ?_ | refine Zp pv_not ?_ | refine Zp pv_index ?_ | refine Zr rv_loadW ?_ | refine Zr rv_loadS ?_ | refine Zp pv_pickT ?_ | refine Zp pv_pickF ?_ | refine Zp pv_max ?_ | refine Zp pv_min ?_ | refine Zp pv_eqnil ?_ | refine Zp pv_nenil ?_ | refine Zp pv_conv_int ?_ | refine Zp pv_build ?_ | refine Zp pv_eqb ?_ | refine Zp pv_neb ?_ | refine Zp pv_bits ?_ | refine Zp pv_shr12 ?_ | refine Zp pv_shl12 ?_ | refine Zp pv_quo ?_ | refine Zp pv_rem ?_ | refine Zp pv_neg ?_ | refine Zp pv_sliceH ?_ | refine Zp pv_build0 ?_ | refine Zp pv_makeFunc ?_ | refine Zp pv_indexArr ?_ | refine Zp pv_sliceArr ?_ | refine Zp pv_sliceL ?_ | refine XO_gU (hk := ?_) | refine Zp pv_nil_fn ?_ | refine X_seq ?_ | refine X_region ?_ | refine X_block ?_ | refine X_skip ?_ | refine X_exit ?_ | refine X_ret ?_ | refine XO_nil ?_ | refine XE_code ?_ | refine XE_block ?_ | refine XE_code_exit ?_ | refine XE_block_exit ?_ | refine XE_code_ret ?_ | refine XE_block_ret ?_ | refine XE_pred_ret ?_ | refine XE_pred_exit ?_ | refine XE_block_other rfl ?_))
      rw [ins_pblk (xs := List.replicate 4096 0) hlk]
      refine XE_fold (by repeat (first | exact FindAll.nil | exact Find.here | apply Find.there | apply FindAll.cons)) newPage ?_
      refine XE_fold (by repeat (first | exact FindAll.nil | exact Find.here | apply Find.there | apply FindAll.cons)) (Pgs.add (p := p)) ?_
      exact X_meet (nb, List.replicate 4096 0, M, []) ⟨hM.add hpP hlk, hlk⟩ (by (repeat (first | exact Env.sub_nil _ | refine Env.sub_cons rfl ?_))) (by ((try simp only [List.cons_append, List.nil_append]); repeat (first | exact ent_refl | refine ent_take (by repeat (first | exact Find.here | apply Find.there)) ?_ | refine ent_drop ?_)))
    | some q =>
      obtain ⟨b, ys⟩ := q
      obtain ⟨M1, M2, rfl, hn⟩ := lk_split hlk
      simp only [Option.map_some, Option.getD_some]
      (refine XD_end (h := ?_); repeat (first | refine ZT ?_ | refine ZF ?_ | refine Zp pv_move ?_ | refine Zp pv_assign ?_ | refine Zp pv_nil_ptr ?_ | refine Zp pv_cmp ?_ | refine Zp pv_arith ?_ | refine Zp pv_field ?_ | refine Zr rv_load ?_ | refine Zp pv_len_slice ?_ | refine Zp pv_extract ?_ | refine Zp pv_not ?_ | refine Zp pv_index ?_ | refine Zr rv_loadW ?_ | refine Zr rv_loadS ?_ | refine Zp pv_pickT ?_ | refine Zp pv_pickF ?_ | refine Zp pv_max ?_ | refine Zp pv_min ?_ | refine Zp pv_eqnil ?_ | refine Zp pv_nenil ?_ | refine Zp pv_conv_int ?_ | refine Zp pv_build ?_ | refine Zp pv_eqb ?_ | refine Zp pv_neb ?_ | refine Zp pv_bits ?_ | refine Zp pv_shr12 ?_ | refine Zp pv_shl12 ?_ | refine Zp pv_quo ?_ | refine Zp pv_rem ?_ | refine Zp pv_neg ?_ | refine Zp pv_sliceH ?_ | refine Zp pv_build0 ?_ | refine Zp pv_makeFunc ?_ | refine Zp pv_indexArr ?_ | refine Zp pv_sliceArr ?_ | refine Zp pv_sliceL ?_ | refine XO_gU (hk := ?_) | refine Zp pv_nil_fn ?_ | refine X_seq ?_ | refine X_region ?_ | refine X_block ?_ | refine X_skip ?_ | refine X_exit ?_ | refine X_ret ?_ | refine XO_nil ?_ | refine XE_code ?_ | refine XE_block ?_ | refine XE_code_exit ?_ | refine XE_block_exit ?_ | refine XE_code_ret ?_ | refine XE_block_ret ?_ | refine XE_pred_ret ?_ | refine XE_pred_exit ?_ | refine XE_block_other rfl ?_))
      refine X_cond rfl (fun h => by cases h) (fun _ => ?_)
      repeat (first | refine ZT ?_ | refine ZF ?_ | refine Zp pv_move ?_ | refine Zp pv_assign ?_ | refine Zp pv_nil_ptr ?_ | refine Zp pv_cmp ?_ | refine Zp pv_arith ?_ | refine Zp pv_field ?_ | refine Zr rv_load ?_ | refine Zp pv_len_slice ?_ | refine Zp pv_extract ?_ | refine Zp pv_not ?_ | refine Zp pv_index ?_ | refine Zr rv_loadW ?_ | refine Zr rv_loadS ?_ | refine Zp pv_pickT ?_ | refine Zp pv_pickF ?_ | refine Zp pv_max ?_ | refine Zp pv_min ?_ | refine Zp pv_eqnil ?_ | refine Zp pv_nenil ?_ | refine Zp pv_conv_int ?_ | refine Zp pv_build ?_ | refine Zp pv_eqb ?_ | refine Zp pv_neb ?_ | refine Zp pv_bits ?_ | refine Zp pv_shr12 ?_ | refine Zp pv_shl12 ?_ | refine Zp pv_quo ?_ | refine Zp pv_rem ?_ | refine Zp pv_neg ?_ | refine Zp pv_sliceH ?_ | refine Zp pv_build0 ?_ | refine Zp pv_makeFunc ?_ | refine Zp pv_indexArr ?_ | refine Zp pv_sliceArr ?_ | refine Zp pv_sliceL ?_ | refine XO_gU (hk := ?_) | refine Zp pv_nil_fn ?_ | refine X_seq ?_ | refine X_region ?_ | refine X_block ?_ | refine X_skip ?_ | refine X_exit ?_ | refine X_ret ?_ | refine XO_nil ?_ | refine XE_code ?_ | refine XE_block ?_ | refine XE_code_exit ?_ | refine XE_block_exit ?_ | refine XE_code_ret ?_ | refine XE_block_ret ?_ | refine XE_pred_ret ?_ | refine XE_pred_exit ?_ | refine XE_block_other rfl ?_)
      exact X_meet (b, ys, M1, M2) ⟨hM, hn⟩ (by (repeat (first | exact Env.sub_nil _ | refine Env.sub_cons rfl ?_))) (by ((try simp only [List.cons_append, List.nil_append]); repeat (first | exact ent_refl | refine ent_take (by repeat (first | exact Find.here | apply Find.there)) ?_ | refine ent_drop ?_)))
  · rintro ⟨b, ys, M1, M2⟩ ⟨hM2, hn⟩
    dsimp only at hM2 hn ⊢
    have hlk : lk (M1 ++ (p, b, ys) :: M2) p = some (b, ys) := lk_mid hn
    have hyl : ys.length = 4096 := (hM2.len (p, b, ys) (by simp)).2.2
    refine X_open (A := Pgs (M1 ++ (p, b, ys) :: M2)) (by (repeat (first | exact Find.here | apply Find.there))) Pgs.out ?_
    rintro ⟨⟩ -
    dsimp only [List.cons_append, List.nil_append]
    refine X_view (by (repeat (first | exact Find.here | apply Find.there))) hV (by omega) ?_
    rintro b2 o2 rfl
    repeat (first | refine ZT ?_ | refine ZF ?_ | refine Zp pv_move ?_ | refine Zp pv_assign ?_ | refine Zp pv_nil_ptr ?_ | refine Zp pv_cmp ?_ | refine Zp pv_arith ?_ | refine Zp pv_field ?_ | refine Zr rv_load ?_ | refine Zp pv_len_slice ?_ | refine Zp pv_extract ?_ | refine Zp pv_not ?_ | refine Zp pv_index ?_ | refine Zr rv_loadW ?_ | refine Zr rv_loadS ?_ | refine Zp pv_pickT ?_ | refine Zp pv_pickF ?_ | refine Zp pv_max ?_ | refine Zp pv_min ?_ | refine Zp pv_eqnil ?_ | refine Zp pv_nenil ?_ | refine Zp pv_conv_int ?_ | refine Zp pv_build ?_ | refine Zp pv_eqb ?_ | refine Zp pv_neb ?_ | refine Zp pv_bits ?_ | refine Zp pv_shr12 ?_ | refine Zp pv_shl12 ?_ | refine Zp pv_quo ?_ | refine Zp pv_rem ?_ | refine Zp pv_neg ?_ | refine Zp pv_sliceH ?_ | refine Zp pv_build0 ?_ | refine Zp pv_makeFunc ?_ | refine Zp pv_indexArr ?_ | refine Zp pv_sliceArr ?_ | refine Zp pv_sliceL ?_ | refine XO_gU (hk := ?_) | refine Zp pv_nil_fn ?_ | refine X_seq ?_ | refine X_region ?_ | refine X_block ?_ | refine X_skip ?_ | refine X_exit ?_ | refine X_ret ?_ | refine XO_nil ?_ | refine XE_code ?_ | refine XE_block ?_ | refine XE_code_exit ?_ | refine XE_block_exit ?_ | refine XE_code_ret ?_ | refine XE_block_ret ?_ | refine XE_pred_ret ?_ | refine XE_pred_exit ?_ | refine XE_block_other rfl ?_)
    repeat (first | refine Dp pv_move ?_ | refine Dp pv_assign ?_ | refine Dp pv_nil_ptr ?_ | refine Dp pv_field ?_ | refine Dp pv_cmp ?_ | refine Dp pv_arith ?_ | refine Dp pv_index ?_ | refine Dp pv_len_slice ?_ | refine Dp pv_extract ?_ | refine Dp pv_not ?_ | refine Dp pv_build ?_ | refine Dp pv_eqnil ?_ | refine Dp pv_nenil ?_ | refine Dp pv_conv_int ?_ | refine Dp pv_max ?_ | refine Dp pv_min ?_ | refine Dp pv_pickT ?_ | refine Dp pv_pickF ?_ | refine Dp pv_eqb ?_ | refine Dp pv_neb ?_ | refine Dp pv_bits ?_ | refine Dp pv_sliceH ?_ | refine Dp pv_build0 ?_ | refine Dp pv_indexArr ?_ | refine Dp pv_sliceArr ?_ | refine Dp pv_sliceL ?_ | refine Dr rv_load ?_ | refine Dr rv_loadW ?_ | refine Dr rv_loadS ?_ | refine XDi_gF (h := ?_) | refine XDi_gU (h := ?_) | refine XD_pick (h := ?_) | refine X_draws (h := ?_))
    refine Dr (rv_lookup (ke := keyV) (ve := pgV) p none (ht := tk_page)) ?_
    rw [lk_pblk, hlk]
    simp only [Option.map_some, Option.getD_some]
    repeat (first | refine Dp pv_move ?_ | refine Dp pv_assign ?_ | refine Dp pv_nil_ptr ?_ | refine Dp pv_field ?_ | refine Dp pv_cmp ?_ | refine Dp pv_arith ?_ | refine Dp pv_index ?_ | refine Dp pv_len_slice ?_ | refine Dp pv_extract ?_ | refine Dp pv_not ?_ | refine Dp pv_build ?_ | refine Dp pv_eqnil ?_ | refine Dp pv_nenil ?_ | refine Dp pv_conv_int ?_ | refine Dp pv_max ?_ | refine Dp pv_min ?_ | refine Dp pv_pickT ?_ | refine Dp pv_pickF ?_ | refine Dp pv_eqb ?_ | refine Dp pv_neb ?_ | refine Dp pv_bits ?_ | refine Dp pv_sliceH ?_ | refine Dp pv_build0 ?_ | refine Dp pv_indexArr ?_ | refine Dp pv_sliceArr ?_ | refine Dp pv_sliceL ?_ | refine Dr rv_load ?_ | refine Dr rv_loadW ?_ | refine Dr rv_loadS ?_ | refine XDi_gF (h := ?_) | refine XDi_gU (h := ?_) | refine XD_pick (h := ?_) | refine X_draws (h := ?_))
    refine Dp pv_sliceArrL ?_
    repeat (first | refine Dp pv_move ?_ | refine Dp pv_assign ?_ | refine Dp pv_nil_ptr ?_ | refine Dp pv_field ?_ | refine Dp pv_cmp ?_ | refine Dp pv_arith ?_ | refine Dp pv_index ?_ | refine Dp pv_len_slice ?_ | refine Dp pv_extract ?_ | refine Dp pv_not ?_ | refine Dp pv_build ?_ | refine Dp pv_eqnil ?_ | refine Dp pv_nenil ?_ | refine Dp pv_conv_int ?_ | refine Dp pv_max ?_ | refine Dp pv_min ?_ | refine Dp pv_pickT ?_ | refine Dp pv_pickF ?_ | refine Dp pv_eqb ?_ | refine Dp pv_neb ?_ | refine Dp pv_bits ?_ | refine Dp pv_sliceH ?_ | refine Dp pv_build0 ?_ | refine Dp pv_indexArr ?_ | refine Dp pv_sliceArr ?_ | refine Dp pv_sliceL ?_ | refine Dr rv_load ?_ | refine Dr rv_loadW ?_ | refine Dr rv_loadS ?_ | refine XDi_gF (h := ?_) | refine XDi_gU (h := ?_) | refine XD_pick (h := ?_) | refine X_draws (h := ?_))
    refine Dp pv_sliceLH ?_
    repeat (first | refine Dp pv_move ?_ | refine Dp pv_assign ?_ | refine Dp pv_nil_ptr ?_ | refine Dp pv_field ?_ | refine Dp pv_cmp ?_ | refine Dp pv_arith ?_ | refine Dp pv_index ?_ | refine Dp pv_len_slice ?_ | refine Dp pv_extract ?_ | refine Dp pv_not ?_ | refine Dp pv_build ?_ | refine Dp pv_eqnil ?_ | refine Dp pv_nenil ?_ | refine Dp pv_conv_int ?_ | refine Dp pv_max ?_ | refine Dp pv_min ?_ | refine Dp pv_pickT ?_ | refine Dp pv_pickF ?_ | refine Dp pv_eqb ?_ | refine Dp pv_neb ?_ | refine Dp pv_bits ?_ | refine Dp pv_sliceH ?_ | refine Dp pv_build0 ?_ | refine Dp pv_indexArr ?_ | refine Dp pv_sliceArr ?_ | refine Dp pv_sliceL ?_ | refine Dr rv_load ?_ | refine Dr rv_loadW ?_ | refine Dr rv_loadS ?_ | refine XDi_gF (h := ?_) | refine XDi_gU (h := ?_) | refine XD_pick (h := ?_) | refine X_draws (h := ?_))
    have hye : ((bs.drop f.toNat).take k.toNat).length = k.toNat := by simp; omega
    refine XD_one (h := ?_)
    refine XDa_dvA (dv_copyAt (E' := eI .u8) (i := i.toNat) (s := 1) (o := 0) (b := b) (c := 4096) (m := (f + k).toNat - f.toNat) (m1 := 4096 - i.toNat) (a2 := subA (some ⟨b2, o2, none⟩) f.toNat c 1) (c2 := c - f.toNat) (xs := ys) (ys := (bs.drop f.toNat).take k.toNat) (A := A)
      (hx := by show some (Value.slice (subA (some ⟨b, 0, none⟩) i.toNat 4096 1) (4096 - i.toNat) (4096 - i.toNat)) = _; rw [subA_lt (by omega)])
      (hy := rfl)
      (hv := (hV.drop f.toNat rfl hc).take k.toNat) (hn := by rw [hye]; omega) (hm1 := by omega)) (hk := ?_)
    rintro _ _ ⟨rfl, rfl⟩
    refine ⟨by (repeat (first | exact keeps_nil | exact keeps_fnil | refine keeps_skip (h := ?_) | refine keeps_takeA (hv := by first | exact rv_load | exact rv_loadW | exact rv_loadS) (h := ?_))), ?_⟩
    (refine XD_end (h := ?_); repeat (first | refine ZT ?_ | refine ZF ?_ | refine Zp pv_move ?_ | refine Zp pv_assign ?_ | refine Zp pv_nil_ptr ?_ | refine Zp pv_cmp ?_ | refine Zp pv_arith ?_ | refine Zp pv_field ?_ | refine Zr rv_load ?_ | refine Zp pv_len_slice ?_ | refine Zp pv_extract ?_ | refine Zp pv_not ?_ | refine Zp pv_index ?_ | refine Zr rv_loadW ?_ | refine Zr rv_loadS ?_ | refine Zp pv_pickT ?_ | refine Zp pv_pickF ?_ | refine Zp pv_max ?_ | refine Zp pv_min ?_ | refine Zp pv_eqnil ?_ | refine Zp pv_nenil ?_ | refine Zp pv_conv_int ?_ | refine Zp pv_build ?_ | refine Zp pv_eqb ?_ | refine Zp pv_neb ?_ | refine Zp pv_bits ?_ | refine Zp pv_shr12 ?_ | refine Zp pv_shl12 ?_ | refine Zp pv_quo ?_ | refine Zp pv_rem ?_ | refine Zp pv_neg ?_ | refine Zp pv_sliceH ?_ | refine Zp pv_build0 ?_ | refine Zp pv_makeFunc ?_ | refine Zp pv_indexArr ?_ | refine Zp pv_sliceArr ?_ | refine Zp pv_sliceL ?_ | refine XO_gU (hk := ?_) | refine Zp pv_nil_fn ?_ | refine X_seq ?_ | refine X_region ?_ | refine X_block ?_ | refine X_skip ?_ | refine X_exit ?_ | refine X_ret ?_ | refine XO_nil ?_ | refine XE_code ?_ | refine XE_block ?_ | refine XE_code_exit ?_ | refine XE_block_exit ?_ | refine XE_code_ret ?_ | refine XE_block_ret ?_ | refine XE_pred_ret ?_ | refine XE_pred_exit ?_ | refine XE_block_other rfl ?_))
    have hB2 : Byt ((bs.drop f.toNat).take k.toNat) := fun x hx => hB x ((List.drop_subset _ _) ((List.take_subset _ _) hx))
    have hok := hM2.put (i := i.toNat) (bs := (bs.drop f.toNat).take k.toNat) hn (by rw [hye]; omega) hB2
    have hw := wr_wr m at_ (bs.take f.toNat) ((bs.drop f.toNat).take k.toNat)
    rw [← List.take_add, List.length_take, Nat.min_eq_left (by omega), hm', show f.toNat + k.toNat = (f + k).toNat from by omega, show at_ + ((f.toNat : Nat) : Int) = p * 4096 + ((i.toNat : Nat) : Int) from by omega] at hw
    rw [hw] at hok
    rw [show pblk (M1 ++ (p, b, ys) :: M2) = pblk (M1 ++ (p, b, cutIn ys i.toNat ((bs.drop f.toNat).take k.toNat)) :: M2) from by simp [pblk]]
    refine XE_fold (by repeat (first | exact FindAll.nil | exact Find.here | apply Find.there | apply FindAll.cons)) (Pgs.back (p := p) (b := b) (xs := cutIn ys i.toNat ((bs.drop f.toNat).take k.toNat)) (M1 := M1) (M2 := M2)) ?_
    refine XE_fold (by repeat (first | exact FindAll.nil | exact Find.here | apply Find.there | apply FindAll.cons)) (Spc.fold (mb := mb) (t := t) hok) ?_
    refine XE_ret (.inr rfl) (tells_tmps rfl rfl) ⟨_, rfl, ?_⟩
    ((try simp only [List.cons_append, List.nil_append]); repeat (first | exact ent_refl | refine ent_take (by repeat (first | exact Find.here | apply Find.there)) ?_ | refine ent_drop ?_))
end Go.Proofs.Yteobjankkcdaoaa.Sep
