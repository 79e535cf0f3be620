import Derived.Test.YtlhjiciimeefeaaLedA
namespace Go.Proofs.Ytlhjiciimeefeaa.Sep
open Go.RowKit
set_option linter.unusedSimpArgs false
set_option linter.unusedVariables false
attribute [local irreducible] Core
set_option maxHeartbeats 8000000
attribute [local irreducible] X XE XO XD XDi XDa PV RV DV pt base Spec Sl Mp Keeps Pg Kc

theorem take_step {b : Nat} {t n : Int} {C : Co} {v : Value} {L : List HP} (h : takeP b C.P C.fr t n v L) : ∃ t', v = .tuple #[.int .i64 (takeC C n).2.1, .int .i64 (takeC C n).2.2] ∧ L = [Pg b C.P (takeC C n).1.fr t'] := by
  unfold takeP at h
  unfold takeC
  split at h
  · rename_i hn
    rw [if_pos hn]
    exact ⟨_, h.1, h.2⟩
  · rename_i hn
    rw [if_neg hn]
    cases ht : takeI C.fr n with
    | none => rw [ht] at h; exact ⟨_, h.1, h.2⟩
    | some q => rw [ht] at h; exact ⟨_, h.1, h.2⟩
theorem takeC_P (C : Co) (n : Int) : (takeC C n).1.P = C.P ∧ (takeC C n).1.ks = C.ks := by
  unfold takeC
  split
  · exact ⟨rfl, rfl⟩
  · cases takeI C.fr n <;> exact ⟨rfl, rfl⟩
theorem takeC_full {C : Co} {n : Int} (h : (takeC C n).2.2 = 4) : (takeC C n).1 = C ∧ (takeC C n).2 = (0, 4) := by
  unfold takeC at h ⊢
  split
  · rename_i hn
    rw [if_pos hn] at h; cases h
  · rename_i hn
    rw [if_neg hn] at h
    cases ht : takeI C.fr n with
    | none => exact ⟨rfl, rfl⟩
    | some q => rw [ht] at h; cases h
def getV (l mb : Nat) (C : Co) (n : Int) : Value → List HP → Prop := fun v L => v = .tuple #[.agg #[.int .i64 (getC C n).2.1, .int .i64 n], .int .i64 (getC C n).2.2] ∧ L = [Core l mb (getC C n).1]
theorem get_spec (l mb : Nat) (C : Co) (n : Int) (h : CoOk C) : Spec Try.prog 22 [.pointer (some ⟨l, 0, none⟩), .int .i64 n] [Core l mb C] (getV l mb C n) := by
  refine Spec.intro (IsEnt.out) Try.func22 rfl Try.ntmps22 (by simp) (fun w0 F => ?_)
  simp only [envOf, List.zipIdx, List.map, List.cons_append, List.nil_append, Nat.zero_add, Nat.reduceAdd]
  unfold getV
  refine X_open .here Core.open ?_
  rintro ⟨pb, kb, t⟩ -
  dsimp only [List.cons_append, List.nil_append]
  repeat (first | refine X_seq ?_ | refine X_region ?_)
  refine XO_dv dv_alloc (hk := ?_)
  rintro _ _ ⟨gb, rfl, rfl⟩
  repeat (first | refine Zp pv_assign ?_ | refine X_seq ?_ | refine XO_nil ?_ | refine XE_code ?_)
  repeat (first | refine Dp pv_move ?_ | refine Dp pv_nil_ptr ?_ | refine Dp pv_field ?_ | refine Dr rv_load ?_ | refine XD_pick (h := ?_) | refine X_draws (h := ?_))
  refine XD_one (h := ?_)
  refine XDa_dvA (dv_call (cclass_spec n)) (hk := ?_)
  (rintro _ _ ⟨_, ⟨rfl, rfl⟩, rfl⟩; refine ⟨by (repeat (first | exact keeps_nil | exact keeps_fnil | refine keeps_skip (h := ?_) | refine keeps_takeA (hv := by first | exact rv_load | exact rv_loadW | exact rv_loadS) (h := ?_))), ?_⟩)
  repeat (fail)
  refine XD_one (h := ?_)
  refine XDa_dvA (dv_call (cpop_spec kb C.ks (cclass n))) (hk := ?_)
  rintro v _ ⟨L', hpost, rfl⟩
  by_cases hc : 0 ≤ cclass n ∧ cclass n < 7 ∧ 0 < (C.ks (cclass n).toNat).length
  · have hP : cpopP kb C.ks (cclass n) = fun v L => v = .tuple #[.int .i64 ((C.ks (cclass n).toNat).getD ((C.ks (cclass n).toNat).length - 1) 0), .bool true] ∧ L = [Kc kb (upd C.ks (cclass n).toNat (C.ks (cclass n).toNat).dropLast)] := by unfold cpopP; rw [if_pos hc]
    have hg : getC C n = (⟨C.P, C.fr, upd C.ks (cclass n).toNat (C.ks (cclass n).toNat).dropLast⟩, (C.ks (cclass n).toNat).getD ((C.ks (cclass n).toNat).length - 1) 0, 0) := by unfold getC; rw [if_pos hc]
    rw [hP] at hpost
    obtain ⟨rfl, rfl⟩ := hpost
    refine ⟨by (repeat (first | exact keeps_nil | exact keeps_fnil | refine keeps_skip (h := ?_) | refine keeps_takeA (hv := by first | exact rv_load | exact rv_loadW | exact rv_loadS) (h := ?_))), ?_⟩
    rw [hg]
    repeat (first | refine Dp pv_move ?_ | refine Dp pv_extract ?_ | refine XD_pick (h := ?_))
    (refine XD_one (h := ?_); refine XDa_dvA (dv_of_rv (rv_of_pv pv_assign)) (hk := ?_); rintro _ _ ⟨rfl, rfl⟩; refine ⟨by (repeat (first | exact keeps_nil | exact keeps_fnil | refine keeps_skip (h := ?_) | refine keeps_takeA (hv := by first | exact rv_load | exact rv_loadW | exact rv_loadS) (h := ?_))), ?_⟩)
    (refine XD_one (h := ?_); refine XDa_dvA (dv_of_rv (rv_of_pv pv_assign)) (hk := ?_); rintro _ _ ⟨rfl, rfl⟩; refine ⟨by (repeat (first | exact keeps_nil | exact keeps_fnil | refine keeps_skip (h := ?_) | refine keeps_takeA (hv := by first | exact rv_load | exact rv_loadW | exact rv_loadS) (h := ?_))), ?_⟩)
    (refine XD_end (h := ?_); repeat (first | refine Zp pv_move ?_ | refine X_seq ?_ | refine X_region ?_ | refine XO_nil ?_ | refine XE_code ?_))
    refine X_cond rfl (fun _ => ?_) (fun h => by cases h)
    repeat (first | refine Zp pv_move ?_ | refine Zp pv_build ?_ | refine X_seq ?_ | refine X_region ?_)
    refine XO_dv0 dv_storeW (hk := ?_)
    rintro _ _ rfl
    repeat (first | refine Zp pv_assign ?_ | refine X_ret ?_ | refine XO_nil ?_ | refine XE_code ?_ | refine XE_code_ret ?_)
    refine XE_fold (by repeat (first | exact FindAll.nil | exact Find.here | apply Find.there | apply FindAll.cons)) (Core.fold (C := ⟨C.P, C.fr, upd C.ks (cclass n).toNat (C.ks (cclass n).toNat).dropLast⟩)) ?_
    refine XE_ret (.inl rfl) (tells_many (rs := [.cell _ _, .tmp _]) (vs := [_, _]) rfl ⟨told_cell, told_tmp, trivial⟩) ⟨_, ⟨rfl, rfl⟩, by ((try simp only [List.cons_append, List.nil_append]); repeat (first | exact ent_refl | refine ent_take (by repeat (first | exact Find.here | apply Find.there)) ?_ | refine ent_drop ?_))⟩
  · have hP : cpopP kb C.ks (cclass n) = fun v L => v = .tuple #[.int .i64 0, .bool false] ∧ L = [Kc kb C.ks] := by unfold cpopP; rw [if_neg hc]
    have hg : getC C n = if (takeC C n).2.2 = 4 then (if 0 < trimN C then takeC (trimC C) n else (trimC C, (takeC C n).2)) else takeC C n := by conv => lhs; unfold getC; rw [if_neg hc]
    rw [hP] at hpost
    obtain ⟨rfl, rfl⟩ := hpost
    refine ⟨by (repeat (first | exact keeps_nil | exact keeps_fnil | refine keeps_skip (h := ?_) | refine keeps_takeA (hv := by first | exact rv_load | exact rv_loadW | exact rv_loadS) (h := ?_))), ?_⟩
    rw [hg]
    repeat (first | refine Dp pv_move ?_ | refine Dp pv_extract ?_ | refine XD_pick (h := ?_))
    (refine XD_one (h := ?_); refine XDa_dvA (dv_of_rv (rv_of_pv pv_assign)) (hk := ?_); rintro _ _ ⟨rfl, rfl⟩; refine ⟨by (repeat (first | exact keeps_nil | exact keeps_fnil | refine keeps_skip (h := ?_) | refine keeps_takeA (hv := by first | exact rv_load | exact rv_loadW | exact rv_loadS) (h := ?_))), ?_⟩)
    (refine XD_one (h := ?_); refine XDa_dvA (dv_of_rv (rv_of_pv pv_assign)) (hk := ?_); rintro _ _ ⟨rfl, rfl⟩; refine ⟨by (repeat (first | exact keeps_nil | exact keeps_fnil | refine keeps_skip (h := ?_) | refine keeps_takeA (hv := by first | exact rv_load | exact rv_loadW | exact rv_loadS) (h := ?_))), ?_⟩)
    (refine XD_end (h := ?_); repeat (first | refine Zp pv_move ?_ | refine X_seq ?_ | refine X_region ?_ | refine XO_nil ?_ | refine XE_code ?_))
    refine X_cond rfl (fun h => by cases h) (fun _ => ?_)
    repeat (first | refine Zp pv_move ?_ | refine Zp pv_nil_ptr ?_ | refine Zp pv_field ?_ | refine Zr rv_load ?_ | refine X_seq ?_ | refine X_region ?_ | refine X_skip ?_ | refine XE_code ?_)
    refine XO_call (ptake_spec pb C.P t n C.fr (rf_len' (by have := h.p1; omega) h.p2 h.right) (rf_bd h.p2 h.right)) (hk := ?_)
    intro v L' hpost
    obtain ⟨t', rfl, rfl⟩ := take_step hpost
    repeat (first | refine Zp pv_move ?_ | refine Zp pv_assign ?_ | refine Zp pv_cmp ?_ | refine Zp pv_extract ?_ | refine X_seq ?_ | refine X_region ?_ | refine XO_nil ?_ | refine XE_code ?_)
    by_cases he : (takeC C n).2.2 = 4
    · obtain ⟨h1, h2⟩ := takeC_full he
      have hv1 : (takeC C n).2.1 = 0 := by rw [h2]
      rw [if_pos he]
      rw [he, hv1, h1]
      refine XO_known true (hb := rfl) (hk := ?_)
      refine XO_fold (by repeat (first | exact FindAll.nil | exact Find.here | apply Find.there | apply FindAll.cons)) (Core.fold (C := C)) ?_
      repeat (first | refine ZT ?_ | refine Zp pv_move ?_)
      refine XO_call (trim_spec l mb C h) (hk := ?_)
      rintro _ _ ⟨rfl, rfl⟩
      repeat (first | refine ZT ?_ | refine Zp pv_cmp ?_ | refine Zp pv_pickT ?_ | refine XO_nil ?_ | refine XE_code ?_)
      refine X_cond rfl (fun h3 => ?_) (fun h3 => ?_) <;> simp only [decide_eq_true_eq, decide_eq_false_iff_not] at h3
      · rw [if_pos h3]
        have hT := trimC_ok h
        refine X_open .here Core.open ?_
        rintro ⟨pb2, kb2, t2⟩ -
        dsimp only [List.cons_append, List.nil_append]
        repeat (first | refine Zp pv_move ?_ | refine Zp pv_nil_ptr ?_ | refine Zp pv_field ?_ | refine Zr rv_load ?_ | refine X_region ?_)
        refine XO_call (ptake_spec pb2 (trimC C).P t2 n (trimC C).fr (rf_len' (by have := hT.p1; omega) hT.p2 hT.right) (rf_bd hT.p2 hT.right)) (hk := ?_)
        intro v L' hpost
        obtain ⟨t3, rfl, rfl⟩ := take_step hpost
        have hPk := takeC_P (trimC C) n
        repeat (first | refine Zp pv_move ?_ | refine Zp pv_assign ?_ | refine Zp pv_extract ?_ | refine Zp pv_build ?_ | refine X_seq ?_ | refine X_region ?_ | refine XO_nil ?_ | refine XE_code ?_)
        refine XO_dv0 dv_storeW (hk := ?_)
        rintro _ _ rfl
        repeat (first | refine Zp pv_assign ?_ | refine X_ret ?_ | refine XO_nil ?_ | refine XE_code ?_)
        refine XE_ret (.inl rfl) (tells_many (rs := [.cell _ _, .tmp _]) (vs := [_, _]) rfl ⟨told_cell, told_tmp, trivial⟩) ⟨_, ⟨rfl, rfl⟩, ?_⟩
        (try simp only [List.cons_append, List.nil_append])
        rw [← hPk.1, ← hPk.2]
        refine ent_fold (by repeat (first | exact FindAll.nil | exact Find.here | apply Find.there | apply FindAll.cons)) (Core.fold (C := (takeC (trimC C) n).1)) ?_
        ((try simp only [List.cons_append, List.nil_append]); repeat (first | exact ent_refl | refine ent_take (by repeat (first | exact Find.here | apply Find.there)) ?_ | refine ent_drop ?_))
      · rw [if_neg h3, h2]
        repeat (first | refine Zp pv_move ?_ | refine Zp pv_build ?_ | refine X_seq ?_ | refine X_region ?_ | refine X_skip ?_ | refine XE_code ?_)
        refine XO_dv0 dv_storeW (hk := ?_)
        rintro _ _ rfl
        repeat (first | refine Zp pv_assign ?_ | refine X_ret ?_ | refine XO_nil ?_ | refine XE_code ?_)
        refine XE_ret (.inl rfl) (tells_many (rs := [.cell _ _, .tmp _]) (vs := [_, _]) rfl ⟨told_cell, told_tmp, trivial⟩) ⟨_, ⟨rfl, rfl⟩, ?_⟩
        (try simp only [List.cons_append, List.nil_append])
        ((try simp only [List.cons_append, List.nil_append]); repeat (first | exact ent_refl | refine ent_take (by repeat (first | exact Find.here | apply Find.there)) ?_ | refine ent_drop ?_))
    · rw [if_neg he]
      refine XO_known false (hb := by simpa using he) (hk := ?_)
      have hPk := takeC_P C n
      repeat (first | refine ZF ?_ | refine Zp pv_pickF ?_ | refine XO_nil ?_ | refine XE_code ?_)
      refine X_cond rfl (fun h => by cases h) (fun _ => ?_)
      repeat (first | refine Zp pv_move ?_ | refine Zp pv_build ?_ | refine X_seq ?_ | refine X_region ?_ | refine X_skip ?_ | refine XE_code ?_)
      refine XO_dv0 dv_storeW (hk := ?_)
      rintro _ _ rfl
      repeat (first | refine Zp pv_assign ?_ | refine X_ret ?_ | refine XO_nil ?_ | refine XE_code ?_)
      refine XE_ret (.inl rfl) (tells_many (rs := [.cell _ _, .tmp _]) (vs := [_, _]) rfl ⟨told_cell, told_tmp, trivial⟩) ⟨_, ⟨rfl, rfl⟩, ?_⟩
      (try simp only [List.cons_append, List.nil_append])
      rw [← hPk.1, ← hPk.2]
      refine ent_fold (by repeat (first | exact FindAll.nil | exact Find.here | apply Find.there | apply FindAll.cons)) (Core.fold (C := (takeC C n).1)) ?_
      ((try simp only [List.cons_append, List.nil_append]); repeat (first | exact ent_refl | refine ent_take (by repeat (first | exact Find.here | apply Find.there)) ?_ | refine ent_drop ?_))
end Go.Proofs.Ytlhjiciimeefeaa.Sep
