import Derived.Test.YtlhjiciimeefeaaClasses
import Derived.Test.YtlhjiciimeefeaaSepR
namespace Go.Proofs.Ytlhjiciimeefeaa.Sep
open Go.RowKit
set_option linter.unusedSimpArgs false
set_option linter.unusedVariables false
set_option maxHeartbeats 8000000
attribute [local irreducible] X XE XO XD XDi XDa PV RV DV pt base Spec Sl Mp Keeps

/-- A cursor: where the next bytes are made, and the end. -/
def ofI (page pages : Int) : Int × Int := if 0 ≤ page ∧ 1 ≤ pages ∧ pages ≤ 1048576 ∧ page ≤ 1048576 - pages then (page * 4096 + 32, (page + pages) * 4096) else (0, 0)
def fitI (at_ end_ size align : Int) : Option (Int × Int × Int) := (upI at_ align).bind fun s => (addI s size).bind fun en => if size = 0 ∨ end_ < en then none else some (s, en, s - at_)
theorem of1_spec (b1 b2 : Nat) (page pages : Int) : Spec Try.prog 41 [.pointer (some ⟨b1, 0, none⟩), .pointer (some ⟨b2, 0, none⟩)] [pt b1 (.cells [.int .i64 page].toArray 3 (0, 0)), pt b2 (.cells [.int .i64 pages].toArray 3 (0, 0))]
    (fun v L => v = .bool (decide (0 ≤ page ∧ 1 ≤ pages ∧ pages ≤ 1048576 ∧ page ≤ 1048576 - pages)) ∧ L = [pt b1 (.cells [.int .i64 page].toArray 3 (0, 0)), pt b2 (.cells [.int .i64 pages].toArray 3 (0, 0))]) := by
  refine Spec.intro (IsEnt.out) Try.func41 rfl Try.ntmps41 (by simp) (fun w0 F => ?_)
  simp only [envOf, List.zipIdx, List.map, List.cons_append, List.nil_append, Nat.zero_add, Nat.reduceAdd]
  repeat (first | refine Zp pv_move ?_ | refine Zp pv_assign ?_ | refine Zp pv_cmp ?_ | refine Zr rv_load ?_ | refine X_seq ?_ | refine X_region ?_ | refine XO_nil ?_ | refine XE_code ?_)
  refine XO_either (hT := fun h => ?_) (hF := fun h => ?_)
  · simp only [decide_eq_true_eq] at h
    repeat (first | refine ZT ?_ | refine Zp pv_move ?_ | refine Zp pv_cmp ?_ | refine Zr rv_load ?_ | refine Zp pv_pickT ?_)
    refine XO_either (hT := fun h2 => ?_) (hF := fun h2 => ?_)
    · simp only [decide_eq_true_eq] at h2
      repeat (first | refine ZT ?_ | refine Zp pv_move ?_ | refine Zp pv_cmp ?_ | refine Zr rv_load ?_ | refine Zp pv_pickT ?_)
      refine XO_either (hT := fun h3 => ?_) (hF := fun h3 => ?_)
      · simp only [decide_eq_true_eq] at h3
        repeat (first | refine ZT ?_ | refine Zp pv_assign ?_ | refine Zp pv_cmp ?_ | refine Zp pv_arith ?_ | refine Zr rv_load ?_ | refine Zp pv_pickT ?_ | refine X_ret ?_ | refine XO_nil ?_ | refine XE_code ?_)
        have hd : decide (0 ≤ page ∧ 1 ≤ pages ∧ pages ≤ 1048576 ∧ page ≤ 1048576 - pages) = decide (page ≤ 1048576 - pages) := by
          rw [decide_eq_decide]; exact ⟨fun h' => h'.2.2.2, fun h' => ⟨h, h2, h3, h'⟩⟩
        rw [hd]
        refine XE_ret (.inl rfl) (tells_tmps rfl rfl) ⟨_, ⟨rfl, rfl⟩, by ((try simp only [List.cons_append, List.nil_append]); repeat (first | exact ent_refl | refine ent_take (by repeat (first | exact Find.here | apply Find.there)) ?_ | refine ent_drop ?_))⟩
      · simp only [decide_eq_false_iff_not] at h3
        rw [decide_eq_false (fun h' => h3 h'.2.2.1)]
        repeat (first | refine ZF ?_ | refine Zp pv_assign ?_ | refine Zp pv_pickF ?_ | refine X_ret ?_ | refine XO_nil ?_ | refine XE_code ?_)
        refine XE_ret (.inl rfl) (tells_tmps rfl rfl) ⟨_, ⟨rfl, rfl⟩, by ((try simp only [List.cons_append, List.nil_append]); repeat (first | exact ent_refl | refine ent_take (by repeat (first | exact Find.here | apply Find.there)) ?_ | refine ent_drop ?_))⟩
    · simp only [decide_eq_false_iff_not] at h2
      rw [decide_eq_false (fun h' => h2 h'.2.1)]
      repeat (first | refine ZF ?_ | refine Zp pv_move ?_ | refine Zp pv_assign ?_ | refine Zp pv_pickF ?_ | refine X_ret ?_ | refine XO_nil ?_ | refine XE_code ?_)
      refine XE_ret (.inl rfl) (tells_tmps rfl rfl) ⟨_, ⟨rfl, rfl⟩, by ((try simp only [List.cons_append, List.nil_append]); repeat (first | exact ent_refl | refine ent_take (by repeat (first | exact Find.here | apply Find.there)) ?_ | refine ent_drop ?_))⟩
  · simp only [decide_eq_false_iff_not] at h
    rw [decide_eq_false (fun h' => h h'.1)]
    repeat (first | refine ZF ?_ | refine Zp pv_move ?_ | refine Zp pv_assign ?_ | refine Zp pv_pickF ?_ | refine X_ret ?_ | refine XO_nil ?_ | refine XE_code ?_)
    refine XE_ret (.inl rfl) (tells_tmps rfl rfl) ⟨_, ⟨rfl, rfl⟩, by ((try simp only [List.cons_append, List.nil_append]); repeat (first | exact ent_refl | refine ent_take (by repeat (first | exact Find.here | apply Find.there)) ?_ | refine ent_drop ?_))⟩
theorem bof_spec (page pages : Int) : Spec Try.prog 23 [.int .i64 page, .int .i64 pages] [] (fun v L => v = .agg #[.int .u64 (ofI page pages).1, .int .u64 (ofI page pages).2] ∧ L = []) := by
  refine Spec.intro (IsEnt.out) Try.func23 rfl Try.ntmps23 (by simp) (fun w0 F => ?_)
  simp only [envOf, List.zipIdx, List.map, List.cons_append, List.nil_append, Nat.zero_add, Nat.reduceAdd]
  repeat (first | refine X_seq ?_ | refine X_region ?_)
  refine XO_dv dv_box1 (hk := ?_)
  rintro _ _ ⟨b1, rfl, rfl⟩
  repeat (fail)
  refine XO_dv dv_box1 (hk := ?_)
  rintro _ _ ⟨b2, rfl, rfl⟩
  repeat (fail)
  refine XO_dv dv_alloc (hk := ?_)
  rintro _ _ ⟨cb, rfl, rfl⟩
  repeat (first | refine Zp pv_move ?_ | refine Zp pv_assign ?_ | refine Zp pv_makeFunc ?_ | refine X_seq ?_ | refine X_region ?_ | refine XO_nil ?_ | refine XE_code ?_)
  refine XO_call (of1_spec b1 b2 page pages) (hk := ?_)
  rintro _ _ ⟨rfl, rfl⟩
  repeat (first | refine Zp pv_not ?_ | refine XO_nil ?_ | refine XE_code ?_)
  refine X_cond rfl (fun h => ?_) (fun h => ?_)
  · have hn : ¬ (0 ≤ page ∧ 1 ≤ pages ∧ pages ≤ 1048576 ∧ page ≤ 1048576 - pages) := of_decide_eq_false (by simpa only [Bool.not_eq_true'] using h)
    repeat (first | refine Zp pv_build0 ?_ | refine X_seq ?_ | refine X_region ?_)
    refine XO_dv0 dv_storeW (hk := ?_)
    rintro _ _ rfl
    repeat (first | refine X_ret ?_ | refine XO_nil ?_ | refine XE_code ?_ | refine XE_code_ret ?_)
    unfold ofI
    rw [if_neg hn]
    refine XE_ret (.inl rfl) (tells_cell rfl) ⟨_, ⟨rfl, rfl⟩, by ((try simp only [List.cons_append, List.nil_append]); repeat (first | exact ent_refl | refine ent_take (by repeat (first | exact Find.here | apply Find.there)) ?_ | refine ent_drop ?_))⟩
  · have hn : 0 ≤ page ∧ 1 ≤ pages ∧ pages ≤ 1048576 ∧ page ≤ 1048576 - pages := by simpa using h
    repeat (first | refine Zp pv_arith ?_ | refine Zr rv_load ?_ | refine Zp pv_conv_int ?_ | refine Zp pv_build ?_ | refine Zp pv_shl12 ?_ | refine X_seq ?_ | refine X_region ?_ | refine X_skip ?_ | refine XE_code ?_)
    refine XO_dv0 dv_storeW (hk := ?_)
    rintro _ _ rfl
    repeat (first | refine X_ret ?_ | refine XO_nil ?_ | refine XE_code ?_)
    unfold ofI
    rw [if_pos hn]
    refine XE_ret (.inl rfl) (tells_cell rfl) ⟨_, ⟨rfl, rfl⟩, by ((try simp only [List.cons_append, List.nil_append]); repeat (first | exact ent_refl | refine ent_take (by repeat (first | exact Find.here | apply Find.there)) ?_ | refine ent_drop ?_))⟩
theorem fit_spec (c0 c1 size align : Int) (g0 : 0 ≤ c0) (g1 : c0 ≤ 18446744073709551615) (g2 : 0 ≤ c1) (g3 : c1 ≤ 18446744073709551615) (h0 : 0 ≤ size) (h1 : size ≤ 18446744073709551615) (h2 : 0 ≤ align) (h3 : align ≤ 18446744073709551615) :
    Spec Try.prog 36 [.agg #[.int .u64 c0, .int .u64 c1], .int .u64 size, .int .u64 align] [] (fun v L => v = (match fitI c0 c1 size align with | none => .tuple #[.int .u64 0, .agg #[.int .u64 0, .int .u64 0], .int .u64 0, .bool false] | some (s, en, p) => .tuple #[.int .u64 s, .agg #[.int .u64 en, .int .u64 c1], .int .u64 p, .bool true]) ∧ L = []) := by
  refine Spec.intro (IsEnt.out) Try.func36 rfl Try.ntmps36 (by simp) (fun w0 F => ?_)
  simp only [envOf, List.zipIdx, List.map, List.cons_append, List.nil_append, Nat.zero_add, Nat.reduceAdd]
  repeat (first | refine X_seq ?_ | refine X_region ?_)
  refine XO_dv dv_box (hk := ?_)
  rintro _ _ ⟨b1, rfl, rfl⟩
  repeat (first | refine Zp pv_assign ?_)
  refine XO_dv dv_alloc (hk := ?_)
  rintro _ _ ⟨cb, rfl, rfl⟩
  repeat (first | refine Zp pv_move ?_ | refine Zp pv_assign ?_ | refine Zp pv_field ?_ | refine Zr rv_load ?_ | refine X_seq ?_ | refine X_region ?_ | refine XO_nil ?_ | refine XE_code ?_)
  refine XO_call (up_spec c0 align g0 g1 h2 h3) (hk := ?_)
  rintro _ _ ⟨rfl, rfl⟩
  cases hu : upI c0 align with
  | none =>
    simp only [Option.getD_none, Option.isSome_none]
    have hf : fitI c0 c1 size align = none := by unfold fitI; rw [hu]; rfl
    rw [hf]
    repeat (first | refine Zp pv_move ?_ | refine Zp pv_assign ?_ | refine Zp pv_extract ?_ | refine X_seq ?_ | refine X_region ?_ | refine XO_nil ?_ | refine XE_code ?_)
    refine XO_call (add_spec 0 size (by decide) (by decide) h0 h1) (hk := ?_)
    rintro _ _ ⟨rfl, rfl⟩
    repeat (first | refine ZF ?_ | refine Zp pv_move ?_ | refine Zp pv_assign ?_ | refine Zp pv_extract ?_ | refine Zp pv_not ?_ | refine Zp pv_pickT ?_ | refine X_seq ?_ | refine X_region ?_ | refine XO_nil ?_ | refine XE_code ?_)
    refine X_cond rfl (fun _ => ?_) (fun h => by cases h)
    repeat (first | refine Zp pv_assign ?_ | refine Zp pv_build0 ?_ | refine X_seq ?_ | refine X_region ?_)
    refine XO_dv0 dv_storeW (hk := ?_)
    rintro _ _ rfl
    repeat (first | refine Zp pv_assign ?_ | refine X_ret ?_ | refine XO_nil ?_ | refine XE_code ?_ | refine XE_code_ret ?_)
    refine XE_ret (.inl rfl) (tells_many (rs := [.tmp _, .cell _ _, .tmp _, .tmp _]) (vs := [_, _, _, _]) rfl ⟨told_tmp, told_cell, told_tmp, told_tmp, trivial⟩) ⟨_, ⟨rfl, rfl⟩, by ((try simp only [List.cons_append, List.nil_append]); repeat (first | exact ent_refl | refine ent_take (by repeat (first | exact Find.here | apply Find.there)) ?_ | refine ent_drop ?_))⟩
  | some s =>
    obtain ⟨u1, u2, u3, u4, u5⟩ := upI_le g0 h2 hu
    simp only [Option.getD_some, Option.isSome_some]
    repeat (first | refine Zp pv_move ?_ | refine Zp pv_assign ?_ | refine Zp pv_extract ?_ | refine X_seq ?_ | refine X_region ?_ | refine XO_nil ?_ | refine XE_code ?_)
    refine XO_call (add_spec s size (by omega) (by omega) h0 h1) (hk := ?_)
    rintro _ _ ⟨rfl, rfl⟩
    cases ha : addI s size with
    | none =>
      have hf : fitI c0 c1 size align = none := by unfold fitI; rw [hu, Option.bind_some, ha]; rfl
      rw [hf]
      repeat (first | refine ZT ?_ | refine ZF ?_ | refine Zp pv_move ?_ | refine Zp pv_assign ?_ | refine Zp pv_extract ?_ | refine Zp pv_not ?_ | refine Zp pv_pickT ?_ | refine Zp pv_pickF ?_ | refine X_seq ?_ | refine X_region ?_ | refine XO_nil ?_ | refine XE_code ?_)
      refine X_cond rfl (fun _ => ?_) (fun h => by cases h)
      repeat (first | refine Zp pv_assign ?_ | refine Zp pv_build0 ?_ | refine X_seq ?_ | refine X_region ?_)
      refine XO_dv0 dv_storeW (hk := ?_)
      rintro _ _ rfl
      repeat (first | refine Zp pv_assign ?_ | refine X_ret ?_ | refine XO_nil ?_ | refine XE_code ?_ | refine XE_code_ret ?_)
      refine XE_ret (.inl rfl) (tells_many (rs := [.tmp _, .cell _ _, .tmp _, .tmp _]) (vs := [_, _, _, _]) rfl ⟨told_tmp, told_cell, told_tmp, told_tmp, trivial⟩) ⟨_, ⟨rfl, rfl⟩, by ((try simp only [List.cons_append, List.nil_append]); repeat (first | exact ent_refl | refine ent_take (by repeat (first | exact Find.here | apply Find.there)) ?_ | refine ent_drop ?_))⟩
    | some en =>
      simp only [Option.getD_some, Option.isSome_some]
      obtain ⟨hen, hlt⟩ := add_le ha
      repeat (first | refine ZT ?_ | refine Zp pv_move ?_ | refine Zp pv_assign ?_ | refine Zp pv_cmp ?_ | refine Zp pv_extract ?_ | refine Zp pv_not ?_ | refine Zp pv_pickF ?_ | refine X_seq ?_ | refine X_region ?_ | refine XO_nil ?_ | refine XE_code ?_)
      refine XO_either (hT := fun h => ?_) (hF := fun h => ?_)
      · have hs : size = 0 := by simpa using h
        have hf : fitI c0 c1 size align = none := by unfold fitI; rw [hu, Option.bind_some, ha, Option.bind_some, if_pos (.inl hs)]
        rw [hf]
        repeat (first | refine ZF ?_ | refine Zp pv_pickT ?_ | refine XO_nil ?_ | refine XE_code ?_)
        refine X_cond rfl (fun _ => ?_) (fun h => by cases h)
        repeat (first | refine Zp pv_assign ?_ | refine Zp pv_build0 ?_ | refine X_seq ?_ | refine X_region ?_)
        refine XO_dv0 dv_storeW (hk := ?_)
        rintro _ _ rfl
        repeat (first | refine Zp pv_assign ?_ | refine X_ret ?_ | refine XO_nil ?_ | refine XE_code ?_ | refine XE_code_ret ?_)
        refine XE_ret (.inl rfl) (tells_many (rs := [.tmp _, .cell _ _, .tmp _, .tmp _]) (vs := [_, _, _, _]) rfl ⟨told_tmp, told_cell, told_tmp, told_tmp, trivial⟩) ⟨_, ⟨rfl, rfl⟩, by ((try simp only [List.cons_append, List.nil_append]); repeat (first | exact ent_refl | refine ent_take (by repeat (first | exact Find.here | apply Find.there)) ?_ | refine ent_drop ?_))⟩
      have hs : ¬ size = 0 := by simpa using h
      repeat (first | refine ZT ?_ | refine Zp pv_move ?_ | refine Zp pv_cmp ?_ | refine Zp pv_field ?_ | refine Zr rv_load ?_ | refine Zp pv_pickF ?_ | refine XO_nil ?_ | refine XE_code ?_)
      refine X_cond rfl (fun h2 => ?_) (fun h2 => ?_) <;> simp only [decide_eq_true_eq, decide_eq_false_iff_not] at h2
      · have hf : fitI c0 c1 size align = none := by unfold fitI; rw [hu, Option.bind_some, ha, Option.bind_some, if_pos (.inr h2)]
        rw [hf]
        repeat (first | refine Zp pv_assign ?_ | refine Zp pv_build0 ?_ | refine X_seq ?_ | refine X_region ?_)
        refine XO_dv0 dv_storeW (hk := ?_)
        rintro _ _ rfl
        repeat (first | refine Zp pv_assign ?_ | refine X_ret ?_ | refine XO_nil ?_ | refine XE_code ?_ | refine XE_code_ret ?_)
        refine XE_ret (.inl rfl) (tells_many (rs := [.tmp _, .cell _ _, .tmp _, .tmp _]) (vs := [_, _, _, _]) rfl ⟨told_tmp, told_cell, told_tmp, told_tmp, trivial⟩) ⟨_, ⟨rfl, rfl⟩, by ((try simp only [List.cons_append, List.nil_append]); repeat (first | exact ent_refl | refine ent_take (by repeat (first | exact Find.here | apply Find.there)) ?_ | refine ent_drop ?_))⟩
      have hf : fitI c0 c1 size align = some (s, en, s - c0) := by unfold fitI; rw [hu, Option.bind_some, ha, Option.bind_some, if_neg (by omega)]
      rw [hf]
      repeat (first | refine X_seq ?_ | refine X_skip ?_ | refine XE_code ?_)
      repeat (first | refine XDi_pv pv_move (h := ?_) | refine XDi_pv pv_field (h := ?_) | refine XDi_rv rv_load (h := ?_) | refine XDi_pv pv_arith (h := ?_) | refine XDi_pv pv_build (h := ?_) | refine XD_pick (h := ?_) | refine X_draws (h := ?_))
      (refine XD_one (h := ?_); refine XDa_dvA (dv_of_rv (rv_of_pv pv_assign)) (hk := ?_); rintro _ _ ⟨rfl, rfl⟩; refine ⟨by (repeat (first | exact keeps_nil | exact keeps_fnil | refine keeps_skip (h := ?_) | refine keeps_takeA (hv := by first | exact rv_load | exact rv_loadW | exact rv_loadS) (h := ?_))), ?_⟩)
      refine XD_one (h := ?_)
      refine XDa_dvk0 dv_storeW (K := _) (hk := ?_)
      rintro _ _ rfl
      refine ⟨by (repeat (first | exact keeps_nil | exact keeps_fnil | refine keeps_skip (h := ?_) | refine keeps_takeA (hv := by first | exact rv_load | exact rv_loadW | exact rv_loadS) (h := ?_))), ?_⟩
      (refine XD_one (h := ?_); refine XDa_dvA (dv_of_rv (rv_of_pv pv_assign)) (hk := ?_); rintro _ _ ⟨rfl, rfl⟩; refine ⟨by (repeat (first | exact keeps_nil | exact keeps_fnil | refine keeps_skip (h := ?_) | refine keeps_takeA (hv := by first | exact rv_load | exact rv_loadW | exact rv_loadS) (h := ?_))), ?_⟩)
      (refine XD_one (h := ?_); refine XDa_dvA (dv_of_rv (rv_of_pv pv_assign)) (hk := ?_); rintro _ _ ⟨rfl, rfl⟩; refine ⟨by (repeat (first | exact keeps_nil | exact keeps_fnil | refine keeps_skip (h := ?_) | refine keeps_takeA (hv := by first | exact rv_load | exact rv_loadW | exact rv_loadS) (h := ?_))), ?_⟩)
      refine XD_end (h := ?_)
      repeat (first | refine X_ret ?_ | refine XE_code ?_)
      refine XE_ret (.inl rfl) (tells_many (rs := [.tmp _, .cell _ _, .tmp _, .tmp _]) (vs := [_, _, _, _]) rfl ⟨told_tmp, told_cell, told_tmp, told_tmp, trivial⟩) ⟨_, ⟨rfl, rfl⟩, by ((try simp only [List.cons_append, List.nil_append]); repeat (first | exact ent_refl | refine ent_take (by repeat (first | exact Find.here | apply Find.there)) ?_ | refine ent_drop ?_))⟩
end Go.Proofs.Ytlhjiciimeefeaa.Sep
