import Derived.Test.YteobjankkcdaoaaRunsC
namespace Go.Proofs.Yteobjankkcdaoaa.Sep
open Go.RowKit
set_option linter.unusedSimpArgs false
set_option linter.unusedVariables false
set_option maxHeartbeats 8000000
attribute [local irreducible] X XE XO XD XDi XDa PV RV DV pt base Spec Sl Mp Keeps

/-- A run is put together with those that it meets. -/
def mergeI : Int × Int → List (Int × Int) → (Int × Int) × List (Int × Int)
  | r, [] => (r, [])
  | r, x :: xs => if x.1 ≤ r.1 + r.2 then mergeI (min x.1 r.1, x.2 + r.2) xs else (r, x :: xs)
def giveL (xs : List (Int × Int)) (page n : Int) : List (Int × Int) :=
  xs.take (afterI xs page) ++ (mergeI (page, n) (xs.drop (afterI xs page))).1 :: (mergeI (page, n) (xs.drop (afterI xs page))).2
def giveI (xs : List (Int × Int)) (pages page n : Int) : Option (List (Int × Int)) :=
  if page < 0 ∨ n < 1 ∨ pages < n ∨ pages - n < page ∨ xs.any (hasB page n) = true then none else some (giveL xs page n)
def giveV (A : HP) : Option (List (Int × Int)) → Value → List HP → Prop
  | none, v, L => v = .tuple #[.slice none 0 0, .bool false] ∧ L = [A]
  | some ys, v, L => ∃ a c, v = .tuple #[.slice a ys.length c, .bool true] ∧ L = [A, Sl eRun a c ys]
theorem give_spec (A : HP) (a : Option Addr) (c : Nat) (xs : List (Int × Int)) (pages page n : Int) (hV : View A eRun a xs) (hc : xs.length ≤ c) (hl : xs.length ≤ 1048576) (hB : Bd xs) (p0 : 0 ≤ pages) (p1 : pages ≤ 1048576) (n0 : -9223372036854775808 ≤ n) (n1 : n ≤ 9223372036854775807) (q0 : -9223372036854775808 ≤ page) (q1 : page ≤ 9223372036854775807) :
    Spec Try.prog 47 [.slice a xs.length c, .int .i64 pages, .int .i64 page, .int .i64 n] [A] (giveV A (giveI xs pages page n)) := by
  refine Spec.intro (IsEnt.out) Try.func47 rfl Try.ntmps47 (by simp) (fun w0 F => ?_)
  simp only [envOf, List.zipIdx, List.map, List.cons_append, List.nil_append, Nat.zero_add, Nat.reduceAdd]
  repeat (first | refine Zp pv_move ?_ | refine Zp pv_assign ?_ | refine Zp pv_cmp ?_ | refine X_seq ?_ | refine X_region ?_ | refine XO_nil ?_ | refine XE_code ?_)
  by_cases hbad : page < 0 ∨ n < 1 ∨ pages < n ∨ pages - n < page
  · have hg : giveI xs pages page n = none := by
      unfold giveI
      rw [if_pos]
      rcases hbad with h | h | h | h
      · exact .inl h
      · exact .inr (.inl h)
      · exact .inr (.inr (.inl h))
      · exact .inr (.inr (.inr (.inl h)))
    rw [hg]
    refine XO_either (hT := fun h => ?_) (hF := fun h => ?_) <;> simp only [decide_eq_true_eq, decide_eq_false_iff_not] at h
    · repeat (first | refine ZF ?_ | refine Zp pv_move ?_ | refine Zp pv_pickT ?_ | refine XO_nil ?_ | refine XE_code ?_)
      refine X_cond rfl (fun _ => ?_) (fun h => by cases h)
      repeat (first | refine Zp pv_assign ?_ | refine X_seq ?_ | refine X_region ?_ | refine X_ret ?_ | refine XO_nil ?_ | refine XE_code ?_ | refine XE_code_ret ?_)
      refine XE_ret (.inl rfl) (tells_tmps rfl rfl) ⟨_, ⟨rfl, rfl⟩, by ((try simp only [List.cons_append, List.nil_append]); repeat (first | exact ent_refl | refine ent_take (by repeat (first | exact Find.here | apply Find.there)) ?_ | refine ent_drop ?_))⟩
    repeat (first | refine ZT ?_ | refine Zp pv_move ?_ | refine Zp pv_cmp ?_ | refine Zp pv_pickF ?_)
    refine XO_either (hT := fun h => ?_) (hF := fun h => ?_) <;> simp only [decide_eq_true_eq, decide_eq_false_iff_not] at h
    · repeat (first | refine ZF ?_ | refine Zp pv_move ?_ | refine Zp pv_pickT ?_ | refine XO_nil ?_ | refine XE_code ?_)
      refine X_cond rfl (fun _ => ?_) (fun h => by cases h)
      repeat (first | refine Zp pv_assign ?_ | refine X_seq ?_ | refine X_region ?_ | refine X_ret ?_ | refine XO_nil ?_ | refine XE_code ?_ | refine XE_code_ret ?_)
      refine XE_ret (.inl rfl) (tells_tmps rfl rfl) ⟨_, ⟨rfl, rfl⟩, by ((try simp only [List.cons_append, List.nil_append]); repeat (first | exact ent_refl | refine ent_take (by repeat (first | exact Find.here | apply Find.there)) ?_ | refine ent_drop ?_))⟩
    repeat (first | refine ZT ?_ | refine Zp pv_move ?_ | refine Zp pv_cmp ?_ | refine Zp pv_pickF ?_)
    refine XO_either (hT := fun h => ?_) (hF := fun h => ?_) <;> simp only [decide_eq_true_eq, decide_eq_false_iff_not] at h
    · repeat (first | refine ZF ?_ | refine Zp pv_move ?_ | refine Zp pv_pickT ?_ | refine XO_nil ?_ | refine XE_code ?_)
      refine X_cond rfl (fun _ => ?_) (fun h => by cases h)
      repeat (first | refine Zp pv_assign ?_ | refine X_seq ?_ | refine X_region ?_ | refine X_ret ?_ | refine XO_nil ?_ | refine XE_code ?_ | refine XE_code_ret ?_)
      refine XE_ret (.inl rfl) (tells_tmps rfl rfl) ⟨_, ⟨rfl, rfl⟩, by ((try simp only [List.cons_append, List.nil_append]); repeat (first | exact ent_refl | refine ent_take (by repeat (first | exact Find.here | apply Find.there)) ?_ | refine ent_drop ?_))⟩
    repeat (first | refine ZT ?_ | refine Zp pv_move ?_ | refine Zp pv_cmp ?_ | refine Zp pv_arith ?_ | refine Zp pv_pickF ?_)
    refine XO_known true (hb := decide_eq_true (by omega)) (hk := ?_)
    repeat (first | refine ZF ?_ | refine Zp pv_pickT ?_ | refine XO_nil ?_ | refine XE_code ?_)
    refine X_cond rfl (fun _ => ?_) (fun h => by cases h)
    repeat (first | refine Zp pv_assign ?_ | refine X_seq ?_ | refine X_region ?_ | refine X_ret ?_ | refine XO_nil ?_ | refine XE_code ?_ | refine XE_code_ret ?_)
    refine XE_ret (.inl rfl) (tells_tmps rfl rfl) ⟨_, ⟨rfl, rfl⟩, by ((try simp only [List.cons_append, List.nil_append]); repeat (first | exact ent_refl | refine ent_take (by repeat (first | exact Find.here | apply Find.there)) ?_ | refine ent_drop ?_))⟩
  refine XO_known false (hb := decide_eq_false (by omega)) (hk := ?_)
  repeat (first | refine ZT ?_ | refine Zp pv_move ?_ | refine Zp pv_cmp ?_ | refine Zp pv_pickF ?_)
  refine XO_known false (hb := decide_eq_false (by omega)) (hk := ?_)
  repeat (first | refine ZT ?_ | refine Zp pv_move ?_ | refine Zp pv_cmp ?_ | refine Zp pv_pickF ?_)
  refine XO_known false (hb := decide_eq_false (by omega)) (hk := ?_)
  repeat (first | refine ZT ?_ | refine Zp pv_move ?_ | refine Zp pv_cmp ?_ | refine Zp pv_arith ?_ | refine Zp pv_pickF ?_)
  refine XO_known false (hb := decide_eq_false (by omega)) (hk := ?_)
  repeat (first | refine ZT ?_ | refine Zp pv_move ?_)
  refine XO_call (has_spec A a c xs page n hV (by omega) (by omega) (by omega) hB) (hk := ?_)
  rintro _ _ ⟨rfl, rfl⟩
  repeat (first | refine Zp pv_pickF ?_ | refine XO_nil ?_ | refine XE_code ?_)
  refine X_cond rfl (fun h => ?_) (fun h => ?_)
  · have hg : giveI xs pages page n = none := by
      unfold giveI
      rw [if_pos (.inr (.inr (.inr (.inr h))))]
    rw [hg]
    repeat (first | refine Zp pv_assign ?_ | refine X_seq ?_ | refine X_region ?_ | refine X_ret ?_ | refine XO_nil ?_ | refine XE_code ?_ | refine XE_code_ret ?_)
    refine XE_ret (.inl rfl) (tells_tmps rfl rfl) ⟨_, ⟨rfl, rfl⟩, by ((try simp only [List.cons_append, List.nil_append]); repeat (first | exact ent_refl | refine ent_take (by repeat (first | exact Find.here | apply Find.there)) ?_ | refine ent_drop ?_))⟩
  have hg : giveI xs pages page n = some (giveL xs page n) := by
    unfold giveI
    rw [if_neg]
    rintro (h' | h' | h' | h' | h') <;> first | omega | (rw [h] at h'; cases h')
  rw [hg]
  have hai : afterI xs page ≤ xs.length := List.findIdx_le_length
  repeat (first | refine Zp pv_move ?_ | refine X_seq ?_ | refine X_region ?_ | refine X_skip ?_ | refine XE_code ?_)
  refine XO_call (after_spec A a c xs page hV (by omega) hB) (hk := ?_)
  rintro _ _ ⟨rfl, rfl⟩
  unfold giveL
  generalize afterI xs page = i0 at hai ⊢
  repeat (first | refine Zp pv_move ?_ | refine Zp pv_assign ?_ | refine Zp pv_sliceH ?_ | refine X_seq ?_ | refine X_region ?_ | refine XO_nil ?_ | refine XE_code ?_)
  refine XO_conv (fun _ => SL_nilSl eRun) ?_
  refine XO_dv (dv_append (E' := eRun) (xs := []) (ys := xs.take i0) (A := A) (a := none) (a2 := a) (c := 0) (c2 := c) (hy := by rw [List.length_take, Nat.min_eq_left hai]; rfl) (hv := View.take i0 hV) (hb := by simp; omega)) (hk := ?_)
  rintro _ _ ⟨a1, c1, rfl, rfl⟩
  rw [List.nil_append]
  repeat (first | refine Zp pv_move ?_ | refine Zp pv_assign ?_ | refine Zp pv_build ?_ | refine X_seq ?_ | refine X_region ?_ | refine XO_nil ?_ | refine XE_code ?_)
  (refine XO_dv dv_alloc (hk := ?_); rintro _ _ ⟨cb, rfl, rfl⟩; (repeat (fail)); refine XO_dv0 dv_storeW (hk := ?_); rintro _ _ rfl; (repeat (first | refine X_seq ?_ | refine X_block ?_ | refine XO_nil ?_ | refine XE_code ?_)))
  refine X_loop (ι := Nat × Int × Int) (fun q => i0 ≤ q.1 ∧ q.1 ≤ xs.length ∧ mergeI (page, n) (xs.drop i0) = mergeI q.2 (xs.drop q.1) ∧ 0 ≤ q.2.1 ∧ q.2.1 ≤ 1048576 ∧ 0 ≤ q.2.2 ∧ q.2.2 ≤ 1048576 * (q.1 + 1 : Int))
    (fun q => [(0, .slice a xs.length c), (10, .int .i64 (q.1 : Int)), (12, .pointer (some ⟨cb, 0, none⟩)), (11, .slice a1 (xs.take i0).length c1)])
    (fun q => pt cb (.cells [.int .i64 q.2.1, .int .i64 q.2.2].toArray 39 (0, 0)) :: Sl eRun a1 c1 (xs.take i0) :: A :: F) (fun q => xs.length - q.1) (i0, (page, n)) ⟨Nat.le_refl _, hai, rfl, by show 0 ≤ page; omega, by show page ≤ _; omega, by show 0 ≤ n; omega, by show n ≤ 1048576 * ((i0 : Int) + 1); omega⟩ ?_ (by ((try simp only [List.cons_append, List.nil_append]); repeat (first | exact ent_refl | refine ent_take (by repeat (first | exact Find.here | apply Find.there)) ?_ | refine ent_drop ?_))) ?_
  · (repeat (first | exact Env.sub_nil _ | refine Env.sub_cons rfl ?_))
  rintro ⟨i, r1, r2⟩ ⟨hi0, hil, hm, hr0, hr1, hr2, hr3⟩
  dsimp only at hi0 hil hm hr0 hr1 hr2 hr3 ⊢
  repeat (first | refine X_seq ?_)
  repeat (first | refine Dp pv_move ?_ | refine Dp pv_cmp ?_ | refine Dp pv_len_slice ?_ | refine XD_pick (h := ?_) | refine X_draws (h := ?_))
  refine XDi_either (hT := fun h => ?_) (hF := fun h => ?_) <;> simp only [decide_eq_true_eq, decide_eq_false_iff_not] at h
  · have hlt : i < xs.length := by omega
    obtain ⟨g1, g2, g3⟩ := hB xs[i] (List.getElem_mem hlt)
    have hdr : xs.drop i = xs[i] :: xs.drop (i + 1) := List.drop_eq_getElem_cons hlt
    refine XDi_view hV (by omega) ?_
    rintro b o rfl
    repeat (first | refine Dp pv_move ?_ | refine Dp pv_field ?_ | refine Dp pv_index ?_ | refine XD_pick (h := ?_))
    refine XDi_rvA (rv_velf (i := i) (f := 0) (hV := hV)) (h := ?_)
    repeat (first | refine Dr rv_loadW ?_ | refine XD_pick (h := ?_))
    refine XD_one (h := ?_)
    refine XDa_dvA (dv_call (end_spec r1 r2 hr0 hr2 (by omega))) (hk := ?_)
    rintro _ _ ⟨_, ⟨rfl, rfl⟩, rfl⟩
    refine ⟨?_, ?_⟩
    · repeat (first | exact keeps_fnil | refine keeps_skip (h := ?_) | refine keeps_takeA (hv := by first | exact rv_load | exact rv_loadW | exact rv_velf (i := i) (f := 0) (hV := hV)) (h := ?_))
    repeat (first | refine Dp pv_cmp ?_ | refine Dp pv_pickT ?_ | refine XD_pick (h := ?_))
    (refine XD_end (h := ?_); repeat (first | refine XE_code ?_))
    refine X_cond rfl (fun h2 => ?_) (fun h2 => ?_) <;> simp only [decide_eq_true_eq, decide_eq_false_iff_not] at h2
    · have hm2 : mergeI (r1, r2) (xs.drop i) = mergeI (min xs[i].1 r1, xs[i].2 + r2) (xs.drop (i + 1)) := by
        rw [hdr, mergeI, if_pos h2]
      repeat (first | refine X_seq ?_ | refine X_block ?_ | refine X_skip ?_ | refine XE_code ?_)
      repeat (first | refine Dp pv_move ?_ | refine Dp pv_field ?_ | refine Dp pv_index ?_ | refine XD_pick (h := ?_) | refine X_draws (h := ?_))
      refine XDi_rvA (rv_velf (i := i) (f := 0) (hV := hV)) (h := ?_)
      repeat (first | refine Dp pv_move ?_ | refine Dp pv_field ?_ | refine Dp pv_index ?_ | refine Dp pv_min ?_ | refine Dr rv_load ?_ | refine XD_pick (h := ?_))
      refine XDi_rvA (rv_velf (i := i) (f := 1) (hV := hV)) (h := ?_)
      repeat (first | refine Dp pv_field ?_ | refine Dp pv_arith ?_ | refine Dp pv_build ?_ | refine Dr rv_load ?_ | refine XD_pick (h := ?_))
      refine XD_one (h := ?_)
      refine XDa_dvk0 dv_storeW (K := _) (hk := ?_)
      rintro _ _ rfl
      refine ⟨by (repeat (first | exact keeps_nil | exact keeps_fnil | refine keeps_skip (h := ?_) | refine keeps_takeA (hv := by first | exact rv_load | exact rv_loadW | exact rv_loadS) (h := ?_))), ?_⟩
      (refine XD_end (h := ?_); repeat (first | refine Zp pv_move ?_ | refine Zp pv_assign ?_ | refine Zp pv_arith ?_ | refine X_region ?_ | refine XO_nil ?_ | refine XE_code ?_ | refine XE_block ?_))
      refine X_round (i + 1, (min xs[i].1 r1, xs[i].2 + r2)) ⟨by show i0 ≤ i + 1; omega, by show i + 1 ≤ _; omega, by show _ = mergeI _ _; rw [hm, hm2], by show 0 ≤ min _ _; omega, by show min _ _ ≤ _; omega, by show 0 ≤ _ + _; omega, by show _ + _ ≤ 1048576 * (((i + 1 : Nat) : Int) + 1); push_cast; omega⟩ (by show xs.length - (i + 1) < xs.length - i; omega) (by (repeat (first | exact Env.sub_nil _ | refine Env.sub_cons rfl ?_))) (by ((try simp only [List.cons_append, List.nil_append]); repeat (first | exact ent_refl | refine ent_take (by repeat (first | exact Find.here | apply Find.there)) ?_ | refine ent_drop ?_)))
    · have hm2 : mergeI (r1, r2) (xs.drop i) = ((r1, r2), xs.drop i) := by
        rw [hdr, mergeI, if_neg h2]
      rw [hm, hm2]
      dsimp only
      repeat (first | refine X_seq ?_ | refine X_exit ?_ | refine XE_code ?_ | refine XE_code_exit ?_ | refine XE_block_exit ?_ | refine XE_pred_exit ?_)
      repeat (first | refine Dp pv_move ?_ | refine Dp pv_sliceL ?_ | refine Dr rv_loadW ?_ | refine XD_pick (h := ?_) | refine X_draws (h := ?_))
      refine XD_one (h := ?_)
      refine XDa_dvA (dv_lit (E' := eRun) [(r1, r2)]) (hk := ?_)
      rintro _ _ ⟨lb, rfl, rfl⟩
      refine ⟨by (repeat (first | exact keeps_nil | exact keeps_fnil | refine keeps_skip (h := ?_) | refine keeps_takeA (hv := by first | exact rv_load | exact rv_loadW | exact rv_loadS) (h := ?_))), ?_⟩
      repeat (fail)
      refine XD_one (h := ?_)
      refine XDa_dvA (dv_append (E' := eRun) (xs := xs.take i0) (ys := [(r1, r2)]) (A := Sl eRun (some ⟨lb, 0, none⟩) 1 [(r1, r2)]) (a := a1) (a2 := some ⟨lb, 0, none⟩) (c := c1) (c2 := 1) (hv := Sl.view) (hb := by simp; omega)) (hk := ?_)
      rintro _ _ ⟨a2, c2, rfl, rfl⟩
      refine ⟨by (repeat (first | exact keeps_nil | exact keeps_fnil | refine keeps_skip (h := ?_) | refine keeps_takeA (hv := by first | exact rv_load | exact rv_loadW | exact rv_loadS) (h := ?_))), ?_⟩
      repeat (fail)
      refine XD_one (h := ?_)
      refine XDa_dvA (dv_append (E' := eRun) (xs := xs.take i0 ++ [(r1, r2)]) (ys := xs.drop i) (A := A) (a := a2) (c := c2) (c2 := c - i) (hy := by rw [List.length_drop]; rfl) (hv := View.drop i rfl hc hV) (hb := by simp; omega)) (hk := ?_)
      rintro _ _ ⟨a3, c3, rfl, rfl⟩
      refine ⟨by (repeat (first | exact keeps_nil | exact keeps_fnil | refine keeps_skip (h := ?_) | refine keeps_takeA (hv := by first | exact rv_load | exact rv_loadW | exact rv_loadS) (h := ?_))), ?_⟩
      rw [show xs.take i0 ++ [(r1, r2)] ++ xs.drop i = xs.take i0 ++ (r1, r2) :: xs.drop i from by simp]
      repeat (fail)
      (refine XD_one (h := ?_); refine XDa_dvA (dv_of_rv (rv_of_pv pv_assign)) (hk := ?_); rintro _ _ ⟨rfl, rfl⟩; refine ⟨by (repeat (first | exact keeps_nil | exact keeps_fnil | refine keeps_skip (h := ?_) | refine keeps_takeA (hv := by first | exact rv_load | exact rv_loadW | exact rv_loadS) (h := ?_))), ?_⟩)
      (refine XD_one (h := ?_); refine XDa_dvA (dv_of_rv (rv_of_pv pv_assign)) (hk := ?_); rintro _ _ ⟨rfl, rfl⟩; refine ⟨by (repeat (first | exact keeps_nil | exact keeps_fnil | refine keeps_skip (h := ?_) | refine keeps_takeA (hv := by first | exact rv_load | exact rv_loadW | exact rv_loadS) (h := ?_))), ?_⟩)
      (refine XD_end (h := ?_); repeat (first | refine X_ret ?_ | refine XE_code ?_))
      refine XE_ret (.inl rfl) (tells_tmps rfl rfl) ⟨_, ⟨a3, c3, rfl, rfl⟩, by ((try simp only [List.cons_append, List.nil_append]); repeat (first | exact ent_refl | refine ent_take (by repeat (first | exact Find.here | apply Find.there)) ?_ | refine ent_drop ?_))⟩
  · obtain rfl : i = xs.length := by omega
    have hm2 : mergeI (r1, r2) (xs.drop xs.length) = ((r1, r2), xs.drop xs.length) := by
      rw [List.drop_length, mergeI]
    repeat (first | refine XDi_gF (h := ?_) | refine XD_pick (h := ?_))
    (refine XD_head (h := ?_); first | refine XDi_gF (h := ?_) | refine XDi_gU (h := ?_))
    repeat (first | refine Dp pv_pickF ?_ | refine XDi_gF (h := ?_) | refine XD_pick (h := ?_))
    (refine XD_end (h := ?_); repeat (first | refine XE_code ?_))
    refine X_cond rfl (fun h => by cases h) (fun _ => ?_)
    rw [hm, hm2]
    dsimp only
    repeat (first | refine X_seq ?_ | refine X_exit ?_ | refine XE_code ?_ | refine XE_code_exit ?_ | refine XE_block_exit ?_ | refine XE_pred_exit ?_)
    repeat (first | refine Dp pv_move ?_ | refine Dp pv_sliceL ?_ | refine Dr rv_loadW ?_ | refine XD_pick (h := ?_) | refine X_draws (h := ?_))
    refine XD_one (h := ?_)
    refine XDa_dvA (dv_lit (E' := eRun) [(r1, r2)]) (hk := ?_)
    rintro _ _ ⟨lb, rfl, rfl⟩
    refine ⟨by (repeat (first | exact keeps_nil | exact keeps_fnil | refine keeps_skip (h := ?_) | refine keeps_takeA (hv := by first | exact rv_load | exact rv_loadW | exact rv_loadS) (h := ?_))), ?_⟩
    repeat (fail)
    refine XD_one (h := ?_)
    refine XDa_dvA (dv_append (E' := eRun) (xs := xs.take i0) (ys := [(r1, r2)]) (A := Sl eRun (some ⟨lb, 0, none⟩) 1 [(r1, r2)]) (a := a1) (a2 := some ⟨lb, 0, none⟩) (c := c1) (c2 := 1) (hv := Sl.view) (hb := by simp; omega)) (hk := ?_)
    rintro _ _ ⟨a2, c2, rfl, rfl⟩
    refine ⟨by (repeat (first | exact keeps_nil | exact keeps_fnil | refine keeps_skip (h := ?_) | refine keeps_takeA (hv := by first | exact rv_load | exact rv_loadW | exact rv_loadS) (h := ?_))), ?_⟩
    repeat (fail)
    refine XD_one (h := ?_)
    refine XDa_dvA (dv_append (E' := eRun) (xs := xs.take i0 ++ [(r1, r2)]) (ys := xs.drop xs.length) (A := A) (a := a2) (c := c2) (c2 := c - xs.length) (hy := by rw [List.length_drop]; rfl) (hv := View.drop xs.length rfl hc hV) (hb := by simp; omega)) (hk := ?_)
    rintro _ _ ⟨a3, c3, rfl, rfl⟩
    refine ⟨by (repeat (first | exact keeps_nil | exact keeps_fnil | refine keeps_skip (h := ?_) | refine keeps_takeA (hv := by first | exact rv_load | exact rv_loadW | exact rv_loadS) (h := ?_))), ?_⟩
    rw [show xs.take i0 ++ [(r1, r2)] ++ xs.drop xs.length = xs.take i0 ++ (r1, r2) :: xs.drop xs.length from by simp]
    repeat (fail)
    (refine XD_one (h := ?_); refine XDa_dvA (dv_of_rv (rv_of_pv pv_assign)) (hk := ?_); rintro _ _ ⟨rfl, rfl⟩; refine ⟨by (repeat (first | exact keeps_nil | exact keeps_fnil | refine keeps_skip (h := ?_) | refine keeps_takeA (hv := by first | exact rv_load | exact rv_loadW | exact rv_loadS) (h := ?_))), ?_⟩)
    (refine XD_one (h := ?_); refine XDa_dvA (dv_of_rv (rv_of_pv pv_assign)) (hk := ?_); rintro _ _ ⟨rfl, rfl⟩; refine ⟨by (repeat (first | exact keeps_nil | exact keeps_fnil | refine keeps_skip (h := ?_) | refine keeps_takeA (hv := by first | exact rv_load | exact rv_loadW | exact rv_loadS) (h := ?_))), ?_⟩)
    (refine XD_end (h := ?_); repeat (first | refine X_ret ?_ | refine XE_code ?_))
    refine XE_ret (.inl rfl) (tells_tmps rfl rfl) ⟨_, ⟨a3, c3, rfl, rfl⟩, by ((try simp only [List.cons_append, List.nil_append]); repeat (first | exact ent_refl | refine ent_take (by repeat (first | exact Find.here | apply Find.there)) ?_ | refine ent_drop ?_))⟩
end Go.Proofs.Yteobjankkcdaoaa.Sep
