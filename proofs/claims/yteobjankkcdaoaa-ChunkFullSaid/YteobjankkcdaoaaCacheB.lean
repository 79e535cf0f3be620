import Derived.Test.YteobjankkcdaoaaCache
namespace Go.Proofs.Yteobjankkcdaoaa.Sep
open Go.RowKit
set_option linter.unusedSimpArgs false
set_option linter.unusedVariables false
set_option maxHeartbeats 8000000
attribute [local irreducible] X XE XO XD XDi XDa PV RV DV pt base Spec Sl Mp Keeps Kc

theorem Kc.bound {b : Nat} {ks : Nat → List Int} : ∀ H, Kc b ks H → ∀ k, k < 7 → (ks k).length ≤ 4 := by
  intro H h
  unfold Kc at h
  obtain ⟨fl, h, _⟩ := h
  exact fun k hk => (h.2 k hk).1
theorem cpages_le (k : Nat) (h : k < 7) : 1 ≤ cpages k ∧ cpages k ≤ 64 := by
  have : k = 0 ∨ k = 1 ∨ k = 2 ∨ k = 3 ∨ k = 4 ∨ k = 5 ∨ k = 6 := by omega
  rcases this with rfl | rfl | rfl | rfl | rfl | rfl | rfl <;> decide
theorem kmul_le {n : Nat} {k : Nat} (h : k < 7) (hn : n ≤ 4) : 0 ≤ (n : Int) * cpages k ∧ (n : Int) * cpages k ≤ 256 := by
  obtain ⟨h1, h2⟩ := cpages_le k h
  refine ⟨Int.mul_nonneg (by omega) (by omega), ?_⟩
  have := Int.mul_le_mul (show (n : Int) ≤ 4 by omega) h2 (by omega) (by decide)
  omega
theorem kpages_le {ks : Nat → List Int} (hb : ∀ k, k < 7 → (ks k).length ≤ 4) : ∀ k, k ≤ 7 → 0 ≤ kpages ks k ∧ kpages ks k ≤ 256 * k
  | 0, _ => by simp [kpages]
  | k + 1, h => by
    have h1 := kpages_le hb k (by omega)
    have h2 := kmul_le (n := (ks k).length) (show k < 7 by omega) (hb k (by omega))
    simp only [kpages]
    push_cast
    omega
theorem kall_le {ks : Nat → List Int} (hb : ∀ k, k < 7 → (ks k).length ≤ 4) : ∀ k, k ≤ 7 → (kall ks k).length ≤ 4 * k
  | 0, _ => by simp [kall]
  | k + 1, h => by
    have h1 := kall_le hb k (by omega)
    have h2 := hb k (by omega)
    simp only [kall, List.length_append, List.length_map]
    omega
theorem cclear_spec (b : Nat) (ks : Nat → List Int) : Spec Try.prog 32 [.pointer (some ⟨b, 0, none⟩)] [Kc b ks] (fun v L => v = .tuple #[] ∧ L = [Kc b (fun _ => [])]) := by
  refine Spec.intro (IsEnt.out) Try.func32 rfl Try.ntmps32 (by simp) (fun w0 F => ?_)
  simp only [envOf, List.zipIdx, List.map, List.cons_append, List.nil_append, Nat.zero_add, Nat.reduceAdd]
  repeat (first | refine Zp pv_move ?_ | refine Zp pv_nenil ?_ | refine X_seq ?_ | refine X_region ?_ | refine XO_nil ?_ | refine XE_code ?_)
  refine X_cond rfl (fun _ => ?_) (fun h => by cases h)
  refine X_open .here Kc.open ?_
  rintro fl ⟨hl, hk⟩
  dsimp only [List.cons_append, List.nil_append]
  repeat (first | refine Zp pv_move ?_ | refine Zp pv_nil_ptr ?_ | refine Zp pv_build0 ?_ | refine X_region ?_)
  refine XO_dv0 (dv_putAll (E' := eI .i64) (ys := List.replicate 35 0) (hl := by simp [hl])) (hk := ?_)
  rintro _ _ rfl
  repeat (first | refine XO_nil ?_)
  refine XE_ret (.inr rfl) (tells_tmps rfl rfl) ⟨_, ⟨rfl, rfl⟩, ?_⟩
  refine ent_fold (by repeat (first | exact FindAll.nil | exact Find.here | apply Find.there | apply FindAll.cons)) (Kc.fold KcRel.none) ?_
  ((try simp only [List.cons_append, List.nil_append]); repeat (first | exact ent_refl | refine ent_take (by repeat (first | exact Find.here | apply Find.there)) ?_ | refine ent_drop ?_))
theorem kc_list {fl : List Int} {ks : Nat → List Int} {k : Nat} (h : KcRel fl ks) (hk : k < 7) : ((fl.drop (k * 5)).take 4).take (ks k).length = ks k := by
  obtain ⟨hl, h⟩ := h
  obtain ⟨h1, h2, h3⟩ := h k hk
  apply List.ext_getElem?
  intro j
  rw [List.take_take, Nat.min_eq_left h1]
  by_cases hj : j < (ks k).length
  · rw [List.getElem?_take_of_lt hj, List.getElem?_drop]
    have := h3 j hj
    have hlt : k * 5 + j < fl.length := by omega
    simp only [List.getD, List.getElem?_eq_getElem hj, List.getElem?_eq_getElem hlt, Option.getD_some] at this
    rw [List.getElem?_eq_getElem hj, List.getElem?_eq_getElem hlt, this]
  · rw [List.getElem?_eq_none (by simp; omega), List.getElem?_eq_none (by omega)]
theorem call_spec (b : Nat) (ks : Nat → List Int) : Spec Try.prog 31 [.pointer (some ⟨b, 0, none⟩)] [Kc b ks] (fun v L => ∃ a c, v = .slice a (kall ks 7).length c ∧ L = [Kc b ks, Sl eRun a c (kall ks 7)]) := by
  refine Spec.intro (IsEnt.out) Try.func31 rfl Try.ntmps31 (by simp) (fun w0 F => ?_)
  simp only [envOf, List.zipIdx, List.map, List.cons_append, List.nil_append, Nat.zero_add, Nat.reduceAdd]
  refine X_fact (A := Kc b ks) .here Kc.bound (fun hb => ?_)
  refine X_conv (fun _ => SL_nilSl eRun) ?_
  repeat (first | refine Zp pv_move ?_ | refine Zp pv_assign ?_ | refine X_seq ?_ | refine X_region ?_ | refine X_block ?_ | refine XO_nil ?_ | refine XE_code ?_)
  refine X_loop (ι := Nat × Option Addr × Nat) (fun q => q.1 ≤ 7) (fun q => [(0, .pointer (some ⟨b, 0, none⟩)), (8, .int .i64 (q.1 : Int)), (3, .slice q.2.1 (kall ks q.1).length q.2.2)]) (fun q => Kc b ks :: Sl eRun q.2.1 q.2.2 (kall ks q.1) :: F) (fun q => 7 - q.1) (0, none, 0) (Nat.zero_le _) ?_ (by ((try simp only [List.cons_append, List.nil_append]); repeat (first | exact ent_refl | refine ent_take (by repeat (first | exact Find.here | apply Find.there)) ?_ | refine ent_drop ?_))) ?_
  · (repeat (first | exact Env.sub_nil _ | refine Env.sub_cons rfl ?_))
  rintro ⟨k, a, c⟩ hk
  dsimp only at hk ⊢
  repeat (first | refine Zp pv_cmp ?_ | refine X_seq ?_ | refine X_region ?_ | refine XO_nil ?_ | refine XE_code ?_)
  refine X_cond rfl (fun hc => ?_) (fun hc => ?_) <;> simp only [decide_eq_true_eq, decide_eq_false_iff_not] at hc
  · have hk7 : k < 7 := by omega
    have hbk := hb k hk7
    have hkl := kall_le hb k hk
    repeat (first | refine Zp pv_move ?_ | refine Zp pv_assign ?_ | refine X_seq ?_ | refine X_region ?_ | refine X_block ?_ | refine X_skip ?_ | refine XO_nil ?_ | refine XE_code ?_)
    refine XO_call (clen_spec b ks k (by omega) (by omega)) (hk := ?_)
    rintro _ _ ⟨rfl, rfl⟩
    simp only [Int.toNat_natCast]
    repeat (fail)
    refine XO_dv (dv_makeSlice (E' := eI .i64) 0) (hk := ?_)
    rintro _ _ ⟨nb, rfl, rfl⟩
    simp only [Int.toNat_natCast]
    repeat (first | refine Zp pv_move ?_ | refine Zp pv_assign ?_ | refine Zp pv_cmp ?_ | refine Zp pv_len_slice ?_ | refine X_seq ?_ | refine X_region ?_ | refine XO_nil ?_ | refine XE_code ?_)
    refine X_join (ι := Unit) (fun _ => True) (fun _ => [(0, .pointer (some ⟨b, 0, none⟩)), (8, .int .i64 (k : Int)), (4, .int .i64 (k : Int)), (3, .slice a (kall ks k).length c), (5, .slice (some ⟨nb, 0, none⟩) (ks k).length (ks k).length)]) (fun _ => Kc b ks :: Sl eRun a c (kall ks k) :: Sl (eI .i64) (some ⟨nb, 0, none⟩) (ks k).length (ks k) :: F) ?_ ?_
    · refine X_cond rfl (fun h => ?_) (fun h => ?_) <;> simp only [decide_eq_true_eq, decide_eq_false_iff_not] at h
      · refine X_open (by (repeat (first | exact Find.here | apply Find.there))) Kc.open ?_
        rintro fl hrel
        dsimp only [List.cons_append, List.nil_append]
        have hli := kc_list hrel hk7
        have hV : View (Sl (eI .i64) (some ⟨b, 0, none⟩) 35 fl) (eI .i64) (some ⟨b, k * 5, none⟩) (ks k) := by
          rw [← hli]; exact View.take _ (View.take _ (view_at (k * 5) Sl.view))
        obtain ⟨zs, hz, hzl⟩ : ∃ zs, zs = List.replicate (ks k).length (0 : Int) ∧ zs.length = (ks k).length := ⟨_, rfl, by simp⟩
        rw [← hz]
        repeat (first | refine Zp pv_move ?_ | refine Zp pv_nil_ptr ?_ | refine Zp pv_field ?_ | refine Zp pv_indexArr ?_ | refine Zp pv_sliceArr ?_ | refine X_region ?_)
        refine XO_dv (dv_copy (E' := eI .i64) (ys := ks k) (xs := zs) (m := 4) (a2 := some ⟨b, k * 5, none⟩) (A := Sl (eI .i64) (some ⟨b, 0, none⟩) 35 fl) (hx := by rw [hzl]; rfl) (hv := hV) (hn := by rw [hzl]; omega)) (hk := ?_)
        rintro _ _ ⟨rfl, rfl⟩
        rw [show ks k ++ zs.drop (ks k).length = ks k from by rw [List.drop_of_length_le (by omega), List.append_nil]]
        repeat (first | refine XO_nil ?_)
        refine X_meet () trivial (by (repeat (first | exact Env.sub_nil _ | refine Env.sub_cons rfl ?_))) ?_
        (try simp only [List.cons_append, List.nil_append])
        refine ent_fold (by repeat (first | exact FindAll.nil | exact Find.here | apply Find.there | apply FindAll.cons)) (Kc.fold hrel) ?_
        ((try simp only [List.cons_append, List.nil_append]); repeat (first | exact ent_refl | refine ent_take (by repeat (first | exact Find.here | apply Find.there)) ?_ | refine ent_drop ?_))
      · have h0 : ks k = [] := List.length_eq_zero_iff.1 (by omega)
        repeat (first | refine X_skip ?_)
        refine X_meet () trivial (by (repeat (first | exact Env.sub_nil _ | refine Env.sub_cons rfl ?_))) ?_
        rw [h0]
        ((try simp only [List.cons_append, List.nil_append]); repeat (first | exact ent_refl | refine ent_take (by repeat (first | exact Find.here | apply Find.there)) ?_ | refine ent_drop ?_))
    · rintro - -
      repeat (first | refine Zp pv_move ?_ | refine Zp pv_len_slice ?_ | refine X_seq ?_ | refine X_region ?_ | refine X_block ?_ | refine XO_nil ?_ | refine XE_code ?_)
      refine X_loop (ι := Nat × Option Addr × Nat) (fun q => q.1 ≤ (ks k).length) (fun q => [(0, .pointer (some ⟨b, 0, none⟩)), (8, .int .i64 (k : Int)), (4, .int .i64 (k : Int)), (27, .slice (some ⟨nb, 0, none⟩) (ks k).length (ks k).length), (28, .int .i64 ((ks k).length : Int)), (29, .int .i64 (q.1 : Int)), (3, .slice q.2.1 (kall ks k ++ ((ks k).take q.1).map fun p => (p, cpages k)).length q.2.2)])
        (fun q => Kc b ks :: Sl eRun q.2.1 q.2.2 (kall ks k ++ ((ks k).take q.1).map fun p => (p, cpages k)) :: Sl (eI .i64) (some ⟨nb, 0, none⟩) (ks k).length (ks k) :: F) (fun q => (ks k).length - q.1) (0, a, c) (Nat.zero_le _) ?_ ?_ ?_
      · simp only [List.take_zero, List.map_nil, List.append_nil]; (repeat (first | exact Env.sub_nil _ | refine Env.sub_cons rfl ?_))
      · simp only [List.take_zero, List.map_nil, List.append_nil]; ((try simp only [List.cons_append, List.nil_append]); repeat (first | exact ent_refl | refine ent_take (by repeat (first | exact Find.here | apply Find.there)) ?_ | refine ent_drop ?_))
      rintro ⟨j, a2, c2⟩ hj
      dsimp only at hj ⊢
      repeat (first | refine Zp pv_cmp ?_ | refine X_seq ?_ | refine X_region ?_ | refine XO_nil ?_ | refine XE_code ?_)
      refine X_cond rfl (fun hc2 => ?_) (fun hc2 => ?_) <;> simp only [decide_eq_true_eq, decide_eq_false_iff_not] at hc2
      · have hjl : j < (ks k).length := by omega
        repeat (first | refine Zp pv_index ?_ | refine X_seq ?_ | refine X_region ?_ | refine X_block ?_ | refine X_skip ?_ | refine XE_code ?_)
        refine XO_rv (rv_elG (E' := eI .i64) (i := j) (s := 1) (x' := (ks k)[j]) (hget := by simp [hjl])) (hk := ?_)
        repeat (first | refine Zp pv_move ?_ | refine Zp pv_assign ?_ | refine X_region ?_ | refine XO_nil ?_ | refine XE_code ?_)
        refine XO_call (cpages_spec k) (hk := ?_)
        rintro _ _ ⟨rfl, rfl⟩
        repeat (first | refine Zp pv_build ?_)
        refine XO_dv (dv_lit (E' := eRun) [((ks k)[j], cpages k)]) (hk := ?_)
        rintro _ _ ⟨lb, rfl, rfl⟩
        repeat (fail)
        refine XO_dv (dv_append (E' := eRun) (xs := kall ks k ++ ((ks k).take j).map fun p => (p, cpages k)) (ys := [((ks k)[j], cpages k)]) (A := Sl eRun (some ⟨lb, 0, none⟩) 1 [((ks k)[j], cpages k)]) (a := a2) (a2 := some ⟨lb, 0, none⟩) (c := c2) (c2 := 1) (hv := Sl.view) (hb := by simp; omega)) (hk := ?_)
        rintro _ _ ⟨a3, c3, rfl, rfl⟩
        have hs : (kall ks k ++ ((ks k).take j).map fun p => (p, cpages k)) ++ [((ks k)[j], cpages k)] = kall ks k ++ ((ks k).take (j + 1)).map fun p => (p, cpages k) := by
          rw [List.take_succ_eq_append_getElem hjl, List.map_append, List.append_assoc]; rfl
        rw [hs]
        repeat (first | refine Zp pv_move ?_ | refine Zp pv_assign ?_ | refine Zp pv_arith ?_ | refine X_region ?_ | refine XO_nil ?_ | refine XE_code ?_ | refine XE_block ?_)
        refine X_round (j + 1, a3, c3) (by show j + 1 ≤ _; omega) (by show (ks k).length - (j + 1) < (ks k).length - j; omega) (by (repeat (first | exact Env.sub_nil _ | refine Env.sub_cons rfl ?_))) (by ((try simp only [List.cons_append, List.nil_append]); repeat (first | exact ent_refl | refine ent_take (by repeat (first | exact Find.here | apply Find.there)) ?_ | refine ent_drop ?_)))
      · obtain rfl : j = (ks k).length := by omega
        rw [List.take_length]
        repeat (first | refine Zp pv_move ?_ | refine Zp pv_arith ?_ | refine X_region ?_ | refine X_exit ?_ | refine XO_nil ?_ | refine XE_code ?_ | refine XE_block ?_ | refine XE_code_exit ?_ | refine XE_block_exit ?_ | refine XE_pred_exit ?_)
        refine X_round (k + 1, a2, c2) (by show k + 1 ≤ 7; omega) (by show 7 - (k + 1) < 7 - k; omega) (by (repeat (first | exact Env.sub_nil _ | refine Env.sub_cons rfl ?_))) (by ((try simp only [List.cons_append, List.nil_append]); repeat (first | exact ent_refl | refine ent_take (by repeat (first | exact Find.here | apply Find.there)) ?_ | refine ent_drop ?_)))
  · obtain rfl : k = 7 := by omega
    repeat (first | refine Zp pv_move ?_ | refine Zp pv_assign ?_ | refine X_seq ?_ | refine X_region ?_ | refine X_exit ?_ | refine X_ret ?_ | refine XO_nil ?_ | refine XE_code ?_ | refine XE_code_exit ?_ | refine XE_block_exit ?_ | refine XE_pred_exit ?_)
    refine XE_ret (.inl rfl) (tells_tmps rfl rfl) ⟨_, ⟨a, c, rfl, rfl⟩, by ((try simp only [List.cons_append, List.nil_append]); repeat (first | exact ent_refl | refine ent_take (by repeat (first | exact Find.here | apply Find.there)) ?_ | refine ent_drop ?_))⟩
end Go.Proofs.Yteobjankkcdaoaa.Sep
