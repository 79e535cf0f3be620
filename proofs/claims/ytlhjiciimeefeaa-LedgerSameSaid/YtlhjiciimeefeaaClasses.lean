import Derived.Test.YtlhjiciimeefeaaBits
namespace Go.Proofs.Ytlhjiciimeefeaa.Sep
open Go.RowKit
set_option linter.unusedSimpArgs false
set_option linter.unusedVariables false
set_option maxHeartbeats 8000000
attribute [local irreducible] X XE XO XD XDi XDa PV RV DV pt base Spec Sl Mp Keeps

def cpages (c : Int) : Int := if 0 ≤ c ∧ c < 7 then ((2 ^ c.toNat : Nat) : Int) else 0
def cclass (p : Int) : Int := if p < 1 then -1 else if p ≤ 1 then 0 else if p ≤ 2 then 1 else if p ≤ 4 then 2 else if p ≤ 8 then 3 else if p ≤ 16 then 4 else if p ≤ 32 then 5 else if p ≤ 64 then 6 else -1
theorem seven {c : Int} (h0 : 0 ≤ c) (h1 : c < 7) : c = 0 ∨ c = 1 ∨ c = 2 ∨ c = 3 ∨ c = 4 ∨ c = 5 ∨ c = 6 := by omega
theorem cpages_spec (c : Int) : Spec Try.prog 37 [.int .i64 c] [] (fun v L => v = .int .i64 (cpages c) ∧ L = []) := by
  refine Spec.intro (IsEnt.out) Try.func37 rfl Try.ntmps37 (by simp) (fun w0 F => ?_)
  simp only [envOf, List.zipIdx, List.map, List.cons_append, List.nil_append, Nat.zero_add, Nat.reduceAdd]
  repeat (first | refine Zp pv_move ?_ | refine Zp pv_assign ?_ | refine Zp pv_cmp ?_ | refine X_seq ?_ | refine X_region ?_ | refine XO_nil ?_ | refine XE_code ?_)
  refine XO_either (hT := fun h => ?_) (hF := fun h => ?_) <;> simp only [decide_eq_true_eq, decide_eq_false_iff_not] at h
  · repeat (first | refine ZF ?_ | refine Zp pv_pickT ?_ | refine XO_nil ?_ | refine XE_code ?_)
    refine X_cond rfl (fun _ => ?_) (fun h => by cases h)
    repeat (first | refine Zp pv_assign ?_ | refine X_seq ?_ | refine X_region ?_ | refine X_ret ?_ | refine XO_nil ?_ | refine XE_code ?_ | refine XE_code_ret ?_)
    unfold cpages
    rw [if_neg (by omega)]
    refine XE_ret (.inl rfl) (tells_tmps rfl rfl) ⟨_, ⟨rfl, rfl⟩, by ((try simp only [List.cons_append, List.nil_append]); repeat (first | exact ent_refl | refine ent_take (by repeat (first | exact Find.here | apply Find.there)) ?_ | refine ent_drop ?_))⟩
  · repeat (first | refine ZT ?_ | refine Zp pv_move ?_ | refine Zp pv_cmp ?_ | refine Zp pv_pickF ?_ | refine XO_nil ?_ | refine XE_code ?_)
    refine X_cond rfl (fun h2 => ?_) (fun h2 => ?_) <;> simp only [decide_eq_true_eq, decide_eq_false_iff_not] at h2
    · repeat (first | refine Zp pv_assign ?_ | refine X_seq ?_ | refine X_region ?_ | refine X_ret ?_ | refine XO_nil ?_ | refine XE_code ?_ | refine XE_code_ret ?_)
      unfold cpages
      rw [if_neg (by omega)]
      refine XE_ret (.inl rfl) (tells_tmps rfl rfl) ⟨_, ⟨rfl, rfl⟩, by ((try simp only [List.cons_append, List.nil_append]); repeat (first | exact ent_refl | refine ent_take (by repeat (first | exact Find.here | apply Find.there)) ?_ | refine ent_drop ?_))⟩
    · repeat (first | refine Zp pv_move ?_ | refine X_seq ?_ | refine X_region ?_ | refine X_skip ?_ | refine XE_code ?_)
      refine XO_pv (pv_shlN (b := c)) (hk := ?_)
      repeat (first | refine Zp pv_assign ?_ | refine X_ret ?_ | refine XO_nil ?_ | refine XE_code ?_)
      have e1 : IntKind.i64.wrap (1 * ((2 ^ min c.toNat IntKind.i64.bits : Nat) : Int)) = cpages c := by
        rcases seven (c := c) (by omega) (by omega) with rfl | rfl | rfl | rfl | rfl | rfl | rfl <;> rfl
      rw [e1]
      refine XE_ret (.inl rfl) (tells_tmps rfl rfl) ⟨_, ⟨rfl, rfl⟩, by ((try simp only [List.cons_append, List.nil_append]); repeat (first | exact ent_refl | refine ent_take (by repeat (first | exact Find.here | apply Find.there)) ?_ | refine ent_drop ?_))⟩
theorem cclass_spec (p : Int) : Spec Try.prog 38 [.int .i64 p] [] (fun v L => v = .int .i64 (cclass p) ∧ L = []) := by
  refine Spec.intro (IsEnt.out) Try.func38 rfl Try.ntmps38 (by simp) (fun w0 F => ?_)
  simp only [envOf, List.zipIdx, List.map, List.cons_append, List.nil_append, Nat.zero_add, Nat.reduceAdd]
  repeat (first | refine Zp pv_move ?_ | refine Zp pv_assign ?_ | refine X_seq ?_ | refine X_region ?_ | refine X_block ?_ | refine XO_nil ?_ | refine XE_code ?_)
  refine X_loop (ι := Nat) (fun k => k ≤ 7 ∧ ∀ j : Nat, j < k → ¬ (0 < p ∧ p ≤ cpages j)) (fun k => [(0, .int .i64 p), (4, .int .i64 k)]) (fun _ => F) (fun k => 7 - k) 0 ⟨Nat.zero_le _, fun j h => by omega⟩ ?_ (fun _ h => h) ?_
  · (repeat (first | exact Env.sub_nil _ | refine Env.sub_cons rfl ?_))
  rintro k ⟨hk, hj⟩
  dsimp only at hk hj ⊢
  repeat (first | refine Zp pv_cmp ?_ | refine X_seq ?_ | refine X_region ?_ | refine XO_nil ?_ | refine XE_code ?_)
  refine X_cond rfl (fun hc => ?_) (fun hc => ?_) <;> simp only [decide_eq_true_eq, decide_eq_false_iff_not] at hc
  · repeat (first | refine Zp pv_move ?_ | refine Zp pv_assign ?_ | refine Zp pv_cmp ?_ | refine X_seq ?_ | refine X_region ?_ | refine X_block ?_ | refine X_skip ?_ | refine XO_nil ?_ | refine XE_code ?_)
    refine XO_either (hT := fun h => ?_) (hF := fun h => ?_) <;> simp only [decide_eq_true_eq, decide_eq_false_iff_not] at h
    · repeat (first | refine ZT ?_ | refine Zp pv_move ?_)
      refine XO_call (cpages_spec k) (hk := ?_)
      rintro _ _ ⟨rfl, rfl⟩
      repeat (first | refine ZT ?_ | refine Zp pv_move ?_ | refine Zp pv_cmp ?_ | refine Zp pv_pickT ?_ | refine XO_nil ?_ | refine XE_code ?_)
      refine X_cond rfl (fun h2 => ?_) (fun h2 => ?_) <;> simp only [decide_eq_true_eq, decide_eq_false_iff_not] at h2
      · have hcl : cclass p = k := by
          have key : ∀ j : Nat, j < k → cpages j < p := fun j hjk => by have := hj j hjk; omega
          have hk7 : k < 7 := by omega
          have h7 : k = 0 ∨ k = 1 ∨ k = 2 ∨ k = 3 ∨ k = 4 ∨ k = 5 ∨ k = 6 := by omega
          rcases h7 with rfl | rfl | rfl | rfl | rfl | rfl | rfl
          · have h3 : p ≤ 1 := h2
            unfold cclass; split <;> omega
          · have h3 : p ≤ 2 := h2
            have h4 : (1 : Int) < p := key 0 (by decide)
            unfold cclass; repeat' split
            all_goals omega
          · have h3 : p ≤ 4 := h2
            have h4 : (2 : Int) < p := key 1 (by decide)
            unfold cclass; repeat' split
            all_goals omega
          · have h3 : p ≤ 8 := h2
            have h4 : (4 : Int) < p := key 2 (by decide)
            unfold cclass; repeat' split
            all_goals omega
          · have h3 : p ≤ 16 := h2
            have h4 : (8 : Int) < p := key 3 (by decide)
            unfold cclass; repeat' split
            all_goals omega
          · have h3 : p ≤ 32 := h2
            have h4 : (16 : Int) < p := key 4 (by decide)
            unfold cclass; repeat' split
            all_goals omega
          · have h3 : p ≤ 64 := h2
            have h4 : (32 : Int) < p := key 5 (by decide)
            unfold cclass; repeat' split
            all_goals omega
        repeat (first | refine Zp pv_move ?_ | refine Zp pv_assign ?_ | refine X_seq ?_ | refine X_region ?_ | refine X_ret ?_ | refine XO_nil ?_ | refine XE_code ?_ | refine XE_code_ret ?_ | refine XE_block_ret ?_ | refine XE_pred_ret ?_)
        rw [← hcl]
        refine XE_ret (.inl rfl) (tells_tmps rfl rfl) ⟨_, ⟨rfl, rfl⟩, by ((try simp only [List.cons_append, List.nil_append]); repeat (first | exact ent_refl | refine ent_take (by repeat (first | exact Find.here | apply Find.there)) ?_ | refine ent_drop ?_))⟩
      · repeat (first | refine Zp pv_move ?_ | refine Zp pv_arith ?_ | refine X_region ?_ | refine X_skip ?_ | refine XO_nil ?_ | refine XE_code ?_ | refine XE_block ?_)
        refine X_round (k + 1) ?_ ?_ ?_ (fun _ h => h)
        · refine ⟨by omega, fun j hjk => ?_⟩
          rcases Nat.lt_or_ge j k with hlt | hge
          · exact hj j hlt
          · obtain rfl : j = k := by omega
            exact fun h3 => h2 h3.2
        · show 7 - (k + 1) < 7 - k; omega
        · (repeat (first | exact Env.sub_nil _ | refine Env.sub_cons rfl ?_))
    · repeat (first | refine ZF ?_ | refine Zp pv_pickF ?_ | refine XO_nil ?_ | refine XE_code ?_)
      refine X_cond rfl (fun h => by cases h) (fun _ => ?_)
      repeat (first | refine Zp pv_move ?_ | refine Zp pv_arith ?_ | refine X_region ?_ | refine X_skip ?_ | refine XO_nil ?_ | refine XE_code ?_ | refine XE_block ?_)
      refine X_round (k + 1) ?_ ?_ ?_ (fun _ h => h)
      · refine ⟨by omega, fun j hjk h3 => h h3.1⟩
      · show 7 - (k + 1) < 7 - k; omega
      · (repeat (first | exact Env.sub_nil _ | refine Env.sub_cons rfl ?_))
  · obtain rfl : k = 7 := by omega
    have hcl : cclass p = -1 := by
      by_cases h0 : 0 < p
      · have h4 : (64 : Int) < p := by
          have := hj 6 (by decide)
          have e : cpages ((6 : Nat) : Int) = 64 := rfl
          rw [e] at this; omega
        unfold cclass; repeat' split
        all_goals omega
      · unfold cclass; rw [if_pos (by omega)]
    repeat (first | refine Zp pv_assign ?_ | refine X_seq ?_ | refine X_region ?_ | refine X_exit ?_ | refine X_ret ?_ | refine XO_nil ?_ | refine XE_code ?_ | refine XE_code_exit ?_ | refine XE_block_exit ?_ | refine XE_pred_exit ?_)
    rw [← hcl]
    refine XE_ret (.inl rfl) (tells_tmps rfl rfl) ⟨_, ⟨rfl, rfl⟩, by ((try simp only [List.cons_append, List.nil_append]); repeat (first | exact ent_refl | refine ent_take (by repeat (first | exact Find.here | apply Find.there)) ?_ | refine ent_drop ?_))⟩
def needI (size align : Int) : Option Int := if size = 0 ∨ 4096 < align then none else (upI 32 align).bind fun f => (addI f size).map fun n => (n + 4095) / 4096
theorem upI_le {n a s : Int} (h0 : 0 ≤ n) (h2 : 0 ≤ a) (h : upI n a = some s) : n ≤ s ∧ s < 18446744073709551616 ∧ powB a = true ∧ s < n + a ∧ s = n + (-n) % a := by
  unfold upI at h
  split at h
  · rename_i hp
    obtain ⟨k, rfl⟩ := (powB_iff h2).1 hp
    have hpos := Nat.two_pow_pos k
    have h3 := Int.emod_nonneg (-n) (show ((2 ^ k : Nat) : Int) ≠ 0 by omega)
    have h4 := Int.emod_lt_of_pos (-n) (show 0 < ((2 ^ k : Nat) : Int) by omega)
    obtain ⟨rfl, h5⟩ := add_le h
    exact ⟨by omega, by omega, hp, by omega, rfl⟩
  · cases h
theorem need_spec (size align : Int) (h0 : 0 ≤ size) (h1 : size ≤ 18446744073709551615) (h2 : 0 ≤ align) (h3 : align ≤ 18446744073709551615) :
    Spec Try.prog 18 [.int .u64 size, .int .u64 align] [] (fun v L => v = .tuple #[.int .u64 ((needI size align).getD 0), .bool (needI size align).isSome] ∧ L = []) := by
  refine Spec.intro (IsEnt.out) Try.func18 rfl Try.ntmps18 (by simp) (fun w0 F => ?_)
  simp only [envOf, List.zipIdx, List.map, List.cons_append, List.nil_append, Nat.zero_add, Nat.reduceAdd]
  repeat (first | refine Zp pv_move ?_ | refine Zp pv_assign ?_ | refine Zp pv_cmp ?_ | refine X_seq ?_ | refine X_region ?_ | refine XO_nil ?_ | refine XE_code ?_)
  refine XO_either (hT := fun h => ?_) (hF := fun h => ?_)
  · have hs : size = 0 := by simpa using h
    repeat (first | refine ZF ?_ | refine Zp pv_pickT ?_ | refine XO_nil ?_ | refine XE_code ?_)
    refine X_cond rfl (fun _ => ?_) (fun h => by cases h)
    repeat (first | refine Zp pv_assign ?_ | refine X_seq ?_ | refine X_region ?_ | refine X_ret ?_ | refine XO_nil ?_ | refine XE_code ?_ | refine XE_code_ret ?_)
    unfold needI
    rw [if_pos (.inl hs)]
    refine XE_ret (.inl rfl) (tells_tmps rfl rfl) ⟨_, ⟨rfl, rfl⟩, by ((try simp only [List.cons_append, List.nil_append]); repeat (first | exact ent_refl | refine ent_take (by repeat (first | exact Find.here | apply Find.there)) ?_ | refine ent_drop ?_))⟩
  have hs : ¬ size = 0 := by simpa using h
  repeat (first | refine ZT ?_ | refine Zp pv_move ?_ | refine Zp pv_cmp ?_ | refine Zp pv_pickF ?_ | refine XO_nil ?_ | refine XE_code ?_)
  refine X_cond rfl (fun h => ?_) (fun h => ?_) <;> simp only [decide_eq_true_eq, decide_eq_false_iff_not] at h
  · repeat (first | refine Zp pv_assign ?_ | refine X_seq ?_ | refine X_region ?_ | refine X_ret ?_ | refine XO_nil ?_ | refine XE_code ?_ | refine XE_code_ret ?_)
    unfold needI
    rw [if_pos (.inr h)]
    refine XE_ret (.inl rfl) (tells_tmps rfl rfl) ⟨_, ⟨rfl, rfl⟩, by ((try simp only [List.cons_append, List.nil_append]); repeat (first | exact ent_refl | refine ent_take (by repeat (first | exact Find.here | apply Find.there)) ?_ | refine ent_drop ?_))⟩
  repeat (first | refine Zp pv_move ?_ | refine X_seq ?_ | refine X_region ?_ | refine X_skip ?_ | refine XE_code ?_)
  refine XO_call (up_spec 32 align (by decide) (by decide) h2 h3) (hk := ?_)
  rintro _ _ ⟨rfl, rfl⟩
  repeat (first | refine Zp pv_move ?_ | refine Zp pv_assign ?_ | refine Zp pv_extract ?_ | refine Zp pv_not ?_ | refine X_seq ?_ | refine X_region ?_ | refine XO_nil ?_ | refine XE_code ?_)
  have hn : needI size align = (upI 32 align).bind fun f => (addI f size).map fun n => (n + 4095) / 4096 := by
    unfold needI; rw [if_neg (fun h' => h'.elim hs h)]
  cases hu : upI 32 align with
  | none =>
    rw [hu] at hn
    refine X_cond rfl (fun _ => ?_) (fun h => by cases h)
    repeat (first | refine Zp pv_assign ?_ | refine X_seq ?_ | refine X_region ?_ | refine X_ret ?_ | refine XO_nil ?_ | refine XE_code ?_ | refine XE_code_ret ?_)
    rw [hn]
    refine XE_ret (.inl rfl) (tells_tmps rfl rfl) ⟨_, ⟨rfl, rfl⟩, by ((try simp only [List.cons_append, List.nil_append]); repeat (first | exact ent_refl | refine ent_take (by repeat (first | exact Find.here | apply Find.there)) ?_ | refine ent_drop ?_))⟩
  | some f =>
    rw [hu] at hn
    obtain ⟨u1, u2, u3, u4, u5⟩ := upI_le (by decide) h2 hu
    refine X_cond rfl (fun h => by cases h) (fun _ => ?_)
    repeat (first | refine Zp pv_move ?_ | refine X_seq ?_ | refine X_region ?_ | refine X_skip ?_ | refine XE_code ?_)
    refine XO_call (add_spec f size (by omega) (by omega) h0 h1) (hk := ?_)
    rintro _ _ ⟨rfl, rfl⟩
    repeat (first | refine Zp pv_move ?_ | refine Zp pv_assign ?_ | refine Zp pv_extract ?_ | refine X_seq ?_ | refine X_region ?_ | refine XO_nil ?_ | refine XE_code ?_)
    cases ha : addI f size with
    | none =>
      have hn2 : needI size align = none := by rw [hn]; simp [ha]
      clear hn
      repeat (fail)
      refine XO_call (pages_spec 0 (by decide) (by decide)) (hk := ?_)
      rintro _ _ ⟨rfl, rfl⟩
      repeat (first | refine Zp pv_move ?_ | refine Zp pv_assign ?_ | refine X_ret ?_ | refine XO_nil ?_ | refine XE_code ?_)
      rw [hn2]
      refine XE_ret (.inl rfl) (tells_tmps rfl rfl) ⟨_, ⟨rfl, rfl⟩, by ((try simp only [List.cons_append, List.nil_append]); repeat (first | exact ent_refl | refine ent_take (by repeat (first | exact Find.here | apply Find.there)) ?_ | refine ent_drop ?_))⟩
    | some s =>
      obtain ⟨rfl, a2⟩ := add_le ha
      repeat (fail)
      refine XO_call (pages_spec (f + size) (by omega) (by omega)) (hk := ?_)
      rintro _ _ ⟨rfl, rfl⟩
      repeat (first | refine Zp pv_move ?_ | refine Zp pv_assign ?_ | refine X_ret ?_ | refine XO_nil ?_ | refine XE_code ?_)
      rw [hn]
      simp only [Option.bind_some, ha, Option.map_some]
      refine XE_ret (.inl rfl) (tells_tmps rfl rfl) ⟨_, ⟨rfl, rfl⟩, by ((try simp only [List.cons_append, List.nil_append]); repeat (first | exact ent_refl | refine ent_take (by repeat (first | exact Find.here | apply Find.there)) ?_ | refine ent_drop ?_))⟩
def chunkI (size align : Int) : Int × Bool × Bool := match needI size align with
  | none => (0, false, false)
  | some n => if 1048576 < n then (0, false, false) else if 64 < n then (n, true, true) else (cpages (cclass n), false, true)
theorem need_le {size align n : Int} (h0 : 0 ≤ size) (h2 : 0 ≤ align) (h : needI size align = some n) : 1 ≤ n ∧ n ≤ 4503599627370496 := by
  unfold needI at h
  split at h
  · cases h
  · cases hu : upI 32 align with
    | none => rw [hu] at h; cases h
    | some f =>
      obtain ⟨u1, u2, u3, u4, u5⟩ := upI_le (by decide) h2 hu
      rw [hu, Option.bind_some] at h
      cases ha : addI f size with
      | none => rw [ha] at h; cases h
      | some s =>
        obtain ⟨rfl, a2⟩ := add_le ha
        rw [ha, Option.map_some] at h
        obtain rfl := Option.some.inj h
        omega
theorem chunk_spec (size align : Int) (h0 : 0 ≤ size) (h1 : size ≤ 18446744073709551615) (h2 : 0 ≤ align) (h3 : align ≤ 18446744073709551615) :
    Spec Try.prog 21 [.int .u64 size, .int .u64 align] [] (fun v L => v = .tuple #[.int .i64 (chunkI size align).1, .bool (chunkI size align).2.1, .bool (chunkI size align).2.2] ∧ L = []) := by
  refine Spec.intro (IsEnt.out) Try.func21 rfl Try.ntmps21 (by simp) (fun w0 F => ?_)
  simp only [envOf, List.zipIdx, List.map, List.cons_append, List.nil_append, Nat.zero_add, Nat.reduceAdd]
  repeat (first | refine Zp pv_move ?_ | refine Zp pv_assign ?_ | refine X_seq ?_ | refine X_region ?_ | refine XO_nil ?_ | refine XE_code ?_)
  refine XO_call (need_spec size align h0 h1 h2 h3) (hk := ?_)
  rintro _ _ ⟨rfl, rfl⟩
  cases hn : needI size align with
  | none =>
    have hc : chunkI size align = (0, false, false) := by unfold chunkI; rw [hn]
    rw [hc]
    repeat (first | refine ZF ?_ | refine Zp pv_move ?_ | refine Zp pv_assign ?_ | refine Zp pv_extract ?_ | refine Zp pv_not ?_ | refine Zp pv_pickT ?_ | refine X_seq ?_ | refine X_region ?_ | refine X_block ?_ | refine XO_nil ?_ | refine XE_code ?_)
    refine X_cond rfl (fun _ => ?_) (fun h => by cases h)
    repeat (first | refine Zp pv_assign ?_ | refine X_seq ?_ | refine X_region ?_ | refine X_ret ?_ | refine XO_nil ?_ | refine XE_code ?_ | refine XE_code_ret ?_ | refine XE_block_ret ?_)
    refine XE_ret (.inl rfl) (tells_tmps rfl rfl) ⟨_, ⟨rfl, rfl⟩, by ((try simp only [List.cons_append, List.nil_append]); repeat (first | exact ent_refl | refine ent_take (by repeat (first | exact Find.here | apply Find.there)) ?_ | refine ent_drop ?_))⟩
  | some n =>
    have hnl := need_le h0 h2 hn
    simp only [Option.getD_some, Option.isSome_some]
    repeat (first | refine ZT ?_ | refine Zp pv_move ?_ | refine Zp pv_assign ?_ | refine Zp pv_cmp ?_ | refine Zp pv_extract ?_ | refine Zp pv_not ?_ | refine Zp pv_pickF ?_ | refine X_seq ?_ | refine X_region ?_ | refine X_block ?_ | refine XO_nil ?_ | refine XE_code ?_)
    refine X_cond rfl (fun h => ?_) (fun h => ?_) <;> simp only [decide_eq_true_eq, decide_eq_false_iff_not] at h
    · have hc : chunkI size align = (0, false, false) := by unfold chunkI; rw [hn]; exact if_pos h
      rw [hc]
      repeat (first | refine Zp pv_assign ?_ | refine X_seq ?_ | refine X_region ?_ | refine X_ret ?_ | refine XO_nil ?_ | refine XE_code ?_ | refine XE_code_ret ?_ | refine XE_block_ret ?_)
      refine XE_ret (.inl rfl) (tells_tmps rfl rfl) ⟨_, ⟨rfl, rfl⟩, by ((try simp only [List.cons_append, List.nil_append]); repeat (first | exact ent_refl | refine ent_take (by repeat (first | exact Find.here | apply Find.there)) ?_ | refine ent_drop ?_))⟩
    · repeat (first | refine Zp pv_move ?_ | refine Zp pv_assign ?_ | refine Zp pv_cmp ?_ | refine X_seq ?_ | refine X_region ?_ | refine XO_nil ?_ | refine XE_code ?_)
      refine X_cond rfl (fun h4 => ?_) (fun h4 => ?_) <;> simp only [decide_eq_true_eq, decide_eq_false_iff_not] at h4
      · have hc : chunkI size align = (n, true, true) := by unfold chunkI; rw [hn]; exact (if_neg h).trans (if_pos h4)
        rw [hc]
        repeat (first | refine Zp pv_move ?_ | refine Zp pv_assign ?_ | refine Zp pv_conv_int ?_ | refine X_seq ?_ | refine X_region ?_ | refine X_ret ?_ | refine XO_nil ?_ | refine XE_code ?_ | refine XE_code_ret ?_ | refine XE_block_ret ?_)
        refine XE_ret (.inl rfl) (tells_tmps rfl rfl) ⟨_, ⟨rfl, rfl⟩, by ((try simp only [List.cons_append, List.nil_append]); repeat (first | exact ent_refl | refine ent_take (by repeat (first | exact Find.here | apply Find.there)) ?_ | refine ent_drop ?_))⟩
      · have hc : chunkI size align = (cpages (cclass n), false, true) := by unfold chunkI; rw [hn]; exact (if_neg h).trans (if_neg h4)
        rw [hc]
        repeat (first | refine Zp pv_move ?_ | refine Zp pv_conv_int ?_ | refine X_seq ?_ | refine X_region ?_ | refine X_skip ?_ | refine XE_code ?_ | refine XE_block ?_)
        refine XO_call (cclass_spec n) (hk := ?_)
        rintro _ _ ⟨rfl, rfl⟩
        repeat (fail)
        refine XO_call (cpages_spec (cclass n)) (hk := ?_)
        rintro _ _ ⟨rfl, rfl⟩
        repeat (first | refine Zp pv_assign ?_ | refine X_ret ?_ | refine XO_nil ?_ | refine XE_code ?_)
        refine XE_ret (.inl rfl) (tells_tmps rfl rfl) ⟨_, ⟨rfl, rfl⟩, by ((try simp only [List.cons_append, List.nil_append]); repeat (first | exact ent_refl | refine ent_take (by repeat (first | exact Find.here | apply Find.there)) ?_ | refine ent_drop ?_))⟩
end Go.Proofs.Ytlhjiciimeefeaa.Sep
