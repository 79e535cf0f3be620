import Derived.Test.YteobjankkcdaoaaSepR
import Derived.Test.YteobjankkcdaoaaSepT
namespace Go.Proofs.Yteobjankkcdaoaa.Sep
open Go.RowKit
set_option linter.unusedSimpArgs false
set_option linter.unusedVariables false
set_option maxHeartbeats 8000000
attribute [local irreducible] X XE XO XD XDi XDa PV RV DV pt base Spec Sl Mp Keeps

/-! ### lists of runs -/
def eRun : E (Int × Int) := ⟨2, true, fun p => [.int .i64 p.1, .int .i64 p.2], fun _ => rfl, fun _ _ h => by simp at h; rcases h with rfl | rfl <;> rfl, by decide, fun h => by cases h⟩
/-- Runs that lie within the pages that may be. -/
def Bd (xs : List (Int × Int)) : Prop := ∀ r ∈ xs, 0 ≤ r.1 ∧ 0 ≤ r.2 ∧ r.1 + r.2 ≤ 1048576
def less (xs : List (Int × Int)) (i : Nat) : Option Nat → Bool
  | none => true
  | some j => decide ((xs.getD i (0, 0)).2 < (xs.getD j (0, 0)).2)
def bestU (xs : List (Int × Int)) (n : Int) : Nat → Option Nat
  | 0 => none
  | i + 1 => if 0 < n ∧ n ≤ (xs.getD i (0, 0)).2 ∧ less xs i (bestU xs n i) = true then some i else bestU xs n i
def optI : Option Nat → Int
  | none => -1
  | some i => i
theorem bestU_lt {xs : List (Int × Int)} {n : Int} : ∀ {i j : Nat}, bestU xs n i = some j → j < i
  | 0, j, h => by cases h
  | i + 1, j, h => by
    unfold bestU at h
    split at h
    · cases h; omega
    · have := bestU_lt h; omega
theorem end_spec (p n : Int) (h1 : 0 ≤ p) (h2 : 0 ≤ n) (h3 : p + n ≤ 4611686018427387904) : Spec Try.prog 64 [.agg #[.int .i64 p, .int .i64 n]] [] (fun v L => v = .int .i64 (p + n) ∧ L = []) := by
  refine Spec.intro (IsEnt.out) Try.func64 rfl Try.ntmps64 (by simp) (fun w0 F => ?_)
  simp only [envOf, List.zipIdx, List.map, List.cons_append, List.nil_append, Nat.zero_add, Nat.reduceAdd]
  repeat (first | refine X_seq ?_ | refine X_region ?_)
  refine XO_dv dv_box (hk := ?_)
  rintro _ _ ⟨b1, rfl, rfl⟩
  repeat (first | refine Zp pv_assign ?_ | refine Zp pv_arith ?_ | refine Zp pv_field ?_ | refine Zr rv_load ?_ | refine X_seq ?_ | refine X_region ?_ | refine X_ret ?_ | refine XO_nil ?_ | refine XE_code ?_)
  refine XE_ret (.inl rfl) (tells_tmps rfl rfl) ⟨_, ⟨rfl, rfl⟩, by ((try simp only [List.cons_append, List.nil_append]); repeat (first | exact ent_refl | refine ent_take (by repeat (first | exact Find.here | apply Find.there)) ?_ | refine ent_drop ?_))⟩
theorem best_spec (A : HP) (a : Option Addr) (c : Nat) (xs : List (Int × Int)) (n : Int) (hV : View A eRun a xs) (hl : xs.length ≤ 4611686018427387904) :
    Spec Try.prog 69 [.slice a xs.length c, .int .i64 n] [A] (fun v L => v = .int .i64 (optI (bestU xs n xs.length)) ∧ L = [A]) := by
  refine Spec.intro (IsEnt.out) Try.func69 rfl Try.ntmps69 (by simp) (fun w0 F => ?_)
  simp only [envOf, List.zipIdx, List.map, List.cons_append, List.nil_append, Nat.zero_add, Nat.reduceAdd]
  repeat (first | refine Zp pv_move ?_ | refine Zp pv_assign ?_ | refine Zp pv_len_slice ?_ | refine X_seq ?_ | refine X_region ?_ | refine X_block ?_ | refine XO_nil ?_ | refine XE_code ?_)
  refine X_loop (ι := Nat) (fun k => k ≤ xs.length) (fun k => [(0, .slice a xs.length c), (1, .int .i64 n), (8, .slice a xs.length c), (9, .int .i64 (xs.length : Int)), (10, .int .i64 k), (5, .int .i64 (optI (bestU xs n k)))]) (fun _ => A :: F) (fun k => xs.length - k) 0 (Nat.zero_le _) ?_ (by ((try simp only [List.cons_append, List.nil_append]); repeat (first | exact ent_refl | refine ent_take (by repeat (first | exact Find.here | apply Find.there)) ?_ | refine ent_drop ?_))) ?_
  · (repeat (first | exact Env.sub_nil _ | refine Env.sub_cons rfl ?_))
  intro k hk
  dsimp only at hk ⊢
  repeat (first | refine Zp pv_cmp ?_ | refine X_seq ?_ | refine X_region ?_ | refine XO_nil ?_ | refine XE_code ?_)
  refine X_cond rfl (fun hc => ?_) (fun hc => ?_) <;> simp only [decide_eq_true_eq, decide_eq_false_iff_not] at hc
  · have hkl : k < xs.length := by omega
    refine X_view .here hV (by omega) ?_
    rintro b o rfl
    repeat (first | refine Zp pv_move ?_ | refine Zp pv_index ?_ | refine X_seq ?_ | refine X_region ?_ | refine X_block ?_ | refine X_skip ?_ | refine XE_code ?_)
    refine XO_rv (rv_vel (i := k) (hV := hV)) (hk := ?_)
    repeat (fail)
    refine XO_dv dv_alloc (hk := ?_)
    rintro _ _ ⟨cb, rfl, rfl⟩
    repeat (first | refine Zp pv_assign ?_)
    refine XO_dv0 dv_storeW (hk := ?_)
    rintro _ _ rfl
    repeat (first | refine X_seq ?_ | refine XO_nil ?_ | refine XE_code ?_)
    have hgk : xs.getD k (0, 0) = xs[k] := by simp [List.getD, hkl]
    repeat (first | refine Dp pv_move ?_ | refine Dp pv_cmp ?_ | refine XD_pick (h := ?_) | refine X_draws (h := ?_))
    refine XDi_either (hT := fun h => ?_) (hF := fun h => ?_) <;> simp only [decide_eq_true_eq, decide_eq_false_iff_not] at h
    · repeat (first | refine Dp pv_move ?_ | refine Dp pv_field ?_ | refine Dp pv_cmp ?_ | refine Dp pv_pickT ?_ | refine Dr rv_load ?_ | refine XD_pick (h := ?_))
      refine XDi_either (hT := fun h2 => ?_) (hF := fun h2 => ?_) <;> simp only [decide_eq_true_eq, decide_eq_false_iff_not] at h2
      · cases hb : bestU xs n k with
        | none =>
          have hb1 : bestU xs n (k + 1) = some k := by unfold bestU; rw [if_pos ⟨h, by rw [hgk]; exact h2, by rw [hb]; rfl⟩]
          repeat (first | refine Dp pv_move ?_ | refine Dp pv_cmp ?_ | refine Dp pv_pickT ?_ | refine XDi_gF (h := ?_) | refine XD_pick (h := ?_))
          refine XD_end (h := ?_)
          repeat (first | refine XE_code ?_)
          refine X_cond rfl (fun _ => ?_) (fun h => by cases h)
          repeat (first | refine Zp pv_move ?_ | refine Zp pv_assign ?_ | refine Zp pv_arith ?_ | refine X_region ?_ | refine XO_nil ?_ | refine XE_code ?_ | refine XE_block ?_)
          refine X_round (k + 1) (by show k + 1 ≤ _; omega) (by show xs.length - (k + 1) < xs.length - k; omega) (by rw [hb1]; (repeat (first | exact Env.sub_nil _ | refine Env.sub_cons rfl ?_))) (by ((try simp only [List.cons_append, List.nil_append]); repeat (first | exact ent_refl | refine ent_take (by repeat (first | exact Find.here | apply Find.there)) ?_ | refine ent_drop ?_)))
        | some j =>
          have hj := bestU_lt hb
          have hjl : j < xs.length := by omega
          have hgj : xs.getD j (0, 0) = xs[j] := by simp [List.getD, hjl]
          repeat (first | refine Dp pv_move ?_ | refine Dp pv_field ?_ | refine Dp pv_cmp ?_ | refine Dr rv_load ?_ | refine XD_pick (h := ?_))
          refine XDi_known false (hb := decide_eq_false (by show ¬ (j : Int) < 0; omega)) (hT := ?_)
          repeat (fail)
          refine XDi_pvA (pv_index (iv := j)) (h := ?_)
          repeat (first | refine Dp pv_field ?_ | refine XD_pick (h := ?_))
          refine XDi_rvA (rv_velf (i := j) (f := 1) (hV := hV)) (h := ?_)
          repeat (first | refine Dp pv_cmp ?_ | refine Dp pv_pickT ?_ | refine Dp pv_pickF ?_ | refine XD_pick (h := ?_))
          refine XD_end (h := ?_)
          repeat (first | refine XE_code ?_)
          refine X_cond rfl (fun h3 => ?_) (fun h3 => ?_) <;> simp only [decide_eq_true_eq, decide_eq_false_iff_not] at h3
          · have hb1 : bestU xs n (k + 1) = some k := by unfold bestU; rw [if_pos ⟨h, by rw [hgk]; exact h2, by rw [hb]; show decide _ = true; rw [hgk, hgj]; exact decide_eq_true h3⟩]
            repeat (first | refine Zp pv_move ?_ | refine Zp pv_assign ?_ | refine Zp pv_arith ?_ | refine X_region ?_ | refine XO_nil ?_ | refine XE_code ?_ | refine XE_block ?_)
            refine X_round (k + 1) (by show k + 1 ≤ _; omega) (by show xs.length - (k + 1) < xs.length - k; omega) (by rw [hb1]; (repeat (first | exact Env.sub_nil _ | refine Env.sub_cons rfl ?_))) (by ((try simp only [List.cons_append, List.nil_append]); repeat (first | exact ent_refl | refine ent_take (by repeat (first | exact Find.here | apply Find.there)) ?_ | refine ent_drop ?_)))
          · have hb1 : bestU xs n (k + 1) = some j := by rw [bestU, if_neg (fun h' => h3 (by have := h'.2.2; rw [hb] at this; have this : decide ((xs.getD k (0, 0)).2 < (xs.getD j (0, 0)).2) = true := this; rw [hgk, hgj] at this; exact of_decide_eq_true this)), hb]
            repeat (first | refine Zp pv_move ?_ | refine Zp pv_arith ?_ | refine X_region ?_ | refine X_skip ?_ | refine XO_nil ?_ | refine XE_code ?_ | refine XE_block ?_)
            refine X_round (k + 1) (by show k + 1 ≤ _; omega) (by show xs.length - (k + 1) < xs.length - k; omega) (by rw [hb1]; (repeat (first | exact Env.sub_nil _ | refine Env.sub_cons rfl ?_))) (by ((try simp only [List.cons_append, List.nil_append]); repeat (first | exact ent_refl | refine ent_take (by repeat (first | exact Find.here | apply Find.there)) ?_ | refine ent_drop ?_)))
      · have hb1 : bestU xs n (k + 1) = bestU xs n k := by rw [bestU, if_neg (fun h' => h2 (by rw [← hgk]; exact h'.2.1))]
        repeat (first | refine Dp pv_pickF ?_ | refine XDi_gF (h := ?_) | refine XDi_gU (h := ?_) | refine XD_pick (h := ?_))
        refine XD_end (h := ?_)
        repeat (first | refine XE_code ?_)
        refine X_cond rfl (fun h => by cases h) (fun _ => ?_)
        repeat (first | refine Zp pv_move ?_ | refine Zp pv_arith ?_ | refine X_region ?_ | refine X_skip ?_ | refine XO_nil ?_ | refine XE_code ?_ | refine XE_block ?_)
        refine X_round (k + 1) (by show k + 1 ≤ _; omega) (by show xs.length - (k + 1) < xs.length - k; omega) (by rw [hb1]; (repeat (first | exact Env.sub_nil _ | refine Env.sub_cons rfl ?_))) (by ((try simp only [List.cons_append, List.nil_append]); repeat (first | exact ent_refl | refine ent_take (by repeat (first | exact Find.here | apply Find.there)) ?_ | refine ent_drop ?_)))
    · have hb1 : bestU xs n (k + 1) = bestU xs n k := by rw [bestU, if_neg (fun h' => h h'.1)]
      repeat (first | refine Dp pv_move ?_ | refine Dp pv_pickF ?_ | refine XDi_gF (h := ?_) | refine XDi_gU (h := ?_) | refine XD_pick (h := ?_))
      refine XD_end (h := ?_)
      repeat (first | refine XE_code ?_)
      refine X_cond rfl (fun h => by cases h) (fun _ => ?_)
      repeat (first | refine Zp pv_move ?_ | refine Zp pv_arith ?_ | refine X_region ?_ | refine X_skip ?_ | refine XO_nil ?_ | refine XE_code ?_ | refine XE_block ?_)
      refine X_round (k + 1) (by show k + 1 ≤ _; omega) (by show xs.length - (k + 1) < xs.length - k; omega) (by rw [hb1]; (repeat (first | exact Env.sub_nil _ | refine Env.sub_cons rfl ?_))) (by ((try simp only [List.cons_append, List.nil_append]); repeat (first | exact ent_refl | refine ent_take (by repeat (first | exact Find.here | apply Find.there)) ?_ | refine ent_drop ?_)))
  · obtain rfl : k = xs.length := by omega
    repeat (first | refine Zp pv_move ?_ | refine Zp pv_assign ?_ | refine X_seq ?_ | refine X_region ?_ | refine X_exit ?_ | refine X_ret ?_ | refine XO_nil ?_ | refine XE_code ?_ | refine XE_code_exit ?_ | refine XE_block_exit ?_ | refine XE_pred_exit ?_)
    refine XE_ret (.inl rfl) (tells_tmps rfl rfl) ⟨_, ⟨rfl, rfl⟩, by ((try simp only [List.cons_append, List.nil_append]); repeat (first | exact ent_refl | refine ent_take (by repeat (first | exact Find.here | apply Find.there)) ?_ | refine ent_drop ?_))⟩
/-- The place of the first run that doesn't end ahead of a page. -/
def afterI (xs : List (Int × Int)) (p : Int) : Nat := xs.findIdx (fun r => decide (p ≤ r.1 + r.2))
theorem after_spec (A : HP) (a : Option Addr) (c : Nat) (xs : List (Int × Int)) (p : Int) (hV : View A eRun a xs) (hl : xs.length ≤ 4611686018427387904) (hB : Bd xs) :
    Spec Try.prog 63 [.slice a xs.length c, .int .i64 p] [A] (fun v L => v = .int .i64 (afterI xs p : Int) ∧ L = [A]) := by
  refine Spec.intro (IsEnt.out) Try.func63 rfl Try.ntmps63 (by simp) (fun w0 F => ?_)
  simp only [envOf, List.zipIdx, List.map, List.cons_append, List.nil_append, Nat.zero_add, Nat.reduceAdd]
  repeat (first | refine Zp pv_move ?_ | refine Zp pv_assign ?_ | refine Zp pv_len_slice ?_ | refine X_seq ?_ | refine X_region ?_ | refine X_block ?_ | refine XO_nil ?_ | refine XE_code ?_)
  refine X_loop (ι := Nat) (fun k => k ≤ xs.length ∧ ∀ j (hj : j < xs.length), j < k → xs[j].1 + xs[j].2 < p) (fun k => [(0, .slice a xs.length c), (1, .int .i64 p), (7, .slice a xs.length c), (8, .int .i64 (xs.length : Int)), (9, .int .i64 k)]) (fun _ => A :: F) (fun k => xs.length - k) 0 ⟨Nat.zero_le _, fun _ _ h => by omega⟩ ?_ (by ((try simp only [List.cons_append, List.nil_append]); repeat (first | exact ent_refl | refine ent_take (by repeat (first | exact Find.here | apply Find.there)) ?_ | refine ent_drop ?_))) ?_
  · (repeat (first | exact Env.sub_nil _ | refine Env.sub_cons rfl ?_))
  rintro k ⟨hk, hall⟩
  dsimp only at hk hall ⊢
  repeat (first | refine Zp pv_cmp ?_ | refine X_seq ?_ | refine X_region ?_ | refine XO_nil ?_ | refine XE_code ?_)
  refine X_cond rfl (fun hc => ?_) (fun hc => ?_) <;> simp only [decide_eq_true_eq, decide_eq_false_iff_not] at hc
  · have hkl : k < xs.length := by omega
    refine X_view .here hV (by omega) ?_
    rintro b o rfl
    obtain ⟨g1, g2, g3⟩ := hB xs[k] (List.getElem_mem hkl)
    repeat (first | refine Zp pv_move ?_ | refine Zp pv_index ?_ | refine X_seq ?_ | refine X_region ?_ | refine X_block ?_ | refine X_skip ?_ | refine XE_code ?_)
    refine XO_rv (rv_vel (i := k) (hV := hV)) (hk := ?_)
    repeat (fail)
    refine XO_dv dv_alloc (hk := ?_)
    rintro _ _ ⟨cb, rfl, rfl⟩
    repeat (first | refine Zp pv_assign ?_)
    refine XO_dv0 dv_storeW (hk := ?_)
    rintro _ _ rfl
    repeat (first | refine Zr rv_loadW ?_ | refine X_seq ?_ | refine X_region ?_ | refine XO_nil ?_ | refine XE_code ?_)
    refine XO_call (end_spec xs[k].1 xs[k].2 g1 g2 (by omega)) (hk := ?_)
    rintro _ _ ⟨rfl, rfl⟩
    repeat (first | refine Zp pv_move ?_ | refine Zp pv_cmp ?_ | refine XO_nil ?_ | refine XE_code ?_)
    refine X_cond rfl (fun h3 => ?_) (fun h3 => ?_) <;> simp only [decide_eq_true_eq, decide_eq_false_iff_not] at h3
    · have he : afterI xs p = k := by
        unfold afterI
        refine (List.findIdx_eq hkl).2 ⟨by simpa using h3, fun j hj => ?_⟩
        have := hall j (by omega) hj
        simp; omega
      repeat (first | refine Zp pv_move ?_ | refine Zp pv_assign ?_ | refine X_seq ?_ | refine X_region ?_ | refine X_ret ?_ | refine XO_nil ?_ | refine XE_code ?_ | refine XE_code_ret ?_ | refine XE_block_ret ?_ | refine XE_pred_ret ?_)
      refine XE_ret (.inl rfl) (tells_tmps rfl rfl) ⟨_, ⟨?_, rfl⟩, by ((try simp only [List.cons_append, List.nil_append]); repeat (first | exact ent_refl | refine ent_take (by repeat (first | exact Find.here | apply Find.there)) ?_ | refine ent_drop ?_))⟩
      rw [he]; rfl
    · repeat (first | refine Zp pv_move ?_ | refine Zp pv_arith ?_ | refine X_region ?_ | refine X_skip ?_ | refine XO_nil ?_ | refine XE_code ?_ | refine XE_block ?_)
      refine X_round (k + 1) ⟨by omega, fun j hj hlt => ?_⟩ (by show xs.length - (k + 1) < xs.length - k; omega) (by (repeat (first | exact Env.sub_nil _ | refine Env.sub_cons rfl ?_))) (by ((try simp only [List.cons_append, List.nil_append]); repeat (first | exact ent_refl | refine ent_take (by repeat (first | exact Find.here | apply Find.there)) ?_ | refine ent_drop ?_)))
      rcases Nat.lt_or_ge j k with h | h
      · exact hall j hj h
      · obtain rfl : j = k := by omega
        omega
  · obtain rfl : k = xs.length := by omega
    have he : afterI xs p = xs.length := by
      unfold afterI
      rw [List.findIdx_eq_length]
      intro x hx
      obtain ⟨j, hj, rfl⟩ := List.getElem_of_mem hx
      have := hall j hj hj
      simp; omega
    repeat (first | refine Zp pv_move ?_ | refine Zp pv_assign ?_ | refine Zp pv_len_slice ?_ | refine X_seq ?_ | refine X_region ?_ | refine X_exit ?_ | refine X_ret ?_ | refine XO_nil ?_ | refine XE_code ?_ | refine XE_code_exit ?_ | refine XE_block_exit ?_ | refine XE_pred_exit ?_)
    rw [← he]
    refine XE_ret (.inl rfl) (tells_tmps rfl rfl) ⟨_, ⟨rfl, rfl⟩, by ((try simp only [List.cons_append, List.nil_append]); repeat (first | exact ent_refl | refine ent_take (by repeat (first | exact Find.here | apply Find.there)) ?_ | refine ent_drop ?_))⟩
def totI (xs : List (Int × Int)) : Int := (xs.map (·.2)).sum
theorem total_spec (A : HP) (a : Option Addr) (c : Nat) (xs : List (Int × Int)) (hV : View A eRun a xs) (hl : xs.length ≤ 1048576) (hB : Bd xs) :
    Spec Try.prog 49 [.slice a xs.length c] [A] (fun v L => v = .int .i64 (totI xs) ∧ L = [A]) := by
  refine Spec.intro (IsEnt.out) Try.func49 rfl Try.ntmps49 (by simp) (fun w0 F => ?_)
  simp only [envOf, List.zipIdx, List.map, List.cons_append, List.nil_append, Nat.zero_add, Nat.reduceAdd]
  repeat (first | refine Zp pv_move ?_ | refine Zp pv_assign ?_ | refine Zp pv_len_slice ?_ | refine X_seq ?_ | refine X_region ?_ | refine X_block ?_ | refine XO_nil ?_ | refine XE_code ?_)
  refine X_loop (ι := Nat) (fun k => k ≤ xs.length) (fun k => [(0, .slice a xs.length c), (6, .slice a xs.length c), (7, .int .i64 (xs.length : Int)), (8, .int .i64 k), (3, .int .i64 (totI (xs.take k)))]) (fun _ => A :: F) (fun k => xs.length - k) 0 (Nat.zero_le _) ?_ (by ((try simp only [List.cons_append, List.nil_append]); repeat (first | exact ent_refl | refine ent_take (by repeat (first | exact Find.here | apply Find.there)) ?_ | refine ent_drop ?_))) ?_
  · (repeat (first | exact Env.sub_nil _ | refine Env.sub_cons rfl ?_))
  intro k hk
  dsimp only at hk ⊢
  repeat (first | refine Zp pv_cmp ?_ | refine X_seq ?_ | refine X_region ?_ | refine XO_nil ?_ | refine XE_code ?_)
  refine X_cond rfl (fun hc => ?_) (fun hc => ?_) <;> simp only [decide_eq_true_eq, decide_eq_false_iff_not] at hc
  · have hkl : k < xs.length := by omega
    refine X_view .here hV (by omega) ?_
    rintro b o rfl
    obtain ⟨g1, g2, g3⟩ := hB xs[k] (List.getElem_mem hkl)
    have hs : totI (xs.take (k + 1)) = totI (xs.take k) + xs[k].2 := by
      unfold totI
      rw [List.take_succ_eq_append_getElem hkl, List.map_append, List.sum_append]; simp
    have hb : ∀ l : List (Int × Int), (∀ r ∈ l, 0 ≤ r.1 ∧ 0 ≤ r.2 ∧ r.1 + r.2 ≤ 1048576) → 0 ≤ totI l ∧ totI l ≤ 1048576 * l.length := by
      intro l
      induction l with
      | nil => intro _; simp [totI]
      | cons r l ih =>
        intro h
        have h1 := h r (by simp)
        have h2 := ih (fun q hq => h q (by simp [hq]))
        have : totI (r :: l) = r.2 + totI l := by simp [totI]
        rw [this]; simp; omega
    have hb1 := hb (xs.take k) (fun r hr => hB r (List.mem_of_mem_take hr))
    have hlk : ((xs.take k).length : Int) ≤ 1048576 := by simp; omega
    repeat (first | refine Zp pv_index ?_ | refine X_seq ?_ | refine X_region ?_ | refine X_block ?_ | refine X_skip ?_ | refine XE_code ?_)
    refine XO_rv (rv_vel (i := k) (hV := hV)) (hk := ?_)
    repeat (fail)
    refine XO_dv dv_alloc (hk := ?_)
    rintro _ _ ⟨cb, rfl, rfl⟩
    repeat (fail)
    refine XO_dv0 dv_storeW (hk := ?_)
    rintro _ _ rfl
    repeat (first | refine Zp pv_move ?_ | refine Zp pv_assign ?_ | refine Zp pv_arith ?_ | refine Zp pv_field ?_ | refine Zr rv_load ?_ | refine X_region ?_ | refine XO_nil ?_ | refine XE_code ?_ | refine XE_block ?_)
    refine X_round (k + 1) (by show k + 1 ≤ _; omega) (by show xs.length - (k + 1) < xs.length - k; omega) (by rw [hs]; (repeat (first | exact Env.sub_nil _ | refine Env.sub_cons rfl ?_))) (by ((try simp only [List.cons_append, List.nil_append]); repeat (first | exact ent_refl | refine ent_take (by repeat (first | exact Find.here | apply Find.there)) ?_ | refine ent_drop ?_)))
  · obtain rfl : k = xs.length := by omega
    rw [List.take_length]
    repeat (first | refine Zp pv_move ?_ | refine Zp pv_assign ?_ | refine X_seq ?_ | refine X_region ?_ | refine X_exit ?_ | refine X_ret ?_ | refine XO_nil ?_ | refine XE_code ?_ | refine XE_code_exit ?_ | refine XE_block_exit ?_ | refine XE_pred_exit ?_)
    refine XE_ret (.inl rfl) (tells_tmps rfl rfl) ⟨_, ⟨rfl, rfl⟩, by ((try simp only [List.cons_append, List.nil_append]); repeat (first | exact ent_refl | refine ent_take (by repeat (first | exact Find.here | apply Find.there)) ?_ | refine ent_drop ?_))⟩
end Go.Proofs.Yteobjankkcdaoaa.Sep
