import Derived.Test.YteobjankkcdaoaaRunsD
import Derived.Test.YteobjankkcdaoaaClassA
namespace Go.Proofs.Yteobjankkcdaoaa.Sep
open Go.RowKit
set_option linter.unusedSimpArgs false
set_option linter.unusedVariables false

/-- What is kept: a stack for each of seven classes. -/
def KcRel (fl : List Int) (ks : Nat → List Int) : Prop := fl.length = 35 ∧ ∀ k, k < 7 → (ks k).length ≤ 4 ∧ fl.getD (k * 5 + 4) 0 = ((ks k).length : Int) ∧ ∀ j, j < (ks k).length → fl.getD (k * 5 + j) 0 = (ks k).getD j 0
def Kc (b : Nat) (ks : Nat → List Int) : HP := fun H => ∃ fl, KcRel fl ks ∧ SL [Sl (eI .i64) (some ⟨b, 0, none⟩) 35 fl] H
theorem Kc.open {b : Nat} {ks : Nat → List Int} : ∀ H, Kc b ks H → ∃ fl, KcRel fl ks ∧ SL [Sl (eI .i64) (some ⟨b, 0, none⟩) 35 fl] H := fun H h => h
theorem Kc.fold {b : Nat} {fl : List Int} {ks : Nat → List Int} (h : KcRel fl ks) : ∀ H, SL [Sl (eI .i64) (some ⟨b, 0, none⟩) 35 fl] H → Kc b ks H := fun H hs => ⟨fl, h, hs⟩
def upd {α : Type} (ks : Nat → α) (c : Nat) (l : α) : Nat → α := fun k => if k = c then l else ks k
set_option maxHeartbeats 8000000
attribute [local irreducible] X XE XO XD XDi XDa PV RV DV pt base Spec Sl Mp Keeps Kc

theorem KcRel.none : KcRel (List.replicate 35 0) (fun _ => []) := by
  refine ⟨by simp, fun k hk => ⟨Nat.zero_le _, ?_, fun j hj => by simp at hj⟩⟩
  have : k = 0 ∨ k = 1 ∨ k = 2 ∨ k = 3 ∨ k = 4 ∨ k = 5 ∨ k = 6 := by omega
  rcases this with rfl | rfl | rfl | rfl | rfl | rfl | rfl <;> rfl
theorem getD_set {fl : List Int} {i j : Nat} {v : Int} (hi : i < fl.length) : (fl.set i v).getD j 0 = if i = j then v else fl.getD j 0 := by
  simp only [List.getD, List.getElem?_set]
  by_cases h : i = j
  · subst h; simp [hi]
  · simp [h]
theorem KcRel.push {fl : List Int} {ks : Nat → List Int} {c : Nat} {p : Int} (h : KcRel fl ks) (hc : c < 7) (hn : (ks c).length < 4) : KcRel ((fl.set (c * 5 + (ks c).length) p).set (c * 5 + 4) ((ks c).length + 1)) (upd ks c (ks c ++ [p])) := by
  obtain ⟨hl, hk⟩ := h
  have l1 : c * 5 + (ks c).length < fl.length := by omega
  have l2 : c * 5 + 4 < (fl.set (c * 5 + (ks c).length) p).length := by simp; omega
  refine ⟨by simp [hl], fun k hk7 => ?_⟩
  obtain ⟨g1, g2, g3⟩ := hk k hk7
  unfold upd
  by_cases hkc : k = c
  · subst hkc
    simp only [if_true]
    refine ⟨by simp; omega, ?_, fun j hj => ?_⟩
    · rw [getD_set l2, if_pos rfl]; simp
    · rw [getD_set l2, if_neg (by simp at hj; omega), getD_set l1]
      by_cases hj2 : j = (ks k).length
      · subst hj2; rw [if_pos rfl]; simp [List.getD]
      · simp at hj
        rw [if_neg (by omega), g3 j (by omega)]
        simp [List.getD, List.getElem?_append_left (show j < (ks k).length by omega)]
  · simp only [if_neg hkc]
    refine ⟨g1, ?_, fun j hj => ?_⟩
    · rw [getD_set l2, if_neg (by omega), getD_set l1, if_neg (by omega)]; exact g2
    · rw [getD_set l2, if_neg (by omega), getD_set l1, if_neg (by omega)]; exact g3 j hj
theorem KcRel.pop {fl : List Int} {ks : Nat → List Int} {c : Nat} (h : KcRel fl ks) (hc : c < 7) : KcRel (fl.set (c * 5 + 4) ((ks c).length - 1 : Nat)) (upd ks c (ks c).dropLast) := by
  obtain ⟨hl, hk⟩ := h
  have l2 : c * 5 + 4 < fl.length := by omega
  refine ⟨by simp [hl], fun k hk7 => ?_⟩
  obtain ⟨g1, g2, g3⟩ := hk k hk7
  unfold upd
  by_cases hkc : k = c
  · subst hkc
    simp only [if_true]
    refine ⟨by simp; omega, ?_, fun j hj => ?_⟩
    · rw [getD_set l2, if_pos rfl]; simp
    · simp at hj
      rw [getD_set l2, if_neg (by omega), g3 j (by omega)]
      rw [List.getD, List.getD, List.getElem?_dropLast, if_pos (by omega)]
  · simp only [if_neg hkc]
    refine ⟨g1, ?_, fun j hj => ?_⟩
    · rw [getD_set l2, if_neg (by omega)]; exact g2
    · rw [getD_set l2, if_neg (by omega)]; exact g3 j hj
theorem cnew_spec : Spec Try.prog 22 [] [] (fun v L => ∃ b, v = .pointer (some ⟨b, 0, none⟩) ∧ L = [Kc b (fun _ => [])]) := by
  refine Spec.intro (IsEnt.out) Try.func22 rfl Try.ntmps22 (by simp) (fun w0 F => ?_)
  simp only [envOf, List.zipIdx, List.map, List.cons_append, List.nil_append, Nat.zero_add, Nat.reduceAdd]
  repeat (first | refine Zp pv_assign ?_ | refine Zp pv_build0 ?_ | refine X_seq ?_ | refine X_region ?_ | refine XO_nil ?_ | refine XE_code ?_)
  refine XO_dv dv_box (hk := ?_)
  rintro _ _ ⟨b, rfl, rfl⟩
  refine XO_conv (fun _ h => SL.head (Sl.of_pt (E' := eI .i64) (xs := List.replicate 35 0) rfl) h) ?_
  repeat (first | refine Zp pv_assign ?_ | refine X_ret ?_ | refine XO_nil ?_ | refine XE_code ?_)
  refine XE_ret (.inl rfl) (tells_tmps rfl rfl) ⟨_, ⟨b, rfl, rfl⟩, ?_⟩
  refine ent_fold (by repeat (first | exact FindAll.nil | exact Find.here | apply Find.there | apply FindAll.cons)) (Kc.fold KcRel.none) ?_
  ((try simp only [List.cons_append, List.nil_append]); repeat (first | exact ent_refl | refine ent_take (by repeat (first | exact Find.here | apply Find.there)) ?_ | refine ent_drop ?_))
/-- Where a class's stack lies. -/
def ofC (b : Nat) (c : Int) : Option Addr := if 0 ≤ c ∧ c < 7 then some ⟨b, c.toNat * 5, none⟩ else none
theorem cpages_pos {c : Int} (h0 : 0 ≤ c) (h1 : c < 7) : 0 < cpages c := by
  unfold cpages
  rw [if_pos ⟨h0, h1⟩]
  have := Nat.two_pow_pos c.toNat
  omega
theorem cof_spec (b : Nat) (c : Int) : Spec Try.prog 46 [.pointer (some ⟨b, 0, none⟩), .int .i64 c] [] (fun v L => v = .pointer (ofC b c) ∧ L = []) := by
  refine Spec.intro (IsEnt.out) Try.func46 rfl Try.ntmps46 (by simp) (fun w0 F => ?_)
  simp only [envOf, List.zipIdx, List.map, List.cons_append, List.nil_append, Nat.zero_add, Nat.reduceAdd]
  repeat (first | refine ZT ?_ | refine Zp pv_move ?_ | refine Zp pv_assign ?_ | refine Zp pv_eqnil ?_ | refine X_seq ?_ | refine X_region ?_ | refine XO_nil ?_ | refine XE_code ?_)
  refine XO_call (cpages_spec c) (hk := ?_)
  rintro _ _ ⟨rfl, rfl⟩
  repeat (first | refine ZT ?_ | refine Zp pv_cmp ?_ | refine Zp pv_pickF ?_ | refine XO_nil ?_ | refine XE_code ?_)
  refine X_cond rfl (fun h => ?_) (fun h => ?_)
  · have h0 : cpages c = 0 := by simpa using h
    have hn : ¬ (0 ≤ c ∧ c < 7) := fun h' => by have := cpages_pos h'.1 h'.2; omega
    have ho : ofC b c = none := by unfold ofC; rw [if_neg hn]
    rw [ho]
    repeat (first | refine Zp pv_assign ?_ | refine X_seq ?_ | refine X_region ?_ | refine X_ret ?_ | refine XO_nil ?_ | refine XE_code ?_ | refine XE_code_ret ?_)
    refine XE_ret (.inl rfl) (tells_tmps rfl rfl) ⟨_, ⟨rfl, rfl⟩, by ((try simp only [List.cons_append, List.nil_append]); repeat (first | exact ent_refl | refine ent_take (by repeat (first | exact Find.here | apply Find.there)) ?_ | refine ent_drop ?_))⟩
  · have h0 : ¬ cpages c = 0 := by simpa using h
    have hn : 0 ≤ c ∧ c < 7 := by
      refine Decidable.byContradiction fun h' => h0 ?_
      unfold cpages; rw [if_neg h']
    have ho : ofC b c = some ⟨b, c.toNat * 5, none⟩ := by unfold ofC; rw [if_pos hn]
    rw [ho]
    repeat (first | refine Zp pv_move ?_ | refine Zp pv_assign ?_ | refine Zp pv_nil_ptr ?_ | refine Zp pv_field ?_ | refine Zp pv_indexArr ?_ | refine X_seq ?_ | refine X_region ?_ | refine X_skip ?_ | refine X_ret ?_ | refine XO_nil ?_ | refine XE_code ?_)
    refine XE_ret (.inl rfl) (tells_tmps rfl rfl) ⟨_, ⟨?_, rfl⟩, by ((try simp only [List.cons_append, List.nil_append]); repeat (first | exact ent_refl | refine ent_take (by repeat (first | exact Find.here | apply Find.there)) ?_ | refine ent_drop ?_))⟩
    show Value.pointer _ = _
    simp
def cpushP (b : Nat) (ks : Nat → List Int) (c p : Int) : Value → List HP → Prop :=
  if 0 ≤ c ∧ c < 7 ∧ 0 ≤ p ∧ (ks c.toNat).length < 4 then fun v L => v = .bool true ∧ L = [Kc b (upd ks c.toNat (ks c.toNat ++ [p]))] else fun v L => v = .bool false ∧ L = [Kc b ks]
theorem cpush_spec (b : Nat) (ks : Nat → List Int) (c p : Int) : Spec Try.prog 28 [.pointer (some ⟨b, 0, none⟩), .int .i64 c, .int .i64 p] [Kc b ks] (cpushP b ks c p) := by
  refine Spec.intro (IsEnt.out) Try.func28 rfl Try.ntmps28 (by simp) (fun w0 F => ?_)
  simp only [envOf, List.zipIdx, List.map, List.cons_append, List.nil_append, Nat.zero_add, Nat.reduceAdd]
  repeat (first | refine Zp pv_move ?_ | refine Zp pv_assign ?_ | refine X_seq ?_ | refine X_region ?_ | refine XO_nil ?_ | refine XE_code ?_)
  refine XO_call (cof_spec b c) (hk := ?_)
  rintro _ _ ⟨rfl, rfl⟩
  by_cases hc : 0 ≤ c ∧ c < 7
  · have ho : ofC b c = some ⟨b, c.toNat * 5, none⟩ := by unfold ofC; rw [if_pos hc]
    rw [ho]
    repeat (first | refine ZT ?_ | refine Zp pv_move ?_ | refine Zp pv_assign ?_ | refine Zp pv_cmp ?_ | refine Zp pv_pickF ?_ | refine Zp pv_eqnil ?_ | refine X_seq ?_ | refine X_region ?_ | refine XO_nil ?_ | refine XE_code ?_)
    refine XO_either (hT := fun h => ?_) (hF := fun h => ?_) <;> simp only [decide_eq_true_eq, decide_eq_false_iff_not] at h
    · have hP : cpushP b ks c p = fun v L => v = .bool false ∧ L = [Kc b ks] := by unfold cpushP; rw [if_neg (by omega)]
      rw [hP]
      repeat (first | refine ZF ?_ | refine Zp pv_pickT ?_ | refine XO_nil ?_ | refine XE_code ?_)
      refine X_cond rfl (fun _ => ?_) (fun h => by cases h)
      repeat (first | refine Zp pv_assign ?_ | refine X_seq ?_ | refine X_region ?_ | refine X_ret ?_ | refine XO_nil ?_ | refine XE_code ?_ | refine XE_code_ret ?_)
      refine XE_ret (.inl rfl) (tells_tmps rfl rfl) ⟨_, ⟨rfl, rfl⟩, by ((try simp only [List.cons_append, List.nil_append]); repeat (first | exact ent_refl | refine ent_take (by repeat (first | exact Find.here | apply Find.there)) ?_ | refine ent_drop ?_))⟩
    refine XO_open .here Kc.open ?_
    rintro fl ⟨hl, hk⟩
    dsimp only [List.cons_append, List.nil_append]
    obtain ⟨k1, k2, k3⟩ := hk c.toNat (by omega)
    repeat (first | refine ZT ?_ | refine Zp pv_move ?_ | refine Zp pv_nil_ptr ?_ | refine Zp pv_field ?_)
    refine XO_rv (rv_at (i := c.toNat * 5 + 4)) (hk := ?_)
    rw [k2]
    repeat (first | refine ZT ?_ | refine Zp pv_cmp ?_ | refine Zp pv_pickF ?_ | refine XO_nil ?_ | refine XE_code ?_)
    refine X_cond rfl (fun h2 => ?_) (fun h2 => ?_)
    · have h3 : ((ks c.toNat).length : Int) = 4 := by simpa using h2
      have hP : cpushP b ks c p = fun v L => v = .bool false ∧ L = [Kc b ks] := by unfold cpushP; rw [if_neg (by omega)]
      rw [hP]
      repeat (first | refine Zp pv_assign ?_ | refine X_seq ?_ | refine X_region ?_ | refine X_ret ?_ | refine XO_nil ?_ | refine XE_code ?_ | refine XE_code_ret ?_)
      refine XE_ret (.inl rfl) (tells_tmps rfl rfl) ⟨_, ⟨rfl, rfl⟩, ?_⟩
      refine ent_fold (by repeat (first | exact FindAll.nil | exact Find.here | apply Find.there | apply FindAll.cons)) (Kc.fold ⟨hl, hk⟩) ?_
      ((try simp only [List.cons_append, List.nil_append]); repeat (first | exact ent_refl | refine ent_take (by repeat (first | exact Find.here | apply Find.there)) ?_ | refine ent_drop ?_))
    · have h3 : ¬ ((ks c.toNat).length : Int) = 4 := by simpa using h2
      have hP : cpushP b ks c p = fun v L => v = .bool true ∧ L = [Kc b (upd ks c.toNat (ks c.toNat ++ [p]))] := by unfold cpushP; rw [if_pos (by omega)]
      rw [hP]
      have hpu := KcRel.push (p := p) ⟨hl, hk⟩ (show c.toNat < 7 by omega) (by omega)
      repeat (first | refine X_seq ?_ | refine X_skip ?_ | refine XE_code ?_)
      repeat (first | refine Dp pv_move ?_ | refine Dp pv_nil_ptr ?_ | refine Dp pv_field ?_ | refine XD_pick (h := ?_) | refine X_draws (h := ?_))
      refine XDi_rvA (rv_at (i := c.toNat * 5 + 4)) (h := ?_)
      rw [k2]
      repeat (first | refine Dp pv_move ?_ | refine Dp pv_nil_ptr ?_ | refine Dp pv_field ?_ | refine Dp pv_indexArr ?_ | refine XD_pick (h := ?_))
      refine XD_one (h := ?_)
      refine XDa_dvk0 (dv_putAt (kk := .i64) (i := c.toNat * 5 + (ks c.toNat).length * 1)) (K := _) (hk := ?_)
      rintro _ _ rfl
      refine ⟨by (repeat (first | exact keeps_nil | exact keeps_fnil | refine keeps_skip (h := ?_) | refine keeps_takeA (hv := by first | exact rv_load | exact rv_loadW | exact rv_loadS) (h := ?_))), ?_⟩
      simp only [Nat.mul_one]
      (refine XD_end (h := ?_); repeat (first | refine Zp pv_move ?_ | refine Zp pv_nil_ptr ?_ | refine Zp pv_field ?_ | refine X_seq ?_ | refine X_region ?_ | refine XE_code ?_))
      refine XO_rv (rv_at (i := c.toNat * 5 + 4) (hl := by simp; omega)) (hk := ?_)
      rw [getD_set (by omega), if_neg (by omega), k2]
      repeat (first | refine Zp pv_nil_ptr ?_ | refine Zp pv_arith ?_ | refine Zp pv_field ?_)
      refine XO_dv0 (dv_putAt (kk := .i64) (i := c.toNat * 5 + 4) (hl := by simp; omega)) (hk := ?_)
      rintro _ _ rfl
      repeat (first | refine Zp pv_assign ?_ | refine X_seq ?_ | refine X_region ?_ | refine X_ret ?_ | refine XO_nil ?_ | refine XE_code ?_)
      refine XE_ret (.inl rfl) (tells_tmps rfl rfl) ⟨_, ⟨rfl, rfl⟩, ?_⟩
      refine ent_fold (by repeat (first | exact FindAll.nil | exact Find.here | apply Find.there | apply FindAll.cons)) (Kc.fold hpu) ?_
      ((try simp only [List.cons_append, List.nil_append]); repeat (first | exact ent_refl | refine ent_take (by repeat (first | exact Find.here | apply Find.there)) ?_ | refine ent_drop ?_))
  · have ho : ofC b c = none := by unfold ofC; rw [if_neg hc]
    have hP : cpushP b ks c p = fun v L => v = .bool false ∧ L = [Kc b ks] := by unfold cpushP; rw [if_neg (by omega)]
    rw [ho, hP]
    repeat (first | refine ZF ?_ | refine Zp pv_move ?_ | refine Zp pv_assign ?_ | refine Zp pv_pickT ?_ | refine Zp pv_eqnil ?_ | refine X_seq ?_ | refine X_region ?_ | refine XO_nil ?_ | refine XE_code ?_)
    refine X_cond rfl (fun _ => ?_) (fun h => by cases h)
    repeat (first | refine Zp pv_assign ?_ | refine X_seq ?_ | refine X_region ?_ | refine X_ret ?_ | refine XO_nil ?_ | refine XE_code ?_ | refine XE_code_ret ?_)
    refine XE_ret (.inl rfl) (tells_tmps rfl rfl) ⟨_, ⟨rfl, rfl⟩, by ((try simp only [List.cons_append, List.nil_append]); repeat (first | exact ent_refl | refine ent_take (by repeat (first | exact Find.here | apply Find.there)) ?_ | refine ent_drop ?_))⟩
def cpopP (b : Nat) (ks : Nat → List Int) (c : Int) : Value → List HP → Prop :=
  if 0 ≤ c ∧ c < 7 ∧ 0 < (ks c.toNat).length then fun v L => v = .tuple #[.int .i64 ((ks c.toNat).getD ((ks c.toNat).length - 1) 0), .bool true] ∧ L = [Kc b (upd ks c.toNat (ks c.toNat).dropLast)] else fun v L => v = .tuple #[.int .i64 0, .bool false] ∧ L = [Kc b ks]
theorem cpop_spec (b : Nat) (ks : Nat → List Int) (c : Int) : Spec Try.prog 39 [.pointer (some ⟨b, 0, none⟩), .int .i64 c] [Kc b ks] (cpopP b ks c) := by
  refine Spec.intro (IsEnt.out) Try.func39 rfl Try.ntmps39 (by simp) (fun w0 F => ?_)
  simp only [envOf, List.zipIdx, List.map, List.cons_append, List.nil_append, Nat.zero_add, Nat.reduceAdd]
  repeat (first | refine Zp pv_move ?_ | refine Zp pv_assign ?_ | refine X_seq ?_ | refine X_region ?_ | refine XO_nil ?_ | refine XE_code ?_)
  refine XO_call (cof_spec b c) (hk := ?_)
  rintro _ _ ⟨rfl, rfl⟩
  by_cases hc : 0 ≤ c ∧ c < 7
  · have ho : ofC b c = some ⟨b, c.toNat * 5, none⟩ := by unfold ofC; rw [if_pos hc]
    rw [ho]
    repeat (first | refine ZT ?_ | refine Zp pv_move ?_ | refine Zp pv_assign ?_ | refine Zp pv_nil_ptr ?_ | refine Zp pv_field ?_ | refine Zp pv_eqnil ?_ | refine X_seq ?_ | refine X_region ?_ | refine XO_nil ?_ | refine XE_code ?_)
    refine XO_open .here Kc.open ?_
    rintro fl ⟨hl, hk⟩
    dsimp only [List.cons_append, List.nil_append]
    obtain ⟨k1, k2, k3⟩ := hk c.toNat (by omega)
    repeat (fail)
    refine XO_rv (rv_at (i := c.toNat * 5 + 4)) (hk := ?_)
    rw [k2]
    repeat (first | refine ZT ?_ | refine Zp pv_cmp ?_ | refine Zp pv_pickF ?_ | refine XO_nil ?_ | refine XE_code ?_)
    refine X_cond rfl (fun h2 => ?_) (fun h2 => ?_)
    · have h3 : ((ks c.toNat).length : Int) = 0 := by simpa using h2
      have hP : cpopP b ks c = fun v L => v = .tuple #[.int .i64 0, .bool false] ∧ L = [Kc b ks] := by unfold cpopP; rw [if_neg (by omega)]
      rw [hP]
      repeat (first | refine Zp pv_assign ?_ | refine X_seq ?_ | refine X_region ?_ | refine X_ret ?_ | refine XO_nil ?_ | refine XE_code ?_ | refine XE_code_ret ?_)
      refine XE_ret (.inl rfl) (tells_tmps rfl rfl) ⟨_, ⟨rfl, rfl⟩, ?_⟩
      refine ent_fold (by repeat (first | exact FindAll.nil | exact Find.here | apply Find.there | apply FindAll.cons)) (Kc.fold ⟨hl, hk⟩) ?_
      ((try simp only [List.cons_append, List.nil_append]); repeat (first | exact ent_refl | refine ent_take (by repeat (first | exact Find.here | apply Find.there)) ?_ | refine ent_drop ?_))
    · have h3 : ¬ ((ks c.toNat).length : Int) = 0 := by simpa using h2
      have hP : cpopP b ks c = fun v L => v = .tuple #[.int .i64 ((ks c.toNat).getD ((ks c.toNat).length - 1) 0), .bool true] ∧ L = [Kc b (upd ks c.toNat (ks c.toNat).dropLast)] := by unfold cpopP; rw [if_pos (by omega)]
      rw [hP]
      have hpo := KcRel.pop ⟨hl, hk⟩ (show c.toNat < 7 by omega)
      have k4 := k3 ((ks c.toNat).length - 1) (by omega)
      have k5 : (((ks c.toNat).length - 1 : Nat) : Int) = ((ks c.toNat).length : Int) - 1 := by omega
      repeat (first | refine Zp pv_move ?_ | refine Zp pv_nil_ptr ?_ | refine Zp pv_field ?_ | refine X_seq ?_ | refine X_region ?_ | refine X_skip ?_ | refine XE_code ?_)
      refine XO_rv (rv_at (i := c.toNat * 5 + 4)) (hk := ?_)
      rw [k2]
      repeat (first | refine Zp pv_nil_ptr ?_ | refine Zp pv_arith ?_ | refine Zp pv_field ?_)
      refine XO_dv0 (dv_putAt (kk := .i64) (i := c.toNat * 5 + 4)) (hk := ?_)
      rintro _ _ rfl
      rw [← k5]
      repeat (first | refine X_seq ?_ | refine XO_nil ?_ | refine XE_code ?_)
      repeat (first | refine Dp pv_move ?_ | refine Dp pv_nil_ptr ?_ | refine Dp pv_field ?_ | refine XD_pick (h := ?_) | refine X_draws (h := ?_))
      refine XDi_rvA (rv_at (i := c.toNat * 5 + 4) (hl := by simp; omega)) (h := ?_)
      rw [getD_set (by omega), if_pos rfl]
      repeat (first | refine Dp pv_nil_ptr ?_ | refine Dp pv_field ?_ | refine Dp pv_indexArr ?_ | refine XD_pick (h := ?_))
      refine XDi_rvA (rv_at (i := c.toNat * 5 + ((ks c.toNat).length - 1) * 1) (hl := by simp; omega)) (h := ?_)
      simp only [Nat.mul_one]
      rw [getD_set (by omega), if_neg (by omega), k4]
      repeat (fail)
      (refine XD_one (h := ?_); refine XDa_dvA (dv_of_rv (rv_of_pv pv_assign)) (hk := ?_); rintro _ _ ⟨rfl, rfl⟩; refine ⟨by (repeat (first | exact keeps_nil | exact keeps_fnil | refine keeps_skip (h := ?_) | refine keeps_takeA (hv := by first | exact rv_load | exact rv_loadW | exact rv_loadS) (h := ?_))), ?_⟩)
      (refine XD_one (h := ?_); refine XDa_dvA (dv_of_rv (rv_of_pv pv_assign)) (hk := ?_); rintro _ _ ⟨rfl, rfl⟩; refine ⟨by (repeat (first | exact keeps_nil | exact keeps_fnil | refine keeps_skip (h := ?_) | refine keeps_takeA (hv := by first | exact rv_load | exact rv_loadW | exact rv_loadS) (h := ?_))), ?_⟩)
      (refine XD_end (h := ?_); repeat (first | refine X_ret ?_ | refine XE_code ?_))
      refine XE_ret (.inl rfl) (tells_tmps rfl rfl) ⟨_, ⟨rfl, rfl⟩, ?_⟩
      refine ent_fold (by repeat (first | exact FindAll.nil | exact Find.here | apply Find.there | apply FindAll.cons)) (Kc.fold hpo) ?_
      ((try simp only [List.cons_append, List.nil_append]); repeat (first | exact ent_refl | refine ent_take (by repeat (first | exact Find.here | apply Find.there)) ?_ | refine ent_drop ?_))
  · have ho : ofC b c = none := by unfold ofC; rw [if_neg hc]
    have hP : cpopP b ks c = fun v L => v = .tuple #[.int .i64 0, .bool false] ∧ L = [Kc b ks] := by unfold cpopP; rw [if_neg (by omega)]
    rw [ho, hP]
    repeat (first | refine ZF ?_ | refine Zp pv_move ?_ | refine Zp pv_assign ?_ | refine Zp pv_pickT ?_ | refine Zp pv_eqnil ?_ | refine X_seq ?_ | refine X_region ?_ | refine XO_nil ?_ | refine XE_code ?_)
    refine X_cond rfl (fun _ => ?_) (fun h => by cases h)
    repeat (first | refine Zp pv_assign ?_ | refine X_seq ?_ | refine X_region ?_ | refine X_ret ?_ | refine XO_nil ?_ | refine XE_code ?_ | refine XE_code_ret ?_)
    refine XE_ret (.inl rfl) (tells_tmps rfl rfl) ⟨_, ⟨rfl, rfl⟩, by ((try simp only [List.cons_append, List.nil_append]); repeat (first | exact ent_refl | refine ent_take (by repeat (first | exact Find.here | apply Find.there)) ?_ | refine ent_drop ?_))⟩
theorem clen_spec (b : Nat) (ks : Nat → List Int) (c : Int) (h0 : 0 ≤ c) (h1 : c < 7) : Spec Try.prog 50 [.pointer (some ⟨b, 0, none⟩), .int .i64 c] [Kc b ks] (fun v L => v = .int .i64 ((ks c.toNat).length : Int) ∧ L = [Kc b ks]) := by
  refine Spec.intro (IsEnt.out) Try.func50 rfl Try.ntmps50 (by simp) (fun w0 F => ?_)
  simp only [envOf, List.zipIdx, List.map, List.cons_append, List.nil_append, Nat.zero_add, Nat.reduceAdd]
  repeat (first | refine Zp pv_move ?_ | refine Zp pv_assign ?_ | refine X_seq ?_ | refine X_region ?_ | refine XO_nil ?_ | refine XE_code ?_)
  refine XO_call (cof_spec b c) (hk := ?_)
  rintro _ _ ⟨rfl, rfl⟩
  have ho : ofC b c = some ⟨b, c.toNat * 5, none⟩ := by unfold ofC; rw [if_pos ⟨h0, h1⟩]
  rw [ho]
  repeat (first | refine Zp pv_move ?_ | refine Zp pv_assign ?_ | refine Zp pv_eqnil ?_ | refine X_seq ?_ | refine X_region ?_ | refine XO_nil ?_ | refine XE_code ?_)
  refine X_cond rfl (fun h => by cases h) (fun _ => ?_)
  refine X_open .here Kc.open ?_
  rintro fl ⟨hl, hk⟩
  dsimp only [List.cons_append, List.nil_append]
  obtain ⟨k1, k2, k3⟩ := hk c.toNat (by omega)
  repeat (first | refine Zp pv_move ?_ | refine Zp pv_nil_ptr ?_ | refine Zp pv_field ?_ | refine X_seq ?_ | refine X_region ?_ | refine X_skip ?_ | refine XE_code ?_)
  refine XO_rv (rv_at (i := c.toNat * 5 + 4)) (hk := ?_)
  rw [k2]
  repeat (first | refine Zp pv_assign ?_ | refine X_ret ?_ | refine XO_nil ?_ | refine XE_code ?_)
  refine XE_ret (.inl rfl) (tells_tmps rfl rfl) ⟨_, ⟨rfl, rfl⟩, ?_⟩
  refine ent_fold (by repeat (first | exact FindAll.nil | exact Find.here | apply Find.there | apply FindAll.cons)) (Kc.fold ⟨hl, hk⟩) ?_
  ((try simp only [List.cons_append, List.nil_append]); repeat (first | exact ent_refl | refine ent_take (by repeat (first | exact Find.here | apply Find.there)) ?_ | refine ent_drop ?_))
def kpages (ks : Nat → List Int) : Nat → Int
  | 0 => 0
  | k + 1 => kpages ks k + (ks k).length * cpages k
def kall (ks : Nat → List Int) : Nat → List (Int × Int)
  | 0 => []
  | k + 1 => kall ks k ++ (ks k).map fun p => (p, cpages k)
end Go.Proofs.Yteobjankkcdaoaa.Sep
