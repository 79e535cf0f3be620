import Derived.Test.YtamecmklcnohjaaGreatBn4
import Derived.Test.YtamecmklcnohjaaGreatBn3
import Derived.Test.YtamecmklcnohjaaGreatBn5
/- What the laws share: a separation logic over the model, and what the program's functions do, by it. Part 6 of 14: ClassA Cache CacheB CoDef Part Bits Classes Bump. -/
namespace Go.Proofs.YtamecmklcnohjaaGreat.Sep
open Go.RowKit
set_option linter.unusedSimpArgs false
set_option linter.unusedVariables false
set_option maxHeartbeats 8000000
attribute [local irreducible] X XE XO XD XDi XDa PV RV DV pt base Spec Sl Mp Keeps

def cpages (c : Int) : Int := if 0 ≤ c ∧ c < 7 then ((2 ^ c.toNat : Nat) : Int) else 0
def cclass (p : Int) : Int := if p < 1 then -1 else if p ≤ 1 then 0 else if p ≤ 2 then 1 else if p ≤ 4 then 2 else if p ≤ 8 then 3 else if p ≤ 16 then 4 else if p ≤ 32 then 5 else if p ≤ 64 then 6 else -1
theorem seven {c : Int} (h0 : 0 ≤ c) (h1 : c < 7) : c = 0 ∨ c = 1 ∨ c = 2 ∨ c = 3 ∨ c = 4 ∨ c = 5 ∨ c = 6 := by omega
theorem cpages_spec (c : Int) : Spec Tryz.prog 115 [.int .i64 c] [] (fun v L => v = .int .i64 (cpages c) ∧ L = []) := by
  refine Spec.intro (IsEnt.out) Tryz.func115 rfl Tryz.ntmps115 (by simp) (fun w0 F => ?_)
  simp only [envOf, List.zipIdx, List.map, List.cons_append, List.nil_append, Nat.zero_add, Nat.reduceAdd]
  repeat (first | refine Zq ?_ | refine Zs ?_ | refine ZT ?_ | refine ZF ?_ | refine Zc ?_ | refine XO_gU (hk := ?_))
  refine XO_either (hT := fun h => ?_) (hF := fun h => ?_) <;> simp only [decide_eq_true_eq, decide_eq_false_iff_not] at h
  · repeat (first | refine Zq ?_ | refine Zs ?_ | refine ZT ?_ | refine ZF ?_ | refine Zc ?_ | refine XO_gU (hk := ?_))
    refine X_cond rfl (fun _ => ?_) (fun h => by cases h)
    repeat (first | refine Zq ?_ | refine Zs ?_ | refine ZT ?_ | refine ZF ?_ | refine Zc ?_ | refine XO_gU (hk := ?_))
    unfold cpages
    rw [if_neg (by omega)]
    refine XE_ret (.inl rfl) (tells_tmps rfl rfl) ⟨_, ⟨rfl, rfl⟩, by ((try simp only [List.cons_append, List.nil_append]); repeat (first | exact ent_refl | refine ent_take (by repeat (first | exact Find.here | apply Find.there)) ?_ | refine ent_drop ?_))⟩
  · repeat (first | refine Zq ?_ | refine Zs ?_ | refine ZT ?_ | refine ZF ?_ | refine Zc ?_ | refine XO_gU (hk := ?_))
    refine X_cond rfl (fun h2 => ?_) (fun h2 => ?_) <;> simp only [decide_eq_true_eq, decide_eq_false_iff_not] at h2
    · repeat (first | refine Zq ?_ | refine Zs ?_ | refine ZT ?_ | refine ZF ?_ | refine Zc ?_ | refine XO_gU (hk := ?_))
      unfold cpages
      rw [if_neg (by omega)]
      refine XE_ret (.inl rfl) (tells_tmps rfl rfl) ⟨_, ⟨rfl, rfl⟩, by ((try simp only [List.cons_append, List.nil_append]); repeat (first | exact ent_refl | refine ent_take (by repeat (first | exact Find.here | apply Find.there)) ?_ | refine ent_drop ?_))⟩
    · repeat (first | refine Zq ?_ | refine Zs ?_ | refine ZT ?_ | refine ZF ?_ | refine Zc ?_ | refine XO_gU (hk := ?_))
      refine XO_pv (pv_shlN (b := c)) (hk := ?_)
      repeat (first | refine Zq ?_ | refine Zs ?_ | refine ZT ?_ | refine ZF ?_ | refine Zc ?_ | refine XO_gU (hk := ?_))
      have e1 : IntKind.i64.wrap (1 * ((2 ^ min c.toNat IntKind.i64.bits : Nat) : Int)) = cpages c := by
        rcases seven (c := c) (by omega) (by omega) with rfl | rfl | rfl | rfl | rfl | rfl | rfl <;> rfl
      rw [e1]
      refine XE_ret (.inl rfl) (tells_tmps rfl rfl) ⟨_, ⟨rfl, rfl⟩, by ((try simp only [List.cons_append, List.nil_append]); repeat (first | exact ent_refl | refine ent_take (by repeat (first | exact Find.here | apply Find.there)) ?_ | refine ent_drop ?_))⟩
theorem cclass_spec (p : Int) : Spec Tryz.prog 116 [.int .i64 p] [] (fun v L => v = .int .i64 (cclass p) ∧ L = []) := by
  refine Spec.intro (IsEnt.out) Tryz.func116 rfl Tryz.ntmps116 (by simp) (fun w0 F => ?_)
  simp only [envOf, List.zipIdx, List.map, List.cons_append, List.nil_append, Nat.zero_add, Nat.reduceAdd]
  repeat (first | refine Zq ?_ | refine Zs ?_ | refine ZT ?_ | refine ZF ?_ | refine Zc ?_ | refine XO_gU (hk := ?_))
  refine X_loop (ι := Nat) (fun k => k ≤ 7 ∧ ∀ j : Nat, j < k → ¬ (0 < p ∧ p ≤ cpages j)) (fun k => [(0, .int .i64 p), (4, .int .i64 k)]) (fun _ => F) (fun k => 7 - k) 0 ⟨Nat.zero_le _, fun j h => by omega⟩ ?_ (fun _ h => h) ?_
  · (repeat (first | exact Env.sub_nil _ | refine Env.sub_cons rfl ?_))
  rintro k ⟨hk, hj⟩
  dsimp only at hk hj ⊢
  repeat (first | refine Zq ?_ | refine Zs ?_ | refine ZT ?_ | refine ZF ?_ | refine Zc ?_ | refine XO_gU (hk := ?_))
  refine X_cond rfl (fun hc => ?_) (fun hc => ?_) <;> simp only [decide_eq_true_eq, decide_eq_false_iff_not] at hc
  · repeat (first | refine Zq ?_ | refine Zs ?_ | refine ZT ?_ | refine ZF ?_ | refine Zc ?_ | refine XO_gU (hk := ?_))
    refine XO_either (hT := fun h => ?_) (hF := fun h => ?_) <;> simp only [decide_eq_true_eq, decide_eq_false_iff_not] at h
    · repeat (first | refine Zq ?_ | refine Zs ?_ | refine ZT ?_ | refine ZF ?_ | refine Zc ?_ | refine XO_gU (hk := ?_))
      refine XO_call (cpages_spec k) (hk := ?_)
      rintro _ _ ⟨rfl, rfl⟩
      repeat (first | refine Zq ?_ | refine Zs ?_ | refine ZT ?_ | refine ZF ?_ | refine Zc ?_ | refine XO_gU (hk := ?_))
      refine X_cond rfl (fun h2 => ?_) (fun h2 => ?_) <;> simp only [decide_eq_true_eq, decide_eq_false_iff_not] at h2
      · have hcl : cclass p = k := by
          have key : ∀ j : Nat, j < k → cpages j < p := fun j hjk => by have := hj j hjk; omega
          have hk7 : k < 7 := by omega
          have h7 : k = 0 ∨ k = 1 ∨ k = 2 ∨ k = 3 ∨ k = 4 ∨ k = 5 ∨ k = 6 := by omega
          rcases h7 with rfl | rfl | rfl | rfl | rfl | rfl | rfl
          · have h3 : p ≤ 1 := h2
            unfold cclass; split <;> omega
          · have h3 : p ≤ 2 := h2
            have h4 : (1 : Int) < p := key 0 (by decide)
            unfold cclass; repeat' split
            all_goals omega
          · have h3 : p ≤ 4 := h2
            have h4 : (2 : Int) < p := key 1 (by decide)
            unfold cclass; repeat' split
            all_goals omega
          · have h3 : p ≤ 8 := h2
            have h4 : (4 : Int) < p := key 2 (by decide)
            unfold cclass; repeat' split
            all_goals omega
          · have h3 : p ≤ 16 := h2
            have h4 : (8 : Int) < p := key 3 (by decide)
            unfold cclass; repeat' split
            all_goals omega
          · have h3 : p ≤ 32 := h2
            have h4 : (16 : Int) < p := key 4 (by decide)
            unfold cclass; repeat' split
            all_goals omega
          · have h3 : p ≤ 64 := h2
            have h4 : (32 : Int) < p := key 5 (by decide)
            unfold cclass; repeat' split
            all_goals omega
        repeat (first | refine Zq ?_ | refine Zs ?_ | refine ZT ?_ | refine ZF ?_ | refine Zc ?_ | refine XO_gU (hk := ?_))
        rw [← hcl]
        refine XE_ret (.inl rfl) (tells_tmps rfl rfl) ⟨_, ⟨rfl, rfl⟩, by ((try simp only [List.cons_append, List.nil_append]); repeat (first | exact ent_refl | refine ent_take (by repeat (first | exact Find.here | apply Find.there)) ?_ | refine ent_drop ?_))⟩
      · repeat (first | refine Zq ?_ | refine Zs ?_ | refine ZT ?_ | refine ZF ?_ | refine Zc ?_ | refine XO_gU (hk := ?_))
        refine X_round (k + 1) ?_ ?_ ?_ (fun _ h => h)
        · refine ⟨by omega, fun j hjk => ?_⟩
          rcases Nat.lt_or_ge j k with hlt | hge
          · exact hj j hlt
          · obtain rfl : j = k := by omega
            exact fun h3 => h2 h3.2
        · show 7 - (k + 1) < 7 - k; omega
        · (repeat (first | exact Env.sub_nil _ | refine Env.sub_cons rfl ?_))
    · repeat (first | refine Zq ?_ | refine Zs ?_ | refine ZT ?_ | refine ZF ?_ | refine Zc ?_ | refine XO_gU (hk := ?_))
      refine X_cond rfl (fun h => by cases h) (fun _ => ?_)
      repeat (first | refine Zq ?_ | refine Zs ?_ | refine ZT ?_ | refine ZF ?_ | refine Zc ?_ | refine XO_gU (hk := ?_))
      refine X_round (k + 1) ?_ ?_ ?_ (fun _ h => h)
      · refine ⟨by omega, fun j hjk h3 => h h3.1⟩
      · show 7 - (k + 1) < 7 - k; omega
      · (repeat (first | exact Env.sub_nil _ | refine Env.sub_cons rfl ?_))
  · obtain rfl : k = 7 := by omega
    have hcl : cclass p = -1 := by
      by_cases h0 : 0 < p
      · have h4 : (64 : Int) < p := by
          have := hj 6 (by decide)
          have e : cpages ((6 : Nat) : Int) = 64 := rfl
          rw [e] at this; omega
        unfold cclass; repeat' split
        all_goals omega
      · unfold cclass; rw [if_pos (by omega)]
    repeat (first | refine Zq ?_ | refine Zs ?_ | refine ZT ?_ | refine ZF ?_ | refine Zc ?_ | refine XO_gU (hk := ?_))
    rw [← hcl]
    refine XE_ret (.inl rfl) (tells_tmps rfl rfl) ⟨_, ⟨rfl, rfl⟩, by ((try simp only [List.cons_append, List.nil_append]); repeat (first | exact ent_refl | refine ent_take (by repeat (first | exact Find.here | apply Find.there)) ?_ | refine ent_drop ?_))⟩
end Go.Proofs.YtamecmklcnohjaaGreat.Sep
namespace Go.Proofs.YtamecmklcnohjaaGreat.Sep
open Go.RowKit
set_option linter.unusedSimpArgs false
set_option linter.unusedVariables false

/-- What is kept: a stack for each of seven classes. -/
def KcRel (fl : List Int) (ks : Nat → List Int) : Prop := fl.length = 35 ∧ ∀ k, k < 7 → (ks k).length ≤ 4 ∧ fl.getD (k * 5 + 4) 0 = ((ks k).length : Int) ∧ ∀ j, j < (ks k).length → fl.getD (k * 5 + j) 0 = (ks k).getD j 0
def Kc (b : Nat) (ks : Nat → List Int) : HP := fun H => ∃ fl, KcRel fl ks ∧ SL [Sl (eI .i64) (some ⟨b, 0, none⟩) 35 fl] H
theorem Kc.open {b : Nat} {ks : Nat → List Int} : ∀ H, Kc b ks H → ∃ fl, KcRel fl ks ∧ SL [Sl (eI .i64) (some ⟨b, 0, none⟩) 35 fl] H := fun H h => h
theorem Kc.fold {b : Nat} {fl : List Int} {ks : Nat → List Int} (h : KcRel fl ks) : ∀ H, SL [Sl (eI .i64) (some ⟨b, 0, none⟩) 35 fl] H → Kc b ks H := fun H hs => ⟨fl, h, hs⟩
def upd {α : Type} (ks : Nat → α) (c : Nat) (l : α) : Nat → α := fun k => if k = c then l else ks k
set_option maxHeartbeats 8000000
attribute [local irreducible] X XE XO XD XDi XDa PV RV DV pt base Spec Sl Mp Keeps Kc

theorem KcRel.none : KcRel (List.replicate 35 0) (fun _ => []) := by
  refine ⟨by simp, fun k hk => ⟨Nat.zero_le _, ?_, fun j hj => by simp at hj⟩⟩
  have : k = 0 ∨ k = 1 ∨ k = 2 ∨ k = 3 ∨ k = 4 ∨ k = 5 ∨ k = 6 := by omega
  rcases this with rfl | rfl | rfl | rfl | rfl | rfl | rfl <;> rfl
theorem getD_set {fl : List Int} {i j : Nat} {v : Int} (hi : i < fl.length) : (fl.set i v).getD j 0 = if i = j then v else fl.getD j 0 := by
  simp only [List.getD, List.getElem?_set]
  by_cases h : i = j
  · subst h; simp [hi]
  · simp [h]
theorem KcRel.push {fl : List Int} {ks : Nat → List Int} {c : Nat} {p : Int} (h : KcRel fl ks) (hc : c < 7) (hn : (ks c).length < 4) : KcRel ((fl.set (c * 5 + (ks c).length) p).set (c * 5 + 4) ((ks c).length + 1)) (upd ks c (ks c ++ [p])) := by
  obtain ⟨hl, hk⟩ := h
  have l1 : c * 5 + (ks c).length < fl.length := by omega
  have l2 : c * 5 + 4 < (fl.set (c * 5 + (ks c).length) p).length := by simp; omega
  refine ⟨by simp [hl], fun k hk7 => ?_⟩
  obtain ⟨g1, g2, g3⟩ := hk k hk7
  unfold upd
  by_cases hkc : k = c
  · subst hkc
    simp only [if_true]
    refine ⟨by simp; omega, ?_, fun j hj => ?_⟩
    · rw [getD_set l2, if_pos rfl]; simp
    · rw [getD_set l2, if_neg (by simp at hj; omega), getD_set l1]
      by_cases hj2 : j = (ks k).length
      · subst hj2; rw [if_pos rfl]; simp [List.getD]
      · simp at hj
        rw [if_neg (by omega), g3 j (by omega)]
        simp [List.getD, List.getElem?_append_left (show j < (ks k).length by omega)]
  · simp only [if_neg hkc]
    refine ⟨g1, ?_, fun j hj => ?_⟩
    · rw [getD_set l2, if_neg (by omega), getD_set l1, if_neg (by omega)]; exact g2
    · rw [getD_set l2, if_neg (by omega), getD_set l1, if_neg (by omega)]; exact g3 j hj
theorem KcRel.pop {fl : List Int} {ks : Nat → List Int} {c : Nat} (h : KcRel fl ks) (hc : c < 7) : KcRel (fl.set (c * 5 + 4) ((ks c).length - 1 : Nat)) (upd ks c (ks c).dropLast) := by
  obtain ⟨hl, hk⟩ := h
  have l2 : c * 5 + 4 < fl.length := by omega
  refine ⟨by simp [hl], fun k hk7 => ?_⟩
  obtain ⟨g1, g2, g3⟩ := hk k hk7
  unfold upd
  by_cases hkc : k = c
  · subst hkc
    simp only [if_true]
    refine ⟨by simp; omega, ?_, fun j hj => ?_⟩
    · rw [getD_set l2, if_pos rfl]; simp
    · simp at hj
      rw [getD_set l2, if_neg (by omega), g3 j (by omega)]
      rw [List.getD, List.getD, List.getElem?_dropLast, if_pos (by omega)]
  · simp only [if_neg hkc]
    refine ⟨g1, ?_, fun j hj => ?_⟩
    · rw [getD_set l2, if_neg (by omega)]; exact g2
    · rw [getD_set l2, if_neg (by omega)]; exact g3 j hj
theorem cnew_spec : Spec Tryz.prog 55 [] [] (fun v L => ∃ b, v = .pointer (some ⟨b, 0, none⟩) ∧ L = [Kc b (fun _ => [])]) := by
  refine Spec.intro (IsEnt.out) Tryz.func55 rfl Tryz.ntmps55 (by simp) (fun w0 F => ?_)
  simp only [envOf, List.zipIdx, List.map, List.cons_append, List.nil_append, Nat.zero_add, Nat.reduceAdd]
  repeat (first | refine Zq ?_ | refine Zs ?_ | refine ZT ?_ | refine ZF ?_ | refine Zc ?_ | refine XO_gU (hk := ?_))
  refine XO_dv dv_box (hk := ?_)
  rintro _ _ ⟨b, rfl, rfl⟩
  refine XO_conv (fun _ h => SL.head (Sl.of_pt (E' := eI .i64) (xs := List.replicate 35 0) rfl) h) ?_
  repeat (first | refine Zq ?_ | refine Zs ?_ | refine ZT ?_ | refine ZF ?_ | refine Zc ?_ | refine XO_gU (hk := ?_))
  refine XE_ret (.inl rfl) (tells_tmps rfl rfl) ⟨_, ⟨b, rfl, rfl⟩, ?_⟩
  refine ent_fold (by repeat (first | exact FindAll.nil | exact Find.here | apply Find.there | apply FindAll.cons)) (Kc.fold KcRel.none) ?_
  ((try simp only [List.cons_append, List.nil_append]); repeat (first | exact ent_refl | refine ent_take (by repeat (first | exact Find.here | apply Find.there)) ?_ | refine ent_drop ?_))
/-- Where a class's stack lies. -/
def ofC (b : Nat) (c : Int) : Option Addr := if 0 ≤ c ∧ c < 7 then some ⟨b, c.toNat * 5, none⟩ else none
theorem cpages_pos {c : Int} (h0 : 0 ≤ c) (h1 : c < 7) : 0 < cpages c := by
  unfold cpages
  rw [if_pos ⟨h0, h1⟩]
  have := Nat.two_pow_pos c.toNat
  omega
theorem cof_spec (b : Nat) (c : Int) : Spec Tryz.prog 165 [.pointer (some ⟨b, 0, none⟩), .int .i64 c] [] (fun v L => v = .pointer (ofC b c) ∧ L = []) := by
  refine Spec.intro (IsEnt.out) Tryz.func165 rfl Tryz.ntmps165 (by simp) (fun w0 F => ?_)
  simp only [envOf, List.zipIdx, List.map, List.cons_append, List.nil_append, Nat.zero_add, Nat.reduceAdd]
  repeat (first | refine Zq ?_ | refine Zs ?_ | refine ZT ?_ | refine ZF ?_ | refine Zc ?_ | refine XO_gU (hk := ?_))
  refine XO_call (cpages_spec c) (hk := ?_)
  rintro _ _ ⟨rfl, rfl⟩
  repeat (first | refine Zq ?_ | refine Zs ?_ | refine ZT ?_ | refine ZF ?_ | refine Zc ?_ | refine XO_gU (hk := ?_))
  refine X_cond rfl (fun h => ?_) (fun h => ?_)
  · have h0 : cpages c = 0 := by simpa using h
    have hn : ¬ (0 ≤ c ∧ c < 7) := fun h' => by have := cpages_pos h'.1 h'.2; omega
    have ho : ofC b c = none := by unfold ofC; rw [if_neg hn]
    rw [ho]
    repeat (first | refine Zq ?_ | refine Zs ?_ | refine ZT ?_ | refine ZF ?_ | refine Zc ?_ | refine XO_gU (hk := ?_))
    refine XE_ret (.inl rfl) (tells_tmps rfl rfl) ⟨_, ⟨rfl, rfl⟩, by ((try simp only [List.cons_append, List.nil_append]); repeat (first | exact ent_refl | refine ent_take (by repeat (first | exact Find.here | apply Find.there)) ?_ | refine ent_drop ?_))⟩
  · have h0 : ¬ cpages c = 0 := by simpa using h
    have hn : 0 ≤ c ∧ c < 7 := by
      refine Decidable.byContradiction fun h' => h0 ?_
      unfold cpages; rw [if_neg h']
    have ho : ofC b c = some ⟨b, c.toNat * 5, none⟩ := by unfold ofC; rw [if_pos hn]
    rw [ho]
    repeat (first | refine Zq ?_ | refine Zs ?_ | refine ZT ?_ | refine ZF ?_ | refine Zc ?_ | refine XO_gU (hk := ?_))
    refine XE_ret (.inl rfl) (tells_tmps rfl rfl) ⟨_, ⟨?_, rfl⟩, by ((try simp only [List.cons_append, List.nil_append]); repeat (first | exact ent_refl | refine ent_take (by repeat (first | exact Find.here | apply Find.there)) ?_ | refine ent_drop ?_))⟩
    show Value.pointer _ = _
    simp
def cpushP (b : Nat) (ks : Nat → List Int) (c p : Int) : Value → List HP → Prop :=
  if 0 ≤ c ∧ c < 7 ∧ 0 ≤ p ∧ (ks c.toNat).length < 4 then fun v L => v = .bool true ∧ L = [Kc b (upd ks c.toNat (ks c.toNat ++ [p]))] else fun v L => v = .bool false ∧ L = [Kc b ks]
theorem cpush_spec (b : Nat) (ks : Nat → List Int) (c p : Int) : Spec Tryz.prog 130 [.pointer (some ⟨b, 0, none⟩), .int .i64 c, .int .i64 p] [Kc b ks] (cpushP b ks c p) := by
  refine Spec.intro (IsEnt.out) Tryz.func130 rfl Tryz.ntmps130 (by simp) (fun w0 F => ?_)
  simp only [envOf, List.zipIdx, List.map, List.cons_append, List.nil_append, Nat.zero_add, Nat.reduceAdd]
  repeat (first | refine Zq ?_ | refine Zs ?_ | refine ZT ?_ | refine ZF ?_ | refine Zc ?_ | refine XO_gU (hk := ?_))
  refine XO_call (cof_spec b c) (hk := ?_)
  rintro _ _ ⟨rfl, rfl⟩
  by_cases hc : 0 ≤ c ∧ c < 7
  · have ho : ofC b c = some ⟨b, c.toNat * 5, none⟩ := by unfold ofC; rw [if_pos hc]
    rw [ho]
    repeat (first | refine Zq ?_ | refine Zs ?_ | refine ZT ?_ | refine ZF ?_ | refine Zc ?_ | refine XO_gU (hk := ?_))
    refine XO_either (hT := fun h => ?_) (hF := fun h => ?_) <;> simp only [decide_eq_true_eq, decide_eq_false_iff_not] at h
    · have hP : cpushP b ks c p = fun v L => v = .bool false ∧ L = [Kc b ks] := by unfold cpushP; rw [if_neg (by omega)]
      rw [hP]
      repeat (first | refine Zq ?_ | refine Zs ?_ | refine ZT ?_ | refine ZF ?_ | refine Zc ?_ | refine XO_gU (hk := ?_))
      refine X_cond rfl (fun _ => ?_) (fun h => by cases h)
      repeat (first | refine Zq ?_ | refine Zs ?_ | refine ZT ?_ | refine ZF ?_ | refine Zc ?_ | refine XO_gU (hk := ?_))
      refine XE_ret (.inl rfl) (tells_tmps rfl rfl) ⟨_, ⟨rfl, rfl⟩, by ((try simp only [List.cons_append, List.nil_append]); repeat (first | exact ent_refl | refine ent_take (by repeat (first | exact Find.here | apply Find.there)) ?_ | refine ent_drop ?_))⟩
    refine XO_open .here Kc.open ?_
    rintro fl ⟨hl, hk⟩
    dsimp only [List.cons_append, List.nil_append]
    obtain ⟨k1, k2, k3⟩ := hk c.toNat (by omega)
    repeat (first | refine Zq ?_ | refine Zs ?_ | refine ZT ?_ | refine ZF ?_ | refine Zc ?_ | refine XO_gU (hk := ?_))
    refine XO_rv (rv_at (i := c.toNat * 5 + 4)) (hk := ?_)
    rw [k2]
    repeat (first | refine Zq ?_ | refine Zs ?_ | refine ZT ?_ | refine ZF ?_ | refine Zc ?_ | refine XO_gU (hk := ?_))
    refine X_cond rfl (fun h2 => ?_) (fun h2 => ?_)
    · have h3 : ((ks c.toNat).length : Int) = 4 := by simpa using h2
      have hP : cpushP b ks c p = fun v L => v = .bool false ∧ L = [Kc b ks] := by unfold cpushP; rw [if_neg (by omega)]
      rw [hP]
      repeat (first | refine Zq ?_ | refine Zs ?_ | refine ZT ?_ | refine ZF ?_ | refine Zc ?_ | refine XO_gU (hk := ?_))
      refine XE_ret (.inl rfl) (tells_tmps rfl rfl) ⟨_, ⟨rfl, rfl⟩, ?_⟩
      refine ent_fold (by repeat (first | exact FindAll.nil | exact Find.here | apply Find.there | apply FindAll.cons)) (Kc.fold ⟨hl, hk⟩) ?_
      ((try simp only [List.cons_append, List.nil_append]); repeat (first | exact ent_refl | refine ent_take (by repeat (first | exact Find.here | apply Find.there)) ?_ | refine ent_drop ?_))
    · have h3 : ¬ ((ks c.toNat).length : Int) = 4 := by simpa using h2
      have hP : cpushP b ks c p = fun v L => v = .bool true ∧ L = [Kc b (upd ks c.toNat (ks c.toNat ++ [p]))] := by unfold cpushP; rw [if_pos (by omega)]
      rw [hP]
      have hpu := KcRel.push (p := p) ⟨hl, hk⟩ (show c.toNat < 7 by omega) (by omega)
      repeat (first | refine Zq ?_ | refine Zs ?_ | refine ZT ?_ | refine ZF ?_ | refine Zc ?_ | refine XO_gU (hk := ?_))
      repeat (first | refine XD_pick (h := ?_) | refine Dq ?_ | refine Ds ?_ | refine XDi_gF (h := ?_) | refine XDi_gU (h := ?_) | refine X_draws (h := ?_))
      refine XDi_rvA (rv_at (i := c.toNat * 5 + 4)) (h := ?_)
      rw [k2]
      repeat (first | refine XD_pick (h := ?_) | refine Dq ?_ | refine Ds ?_ | refine XDi_gF (h := ?_) | refine XDi_gU (h := ?_) | refine X_draws (h := ?_))
      refine XD_one (h := ?_)
      refine XDa_dvk0 (dv_putAt (kk := .i64) (i := c.toNat * 5 + (ks c.toNat).length * 1)) (K := _) (hk := ?_)
      rintro _ _ rfl
      refine ⟨by (repeat (first | exact keeps_nil | exact keeps_fnil | refine keeps_skip (h := ?_) | refine keeps_takeQ (h := ?_))), ?_⟩
      simp only [Nat.mul_one]
      (refine XD_end (h := ?_); repeat (first | refine Zq ?_ | refine Zs ?_ | refine ZT ?_ | refine ZF ?_ | refine Zc ?_ | refine XO_gU (hk := ?_)))
      refine XO_rv (rv_at (i := c.toNat * 5 + 4) (hl := by simp; omega)) (hk := ?_)
      rw [getD_set (by omega), if_neg (by omega), k2]
      repeat (first | refine Zq ?_ | refine Zs ?_ | refine ZT ?_ | refine ZF ?_ | refine Zc ?_ | refine XO_gU (hk := ?_))
      refine XO_dv0 (dv_putAt (kk := .i64) (i := c.toNat * 5 + 4) (hl := by simp; omega)) (hk := ?_)
      rintro _ _ rfl
      repeat (first | refine Zq ?_ | refine Zs ?_ | refine ZT ?_ | refine ZF ?_ | refine Zc ?_ | refine XO_gU (hk := ?_))
      refine XE_ret (.inl rfl) (tells_tmps rfl rfl) ⟨_, ⟨rfl, rfl⟩, ?_⟩
      refine ent_fold (by repeat (first | exact FindAll.nil | exact Find.here | apply Find.there | apply FindAll.cons)) (Kc.fold hpu) ?_
      ((try simp only [List.cons_append, List.nil_append]); repeat (first | exact ent_refl | refine ent_take (by repeat (first | exact Find.here | apply Find.there)) ?_ | refine ent_drop ?_))
  · have ho : ofC b c = none := by unfold ofC; rw [if_neg hc]
    have hP : cpushP b ks c p = fun v L => v = .bool false ∧ L = [Kc b ks] := by unfold cpushP; rw [if_neg (by omega)]
    rw [ho, hP]
    repeat (first | refine Zq ?_ | refine Zs ?_ | refine ZT ?_ | refine ZF ?_ | refine Zc ?_ | refine XO_gU (hk := ?_))
    refine X_cond rfl (fun _ => ?_) (fun h => by cases h)
    repeat (first | refine Zq ?_ | refine Zs ?_ | refine ZT ?_ | refine ZF ?_ | refine Zc ?_ | refine XO_gU (hk := ?_))
    refine XE_ret (.inl rfl) (tells_tmps rfl rfl) ⟨_, ⟨rfl, rfl⟩, by ((try simp only [List.cons_append, List.nil_append]); repeat (first | exact ent_refl | refine ent_take (by repeat (first | exact Find.here | apply Find.there)) ?_ | refine ent_drop ?_))⟩
def cpopP (b : Nat) (ks : Nat → List Int) (c : Int) : Value → List HP → Prop :=
  if 0 ≤ c ∧ c < 7 ∧ 0 < (ks c.toNat).length then fun v L => v = .tuple #[.int .i64 ((ks c.toNat).getD ((ks c.toNat).length - 1) 0), .bool true] ∧ L = [Kc b (upd ks c.toNat (ks c.toNat).dropLast)] else fun v L => v = .tuple #[.int .i64 0, .bool false] ∧ L = [Kc b ks]
theorem cpop_spec (b : Nat) (ks : Nat → List Int) (c : Int) : Spec Tryz.prog 127 [.pointer (some ⟨b, 0, none⟩), .int .i64 c] [Kc b ks] (cpopP b ks c) := by
  refine Spec.intro (IsEnt.out) Tryz.func127 rfl Tryz.ntmps127 (by simp) (fun w0 F => ?_)
  simp only [envOf, List.zipIdx, List.map, List.cons_append, List.nil_append, Nat.zero_add, Nat.reduceAdd]
  repeat (first | refine Zq ?_ | refine Zs ?_ | refine ZT ?_ | refine ZF ?_ | refine Zc ?_ | refine XO_gU (hk := ?_))
  refine XO_call (cof_spec b c) (hk := ?_)
  rintro _ _ ⟨rfl, rfl⟩
  by_cases hc : 0 ≤ c ∧ c < 7
  · have ho : ofC b c = some ⟨b, c.toNat * 5, none⟩ := by unfold ofC; rw [if_pos hc]
    rw [ho]
    repeat (first | refine Zq ?_ | refine Zs ?_ | refine ZT ?_ | refine ZF ?_ | refine Zc ?_ | refine XO_gU (hk := ?_))
    refine XO_open .here Kc.open ?_
    rintro fl ⟨hl, hk⟩
    dsimp only [List.cons_append, List.nil_append]
    obtain ⟨k1, k2, k3⟩ := hk c.toNat (by omega)
    repeat (first | refine Zq ?_ | refine Zs ?_ | refine ZT ?_ | refine ZF ?_ | refine Zc ?_ | refine XO_gU (hk := ?_))
    refine XO_rv (rv_at (i := c.toNat * 5 + 4)) (hk := ?_)
    rw [k2]
    repeat (first | refine Zq ?_ | refine Zs ?_ | refine ZT ?_ | refine ZF ?_ | refine Zc ?_ | refine XO_gU (hk := ?_))
    refine X_cond rfl (fun h2 => ?_) (fun h2 => ?_)
    · have h3 : ((ks c.toNat).length : Int) = 0 := by simpa using h2
      have hP : cpopP b ks c = fun v L => v = .tuple #[.int .i64 0, .bool false] ∧ L = [Kc b ks] := by unfold cpopP; rw [if_neg (by omega)]
      rw [hP]
      repeat (first | refine Zq ?_ | refine Zs ?_ | refine ZT ?_ | refine ZF ?_ | refine Zc ?_ | refine XO_gU (hk := ?_))
      refine XE_ret (.inl rfl) (tells_tmps rfl rfl) ⟨_, ⟨rfl, rfl⟩, ?_⟩
      refine ent_fold (by repeat (first | exact FindAll.nil | exact Find.here | apply Find.there | apply FindAll.cons)) (Kc.fold ⟨hl, hk⟩) ?_
      ((try simp only [List.cons_append, List.nil_append]); repeat (first | exact ent_refl | refine ent_take (by repeat (first | exact Find.here | apply Find.there)) ?_ | refine ent_drop ?_))
    · have h3 : ¬ ((ks c.toNat).length : Int) = 0 := by simpa using h2
      have hP : cpopP b ks c = fun v L => v = .tuple #[.int .i64 ((ks c.toNat).getD ((ks c.toNat).length - 1) 0), .bool true] ∧ L = [Kc b (upd ks c.toNat (ks c.toNat).dropLast)] := by unfold cpopP; rw [if_pos (by omega)]
      rw [hP]
      have hpo := KcRel.pop ⟨hl, hk⟩ (show c.toNat < 7 by omega)
      have k4 := k3 ((ks c.toNat).length - 1) (by omega)
      have k5 : (((ks c.toNat).length - 1 : Nat) : Int) = ((ks c.toNat).length : Int) - 1 := by omega
      repeat (first | refine Zq ?_ | refine Zs ?_ | refine ZT ?_ | refine ZF ?_ | refine Zc ?_ | refine XO_gU (hk := ?_))
      refine XO_rv (rv_at (i := c.toNat * 5 + 4)) (hk := ?_)
      rw [k2]
      repeat (first | refine Zq ?_ | refine Zs ?_ | refine ZT ?_ | refine ZF ?_ | refine Zc ?_ | refine XO_gU (hk := ?_))
      refine XO_dv0 (dv_putAt (kk := .i64) (i := c.toNat * 5 + 4)) (hk := ?_)
      rintro _ _ rfl
      rw [← k5]
      repeat (first | refine Zq ?_ | refine Zs ?_ | refine ZT ?_ | refine ZF ?_ | refine Zc ?_ | refine XO_gU (hk := ?_))
      repeat (first | refine XD_pick (h := ?_) | refine Dq ?_ | refine Ds ?_ | refine XDi_gF (h := ?_) | refine XDi_gU (h := ?_) | refine X_draws (h := ?_))
      refine XDi_rvA (rv_at (i := c.toNat * 5 + 4) (hl := by simp; omega)) (h := ?_)
      rw [getD_set (by omega), if_pos rfl]
      repeat (first | refine XD_pick (h := ?_) | refine Dq ?_ | refine Ds ?_ | refine XDi_gF (h := ?_) | refine XDi_gU (h := ?_) | refine X_draws (h := ?_))
      refine XDi_rvA (rv_at (i := c.toNat * 5 + ((ks c.toNat).length - 1) * 1) (hl := by simp; omega)) (h := ?_)
      simp only [Nat.mul_one]
      rw [getD_set (by omega), if_neg (by omega), k4]
      repeat (first | refine XD_pick (h := ?_) | refine Dq ?_ | refine Ds ?_ | refine XDi_gF (h := ?_) | refine XDi_gU (h := ?_) | refine X_draws (h := ?_))
      (refine XD_one (h := ?_); refine XDa_dvA (dv_of_rv (rv_of_pv pv_assign)) (hk := ?_); rintro _ _ ⟨rfl, rfl⟩; refine ⟨by (repeat (first | exact keeps_nil | exact keeps_fnil | refine keeps_skip (h := ?_) | refine keeps_takeQ (h := ?_))), ?_⟩)
      (refine XD_one (h := ?_); refine XDa_dvA (dv_of_rv (rv_of_pv pv_assign)) (hk := ?_); rintro _ _ ⟨rfl, rfl⟩; refine ⟨by (repeat (first | exact keeps_nil | exact keeps_fnil | refine keeps_skip (h := ?_) | refine keeps_takeQ (h := ?_))), ?_⟩)
      (refine XD_end (h := ?_); repeat (first | refine Zq ?_ | refine Zs ?_ | refine ZT ?_ | refine ZF ?_ | refine Zc ?_ | refine XO_gU (hk := ?_)))
      refine XE_ret (.inl rfl) (tells_tmps rfl rfl) ⟨_, ⟨rfl, rfl⟩, ?_⟩
      refine ent_fold (by repeat (first | exact FindAll.nil | exact Find.here | apply Find.there | apply FindAll.cons)) (Kc.fold hpo) ?_
      ((try simp only [List.cons_append, List.nil_append]); repeat (first | exact ent_refl | refine ent_take (by repeat (first | exact Find.here | apply Find.there)) ?_ | refine ent_drop ?_))
  · have ho : ofC b c = none := by unfold ofC; rw [if_neg hc]
    have hP : cpopP b ks c = fun v L => v = .tuple #[.int .i64 0, .bool false] ∧ L = [Kc b ks] := by unfold cpopP; rw [if_neg (by omega)]
    rw [ho, hP]
    repeat (first | refine Zq ?_ | refine Zs ?_ | refine ZT ?_ | refine ZF ?_ | refine Zc ?_ | refine XO_gU (hk := ?_))
    refine X_cond rfl (fun _ => ?_) (fun h => by cases h)
    repeat (first | refine Zq ?_ | refine Zs ?_ | refine ZT ?_ | refine ZF ?_ | refine Zc ?_ | refine XO_gU (hk := ?_))
    refine XE_ret (.inl rfl) (tells_tmps rfl rfl) ⟨_, ⟨rfl, rfl⟩, by ((try simp only [List.cons_append, List.nil_append]); repeat (first | exact ent_refl | refine ent_take (by repeat (first | exact Find.here | apply Find.there)) ?_ | refine ent_drop ?_))⟩
theorem clen_spec (b : Nat) (ks : Nat → List Int) (c : Int) (h0 : 0 ≤ c) (h1 : c < 7) : Spec Tryz.prog 131 [.pointer (some ⟨b, 0, none⟩), .int .i64 c] [Kc b ks] (fun v L => v = .int .i64 ((ks c.toNat).length : Int) ∧ L = [Kc b ks]) := by
  refine Spec.intro (IsEnt.out) Tryz.func131 rfl Tryz.ntmps131 (by simp) (fun w0 F => ?_)
  simp only [envOf, List.zipIdx, List.map, List.cons_append, List.nil_append, Nat.zero_add, Nat.reduceAdd]
  repeat (first | refine Zq ?_ | refine Zs ?_ | refine ZT ?_ | refine ZF ?_ | refine Zc ?_ | refine XO_gU (hk := ?_))
  refine XO_call (cof_spec b c) (hk := ?_)
  rintro _ _ ⟨rfl, rfl⟩
  have ho : ofC b c = some ⟨b, c.toNat * 5, none⟩ := by unfold ofC; rw [if_pos ⟨h0, h1⟩]
  rw [ho]
  repeat (first | refine Zq ?_ | refine Zs ?_ | refine ZT ?_ | refine ZF ?_ | refine Zc ?_ | refine XO_gU (hk := ?_))
  refine X_cond rfl (fun h => by cases h) (fun _ => ?_)
  refine X_open .here Kc.open ?_
  rintro fl ⟨hl, hk⟩
  dsimp only [List.cons_append, List.nil_append]
  obtain ⟨k1, k2, k3⟩ := hk c.toNat (by omega)
  repeat (first | refine Zq ?_ | refine Zs ?_ | refine ZT ?_ | refine ZF ?_ | refine Zc ?_ | refine XO_gU (hk := ?_))
  refine XO_rv (rv_at (i := c.toNat * 5 + 4)) (hk := ?_)
  rw [k2]
  repeat (first | refine Zq ?_ | refine Zs ?_ | refine ZT ?_ | refine ZF ?_ | refine Zc ?_ | refine XO_gU (hk := ?_))
  refine XE_ret (.inl rfl) (tells_tmps rfl rfl) ⟨_, ⟨rfl, rfl⟩, ?_⟩
  refine ent_fold (by repeat (first | exact FindAll.nil | exact Find.here | apply Find.there | apply FindAll.cons)) (Kc.fold ⟨hl, hk⟩) ?_
  ((try simp only [List.cons_append, List.nil_append]); repeat (first | exact ent_refl | refine ent_take (by repeat (first | exact Find.here | apply Find.there)) ?_ | refine ent_drop ?_))
def kpages (ks : Nat → List Int) : Nat → Int
  | 0 => 0
  | k + 1 => kpages ks k + (ks k).length * cpages k
def kall (ks : Nat → List Int) : Nat → List (Int × Int)
  | 0 => []
  | k + 1 => kall ks k ++ (ks k).map fun p => (p, cpages k)
end Go.Proofs.YtamecmklcnohjaaGreat.Sep
namespace Go.Proofs.YtamecmklcnohjaaGreat.Sep
open Go.RowKit
set_option linter.unusedSimpArgs false
set_option linter.unusedVariables false
set_option maxHeartbeats 8000000
attribute [local irreducible] X XE XO XD XDi XDa PV RV DV pt base Spec Sl Mp Keeps Kc

theorem Kc.bound {b : Nat} {ks : Nat → List Int} : ∀ H, Kc b ks H → ∀ k, k < 7 → (ks k).length ≤ 4 := by
  intro H h
  unfold Kc at h
  obtain ⟨fl, h, _⟩ := h
  exact fun k hk => (h.2 k hk).1
theorem cpages_le (k : Nat) (h : k < 7) : 1 ≤ cpages k ∧ cpages k ≤ 64 := by
  have : k = 0 ∨ k = 1 ∨ k = 2 ∨ k = 3 ∨ k = 4 ∨ k = 5 ∨ k = 6 := by omega
  rcases this with rfl | rfl | rfl | rfl | rfl | rfl | rfl <;> decide
theorem kmul_le {n : Nat} {k : Nat} (h : k < 7) (hn : n ≤ 4) : 0 ≤ (n : Int) * cpages k ∧ (n : Int) * cpages k ≤ 256 := by
  obtain ⟨h1, h2⟩ := cpages_le k h
  refine ⟨Int.mul_nonneg (by omega) (by omega), ?_⟩
  have := Int.mul_le_mul (show (n : Int) ≤ 4 by omega) h2 (by omega) (by decide)
  omega
theorem kpages_le {ks : Nat → List Int} (hb : ∀ k, k < 7 → (ks k).length ≤ 4) : ∀ k, k ≤ 7 → 0 ≤ kpages ks k ∧ kpages ks k ≤ 256 * k
  | 0, _ => by simp [kpages]
  | k + 1, h => by
    have h1 := kpages_le hb k (by omega)
    have h2 := kmul_le (n := (ks k).length) (show k < 7 by omega) (hb k (by omega))
    simp only [kpages]
    push_cast
    omega
theorem kall_le {ks : Nat → List Int} (hb : ∀ k, k < 7 → (ks k).length ≤ 4) : ∀ k, k ≤ 7 → (kall ks k).length ≤ 4 * k
  | 0, _ => by simp [kall]
  | k + 1, h => by
    have h1 := kall_le hb k (by omega)
    have h2 := hb k (by omega)
    simp only [kall, List.length_append, List.length_map]
    omega
theorem cpagesum_spec (b : Nat) (ks : Nat → List Int) : Spec Tryz.prog 80 [.pointer (some ⟨b, 0, none⟩)] [Kc b ks] (fun v L => v = .int .i64 (kpages ks 7) ∧ L = [Kc b ks]) := by
  refine Spec.intro (IsEnt.out) Tryz.func80 rfl Tryz.ntmps80 (by simp) (fun w0 F => ?_)
  simp only [envOf, List.zipIdx, List.map, List.cons_append, List.nil_append, Nat.zero_add, Nat.reduceAdd]
  refine X_fact (A := Kc b ks) .here Kc.bound (fun hb => ?_)
  repeat (first | refine Zq ?_ | refine Zs ?_ | refine ZT ?_ | refine ZF ?_ | refine Zc ?_ | refine XO_gU (hk := ?_))
  refine X_loop (ι := Nat) (fun k => k ≤ 7) (fun k => [(0, .pointer (some ⟨b, 0, none⟩)), (5, .int .i64 k), (3, .int .i64 (kpages ks k))]) (fun _ => Kc b ks :: F) (fun k => 7 - k) 0 (Nat.zero_le _) ?_ (by ((try simp only [List.cons_append, List.nil_append]); repeat (first | exact ent_refl | refine ent_take (by repeat (first | exact Find.here | apply Find.there)) ?_ | refine ent_drop ?_))) ?_
  · (repeat (first | exact Env.sub_nil _ | refine Env.sub_cons rfl ?_))
  intro k hk
  dsimp only at hk ⊢
  repeat (first | refine Zq ?_ | refine Zs ?_ | refine ZT ?_ | refine ZF ?_ | refine Zc ?_ | refine XO_gU (hk := ?_))
  refine X_cond rfl (fun hc => ?_) (fun hc => ?_) <;> simp only [decide_eq_true_eq, decide_eq_false_iff_not] at hc
  · have hk7 : k < 7 := by omega
    have h1 := kpages_le hb k hk
    have h2 := kmul_le (n := (ks k).length) hk7 (hb k hk7)
    repeat (first | refine Zq ?_ | refine Zs ?_ | refine ZT ?_ | refine ZF ?_ | refine Zc ?_ | refine XO_gU (hk := ?_))
    refine XO_call (clen_spec b ks k (by omega) (by omega)) (hk := ?_)
    rintro _ _ ⟨rfl, rfl⟩
    repeat (first | refine Zq ?_ | refine Zs ?_ | refine ZT ?_ | refine ZF ?_ | refine Zc ?_ | refine XO_gU (hk := ?_))
    refine XO_call (cpages_spec k) (hk := ?_)
    rintro _ _ ⟨rfl, rfl⟩
    simp only [Int.toNat_natCast]
    repeat (first | refine Zq ?_ | refine Zs ?_ | refine ZT ?_ | refine ZF ?_ | refine Zc ?_ | refine XO_gU (hk := ?_))
    refine X_round (k + 1) (by show k + 1 ≤ 7; omega) (by show 7 - (k + 1) < 7 - k; omega) (by (repeat (first | exact Env.sub_nil _ | refine Env.sub_cons rfl ?_))) (by ((try simp only [List.cons_append, List.nil_append]); repeat (first | exact ent_refl | refine ent_take (by repeat (first | exact Find.here | apply Find.there)) ?_ | refine ent_drop ?_)))
  · obtain rfl : k = 7 := by omega
    repeat (first | refine Zq ?_ | refine Zs ?_ | refine ZT ?_ | refine ZF ?_ | refine Zc ?_ | refine XO_gU (hk := ?_))
    refine XE_ret (.inl rfl) (tells_tmps rfl rfl) ⟨_, ⟨rfl, rfl⟩, by ((try simp only [List.cons_append, List.nil_append]); repeat (first | exact ent_refl | refine ent_take (by repeat (first | exact Find.here | apply Find.there)) ?_ | refine ent_drop ?_))⟩
theorem cclear_spec (b : Nat) (ks : Nat → List Int) : Spec Tryz.prog 79 [.pointer (some ⟨b, 0, none⟩)] [Kc b ks] (fun v L => v = .tuple #[] ∧ L = [Kc b (fun _ => [])]) := by
  refine Spec.intro (IsEnt.out) Tryz.func79 rfl Tryz.ntmps79 (by simp) (fun w0 F => ?_)
  simp only [envOf, List.zipIdx, List.map, List.cons_append, List.nil_append, Nat.zero_add, Nat.reduceAdd]
  repeat (first | refine Zq ?_ | refine Zs ?_ | refine ZT ?_ | refine ZF ?_ | refine Zc ?_ | refine XO_gU (hk := ?_))
  refine X_cond rfl (fun _ => ?_) (fun h => by cases h)
  refine X_open .here Kc.open ?_
  rintro fl ⟨hl, hk⟩
  dsimp only [List.cons_append, List.nil_append]
  repeat (first | refine Zq ?_ | refine Zs ?_ | refine ZT ?_ | refine ZF ?_ | refine Zc ?_ | refine XO_gU (hk := ?_))
  refine XO_dv0 (dv_putAll (E' := eI .i64) (ys := List.replicate 35 0) (hl := by simp [hl])) (hk := ?_)
  rintro _ _ rfl
  repeat (first | refine Zq ?_ | refine Zs ?_ | refine ZT ?_ | refine ZF ?_ | refine Zc ?_ | refine XO_gU (hk := ?_))
  refine XE_ret (.inr rfl) (tells_tmps rfl rfl) ⟨_, ⟨rfl, rfl⟩, ?_⟩
  refine ent_fold (by repeat (first | exact FindAll.nil | exact Find.here | apply Find.there | apply FindAll.cons)) (Kc.fold KcRel.none) ?_
  ((try simp only [List.cons_append, List.nil_append]); repeat (first | exact ent_refl | refine ent_take (by repeat (first | exact Find.here | apply Find.there)) ?_ | refine ent_drop ?_))
theorem kc_list {fl : List Int} {ks : Nat → List Int} {k : Nat} (h : KcRel fl ks) (hk : k < 7) : ((fl.drop (k * 5)).take 4).take (ks k).length = ks k := by
  obtain ⟨hl, h⟩ := h
  obtain ⟨h1, h2, h3⟩ := h k hk
  apply List.ext_getElem?
  intro j
  rw [List.take_take, Nat.min_eq_left h1]
  by_cases hj : j < (ks k).length
  · rw [List.getElem?_take_of_lt hj, List.getElem?_drop]
    have := h3 j hj
    have hlt : k * 5 + j < fl.length := by omega
    simp only [List.getD, List.getElem?_eq_getElem hj, List.getElem?_eq_getElem hlt, Option.getD_some] at this
    rw [List.getElem?_eq_getElem hj, List.getElem?_eq_getElem hlt, this]
  · rw [List.getElem?_eq_none (by simp; omega), List.getElem?_eq_none (by omega)]
theorem call_spec (b : Nat) (ks : Nat → List Int) : Spec Tryz.prog 77 [.pointer (some ⟨b, 0, none⟩)] [Kc b ks] (fun v L => ∃ a c, v = .slice a (kall ks 7).length c ∧ L = [Kc b ks, Sl eRun a c (kall ks 7)]) := by
  refine Spec.intro (IsEnt.out) Tryz.func77 rfl Tryz.ntmps77 (by simp) (fun w0 F => ?_)
  simp only [envOf, List.zipIdx, List.map, List.cons_append, List.nil_append, Nat.zero_add, Nat.reduceAdd]
  refine X_fact (A := Kc b ks) .here Kc.bound (fun hb => ?_)
  refine X_conv (fun _ => SL_nilSl eRun) ?_
  repeat (first | refine Zq ?_ | refine Zs ?_ | refine ZT ?_ | refine ZF ?_ | refine Zc ?_ | refine XO_gU (hk := ?_))
  refine X_loop (ι := Nat × Option Addr × Nat) (fun q => q.1 ≤ 7) (fun q => [(0, .pointer (some ⟨b, 0, none⟩)), (8, .int .i64 (q.1 : Int)), (3, .slice q.2.1 (kall ks q.1).length q.2.2)]) (fun q => Kc b ks :: Sl eRun q.2.1 q.2.2 (kall ks q.1) :: F) (fun q => 7 - q.1) (0, none, 0) (Nat.zero_le _) ?_ (by ((try simp only [List.cons_append, List.nil_append]); repeat (first | exact ent_refl | refine ent_take (by repeat (first | exact Find.here | apply Find.there)) ?_ | refine ent_drop ?_))) ?_
  · (repeat (first | exact Env.sub_nil _ | refine Env.sub_cons rfl ?_))
  rintro ⟨k, a, c⟩ hk
  dsimp only at hk ⊢
  repeat (first | refine Zq ?_ | refine Zs ?_ | refine ZT ?_ | refine ZF ?_ | refine Zc ?_ | refine XO_gU (hk := ?_))
  refine X_cond rfl (fun hc => ?_) (fun hc => ?_) <;> simp only [decide_eq_true_eq, decide_eq_false_iff_not] at hc
  · have hk7 : k < 7 := by omega
    have hbk := hb k hk7
    have hkl := kall_le hb k hk
    repeat (first | refine Zq ?_ | refine Zs ?_ | refine ZT ?_ | refine ZF ?_ | refine Zc ?_ | refine XO_gU (hk := ?_))
    refine XO_call (clen_spec b ks k (by omega) (by omega)) (hk := ?_)
    rintro _ _ ⟨rfl, rfl⟩
    simp only [Int.toNat_natCast]
    repeat (first | refine Zq ?_ | refine Zs ?_ | refine ZT ?_ | refine ZF ?_ | refine Zc ?_ | refine XO_gU (hk := ?_))
    refine XO_dv (dv_makeSlice (E' := eI .i64) 0) (hk := ?_)
    rintro _ _ ⟨nb, rfl, rfl⟩
    simp only [Int.toNat_natCast]
    repeat (first | refine Zq ?_ | refine Zs ?_ | refine ZT ?_ | refine ZF ?_ | refine Zc ?_ | refine XO_gU (hk := ?_))
    refine X_join (ι := Unit) (fun _ => True) (fun _ => [(0, .pointer (some ⟨b, 0, none⟩)), (8, .int .i64 (k : Int)), (4, .int .i64 (k : Int)), (3, .slice a (kall ks k).length c), (5, .slice (some ⟨nb, 0, none⟩) (ks k).length (ks k).length)]) (fun _ => Kc b ks :: Sl eRun a c (kall ks k) :: Sl (eI .i64) (some ⟨nb, 0, none⟩) (ks k).length (ks k) :: F) ?_ ?_
    · refine X_cond rfl (fun h => ?_) (fun h => ?_) <;> simp only [decide_eq_true_eq, decide_eq_false_iff_not] at h
      · refine X_open (by (repeat (first | exact Find.here | apply Find.there))) Kc.open ?_
        rintro fl hrel
        dsimp only [List.cons_append, List.nil_append]
        have hli := kc_list hrel hk7
        have hV : View (Sl (eI .i64) (some ⟨b, 0, none⟩) 35 fl) (eI .i64) (some ⟨b, k * 5, none⟩) (ks k) := by
          rw [← hli]; exact View.take _ (View.take _ (view_at (k * 5) Sl.view))
        obtain ⟨zs, hz, hzl⟩ : ∃ zs, zs = List.replicate (ks k).length (0 : Int) ∧ zs.length = (ks k).length := ⟨_, rfl, by simp⟩
        rw [← hz]
        repeat (first | refine Zq ?_ | refine Zs ?_ | refine ZT ?_ | refine ZF ?_ | refine Zc ?_ | refine XO_gU (hk := ?_))
        refine XO_dv (dv_copy (E' := eI .i64) (ys := ks k) (xs := zs) (m := 4) (a2 := some ⟨b, k * 5, none⟩) (A := Sl (eI .i64) (some ⟨b, 0, none⟩) 35 fl) (hx := by rw [hzl]; rfl) (hv := hV) (hn := by rw [hzl]; omega)) (hk := ?_)
        rintro _ _ ⟨rfl, rfl⟩
        rw [show ks k ++ zs.drop (ks k).length = ks k from by rw [List.drop_of_length_le (by omega), List.append_nil]]
        repeat (first | refine Zq ?_ | refine Zs ?_ | refine ZT ?_ | refine ZF ?_ | refine Zc ?_ | refine XO_gU (hk := ?_))
        refine X_meet () trivial (by (repeat (first | exact Env.sub_nil _ | refine Env.sub_cons rfl ?_))) ?_
        (try simp only [List.cons_append, List.nil_append])
        refine ent_fold (by repeat (first | exact FindAll.nil | exact Find.here | apply Find.there | apply FindAll.cons)) (Kc.fold hrel) ?_
        ((try simp only [List.cons_append, List.nil_append]); repeat (first | exact ent_refl | refine ent_take (by repeat (first | exact Find.here | apply Find.there)) ?_ | refine ent_drop ?_))
      · have h0 : ks k = [] := List.length_eq_zero_iff.1 (by omega)
        repeat (first | refine Zq ?_ | refine Zs ?_ | refine ZT ?_ | refine ZF ?_ | refine Zc ?_ | refine XO_gU (hk := ?_))
        refine X_meet () trivial (by (repeat (first | exact Env.sub_nil _ | refine Env.sub_cons rfl ?_))) ?_
        rw [h0]
        ((try simp only [List.cons_append, List.nil_append]); repeat (first | exact ent_refl | refine ent_take (by repeat (first | exact Find.here | apply Find.there)) ?_ | refine ent_drop ?_))
    · rintro - -
      repeat (first | refine Zq ?_ | refine Zs ?_ | refine ZT ?_ | refine ZF ?_ | refine Zc ?_ | refine XO_gU (hk := ?_))
      refine X_loop (ι := Nat × Option Addr × Nat) (fun q => q.1 ≤ (ks k).length) (fun q => [(0, .pointer (some ⟨b, 0, none⟩)), (8, .int .i64 (k : Int)), (4, .int .i64 (k : Int)), (27, .slice (some ⟨nb, 0, none⟩) (ks k).length (ks k).length), (28, .int .i64 ((ks k).length : Int)), (29, .int .i64 (q.1 : Int)), (3, .slice q.2.1 (kall ks k ++ ((ks k).take q.1).map fun p => (p, cpages k)).length q.2.2)])
        (fun q => Kc b ks :: Sl eRun q.2.1 q.2.2 (kall ks k ++ ((ks k).take q.1).map fun p => (p, cpages k)) :: Sl (eI .i64) (some ⟨nb, 0, none⟩) (ks k).length (ks k) :: F) (fun q => (ks k).length - q.1) (0, a, c) (Nat.zero_le _) ?_ ?_ ?_
      · simp only [List.take_zero, List.map_nil, List.append_nil]; (repeat (first | exact Env.sub_nil _ | refine Env.sub_cons rfl ?_))
      · simp only [List.take_zero, List.map_nil, List.append_nil]; ((try simp only [List.cons_append, List.nil_append]); repeat (first | exact ent_refl | refine ent_take (by repeat (first | exact Find.here | apply Find.there)) ?_ | refine ent_drop ?_))
      rintro ⟨j, a2, c2⟩ hj
      dsimp only at hj ⊢
      repeat (first | refine Zq ?_ | refine Zs ?_ | refine ZT ?_ | refine ZF ?_ | refine Zc ?_ | refine XO_gU (hk := ?_))
      refine X_cond rfl (fun hc2 => ?_) (fun hc2 => ?_) <;> simp only [decide_eq_true_eq, decide_eq_false_iff_not] at hc2
      · have hjl : j < (ks k).length := by omega
        repeat (first | refine Zq ?_ | refine Zs ?_ | refine ZT ?_ | refine ZF ?_ | refine Zc ?_ | refine XO_gU (hk := ?_))
        refine XO_rv (rv_elG (E' := eI .i64) (i := j) (s := 1) (x' := (ks k)[j]) (hget := by simp [hjl])) (hk := ?_)
        repeat (first | refine Zq ?_ | refine Zs ?_ | refine ZT ?_ | refine ZF ?_ | refine Zc ?_ | refine XO_gU (hk := ?_))
        refine XO_call (cpages_spec k) (hk := ?_)
        rintro _ _ ⟨rfl, rfl⟩
        repeat (first | refine Zq ?_ | refine Zs ?_ | refine ZT ?_ | refine ZF ?_ | refine Zc ?_ | refine XO_gU (hk := ?_))
        refine XO_dv (dv_lit (E' := eRun) [((ks k)[j], cpages k)]) (hk := ?_)
        rintro _ _ ⟨lb, rfl, rfl⟩
        repeat (first | refine Zq ?_ | refine Zs ?_ | refine ZT ?_ | refine ZF ?_ | refine Zc ?_ | refine XO_gU (hk := ?_))
        refine XO_dv (dv_append (E' := eRun) (xs := kall ks k ++ ((ks k).take j).map fun p => (p, cpages k)) (ys := [((ks k)[j], cpages k)]) (A := Sl eRun (some ⟨lb, 0, none⟩) 1 [((ks k)[j], cpages k)]) (a := a2) (a2 := some ⟨lb, 0, none⟩) (c := c2) (c2 := 1) (hv := Sl.view) (hb := by simp; omega)) (hk := ?_)
        rintro _ _ ⟨a3, c3, rfl, rfl⟩
        have hs : (kall ks k ++ ((ks k).take j).map fun p => (p, cpages k)) ++ [((ks k)[j], cpages k)] = kall ks k ++ ((ks k).take (j + 1)).map fun p => (p, cpages k) := by
          rw [List.take_succ_eq_append_getElem hjl, List.map_append, List.append_assoc]; rfl
        rw [hs]
        repeat (first | refine Zq ?_ | refine Zs ?_ | refine ZT ?_ | refine ZF ?_ | refine Zc ?_ | refine XO_gU (hk := ?_))
        refine X_round (j + 1, a3, c3) (by show j + 1 ≤ _; omega) (by show (ks k).length - (j + 1) < (ks k).length - j; omega) (by (repeat (first | exact Env.sub_nil _ | refine Env.sub_cons rfl ?_))) (by ((try simp only [List.cons_append, List.nil_append]); repeat (first | exact ent_refl | refine ent_take (by repeat (first | exact Find.here | apply Find.there)) ?_ | refine ent_drop ?_)))
      · obtain rfl : j = (ks k).length := by omega
        rw [List.take_length]
        repeat (first | refine Zq ?_ | refine Zs ?_ | refine ZT ?_ | refine ZF ?_ | refine Zc ?_ | refine XO_gU (hk := ?_))
        refine X_round (k + 1, a2, c2) (by show k + 1 ≤ 7; omega) (by show 7 - (k + 1) < 7 - k; omega) (by (repeat (first | exact Env.sub_nil _ | refine Env.sub_cons rfl ?_))) (by ((try simp only [List.cons_append, List.nil_append]); repeat (first | exact ent_refl | refine ent_take (by repeat (first | exact Find.here | apply Find.there)) ?_ | refine ent_drop ?_)))
  · obtain rfl : k = 7 := by omega
    repeat (first | refine Zq ?_ | refine Zs ?_ | refine ZT ?_ | refine ZF ?_ | refine Zc ?_ | refine XO_gU (hk := ?_))
    refine XE_ret (.inl rfl) (tells_tmps rfl rfl) ⟨_, ⟨a, c, rfl, rfl⟩, by ((try simp only [List.cons_append, List.nil_append]); repeat (first | exact ent_refl | refine ent_take (by repeat (first | exact Find.here | apply Find.there)) ?_ | refine ent_drop ?_))⟩
end Go.Proofs.YtamecmklcnohjaaGreat.Sep
namespace Go.Proofs.YtamecmklcnohjaaGreat.Sep
open Go.RowKit
set_option linter.unusedSimpArgs false
set_option linter.unusedVariables false
/-! pages, what is free, what is kept: what is computed -/
structure Co where
  P : Int
  fr : List (Int × Int)
  ks : Nat → List Int
  t : Int
structure CoOk (C : Co) : Prop where
  p1 : 1 ≤ C.P
  p2 : C.P ≤ 1048576
  right : RightFrom C.P 0 C.fr
  kept : ∀ k, k < 7 → (C.ks k).length ≤ 4 ∧ ∀ p ∈ C.ks k, 0 ≤ p ∧ p ≤ 1048576
def giveC (C : Co) (r : Int × Int) : Co := ⟨C.P, (giveI C.fr C.P r.1 r.2).getD C.fr, C.ks, if (giveI C.fr C.P r.1 r.2).isSome = true then tickI C.t C.fr.length else C.t⟩
def putC (C : Co) (r : Int × Int) : Co :=
  if cpages (cclass r.2) = r.2 ∧ 0 ≤ cclass r.2 ∧ cclass r.2 < 7 ∧ 0 ≤ r.1 ∧ (C.ks (cclass r.2).toNat).length < 4 then ⟨C.P, C.fr, upd C.ks (cclass r.2).toNat (C.ks (cclass r.2).toNat ++ [r.1]), C.t⟩ else giveC C r
def takeC (C : Co) (n : Int) : Co × Int × Int := if n < 1 then (C, 0, 1) else match takeI C.fr n with
  | none => (C, 0, 4)
  | some q => (⟨C.P, q.2, C.ks, tickI C.t C.fr.length⟩, q.1, 0)
def trimC (C : Co) : Co := ⟨C.P, ((kall C.ks 7).foldl giveC C).fr, fun _ => [], ((kall C.ks 7).foldl giveC C).t⟩
def trimN (C : Co) : Int := totI (kall C.ks 7)
def getC (C : Co) (n : Int) : Co × Int × Int :=
  if 0 ≤ cclass n ∧ cclass n < 7 ∧ 0 < (C.ks (cclass n).toNat).length then (⟨C.P, C.fr, upd C.ks (cclass n).toNat (C.ks (cclass n).toNat).dropLast, C.t⟩, (C.ks (cclass n).toNat).getD ((C.ks (cclass n).toNat).length - 1) 0, 0)
  else if (takeC C n).2.2 = 4 then (if 0 < trimN C then takeC (trimC C) n else (trimC C, (takeC C n).2)) else takeC C n
theorem giveC_ok {C : Co} (h : CoOk C) (r : Int × Int) : CoOk (giveC C r) := by
  refine ⟨h.p1, h.p2, ?_, h.kept⟩
  show RightFrom C.P 0 ((giveI C.fr C.P r.1 r.2).getD C.fr)
  cases hg : giveI C.fr C.P r.1 r.2 with
  | none => exact h.right
  | some ys => exact (giveI_right h.right hg).1
theorem fold_ok : ∀ (l : List (Int × Int)) {C : Co}, CoOk C → CoOk (l.foldl giveC C)
  | [], _, h => h
  | r :: l, _, h => fold_ok l (giveC_ok h r)
theorem fold_P : ∀ (l : List (Int × Int)) (C : Co), (l.foldl giveC C).P = C.P ∧ (l.foldl giveC C).ks = C.ks
  | [], _ => ⟨rfl, rfl⟩
  | r :: l, C => fold_P l (giveC C r)
theorem trimC_ok {C : Co} (h : CoOk C) : CoOk (trimC C) := by
  have := fold_ok (kall C.ks 7) h
  have h1 := this.right
  rw [(fold_P _ C).1] at h1
  exact ⟨h.p1, h.p2, h1, fun k hk => ⟨Nat.zero_le _, fun p hp => by cases hp⟩⟩
theorem takeC_ok {C : Co} (h : CoOk C) (n : Int) : CoOk (takeC C n).1 := by
  unfold takeC
  split
  · exact h
  · cases ht : takeI C.fr n with
    | none => exact h
    | some q =>
      obtain ⟨p, ys⟩ := q
      exact ⟨h.p1, h.p2, (takeI_right h.right ht).1, h.kept⟩
theorem upd_ok {C : Co} (h : CoOk C) {c : Nat} {l : List Int} (hl : l.length ≤ 4) (hm : ∀ p ∈ l, 0 ≤ p ∧ p ≤ 1048576) : CoOk ⟨C.P, C.fr, upd C.ks c l, C.t⟩ := by
  refine ⟨h.p1, h.p2, h.right, fun k hk => ?_⟩
  show (upd C.ks c l k).length ≤ 4 ∧ ∀ p ∈ upd C.ks c l k, _
  unfold upd
  split
  · exact ⟨hl, hm⟩
  · exact h.kept k hk
theorem putC_ok {C : Co} (h : CoOk C) {r : Int × Int} (hr : r.1 ≤ 1048576) : CoOk (putC C r) := by
  unfold putC
  split
  · rename_i hc
    refine upd_ok h (by simp; omega) fun p hp => ?_
    rcases List.mem_append.1 hp with hp | hp
    · exact (h.kept _ (by omega)).2 p hp
    · simp at hp; subst hp; exact ⟨hc.2.2.2.1, hr⟩
  · exact giveC_ok h r
theorem getC_ok {C : Co} (h : CoOk C) (n : Int) : CoOk (getC C n).1 := by
  unfold getC
  split
  · rename_i hc
    have := h.kept (cclass n).toNat (by omega)
    exact upd_ok h (by simp; omega) fun p hp => this.2 p ((List.dropLast_sublist _).mem hp)
  · split
    · split
      · exact takeC_ok (trimC_ok h) n
      · exact trimC_ok h
    · exact takeC_ok h n
theorem kall_mem {ks : Nat → List Int} : ∀ {k : Nat} {r : Int × Int}, r ∈ kall ks k → ∃ j, j < k ∧ r.1 ∈ ks j ∧ r.2 = cpages j
  | 0, r, h => by cases h
  | k + 1, r, h => by
    rcases List.mem_append.1 h with h | h
    · obtain ⟨j, h1, h2⟩ := kall_mem h; exact ⟨j, by omega, h2⟩
    · obtain ⟨p, hp, rfl⟩ := List.mem_map.1 h
      exact ⟨k, by omega, hp, rfl⟩
theorem kall_bd {C : Co} (h : CoOk C) {r : Int × Int} (hr : r ∈ kall C.ks 7) : 0 ≤ r.1 ∧ r.1 ≤ 1048576 ∧ 1 ≤ r.2 ∧ r.2 ≤ 64 := by
  obtain ⟨j, hj, h1, h2⟩ := kall_mem hr
  have h3 := (h.kept j hj).2 _ h1
  have h4 := cpages_le j hj
  rw [h2]; omega
theorem tot_le {l : List (Int × Int)} (h : ∀ r ∈ l, 1 ≤ r.2 ∧ r.2 ≤ 64) : 0 ≤ totI l ∧ totI l ≤ 64 * l.length := by
  induction l with
  | nil => simp [totI]
  | cons r l ih =>
    have h1 := h r (by simp)
    have h2 := ih fun q hq => h q (by simp [hq])
    rw [tot_cons]; simp; omega
section
attribute [local irreducible] Pg
theorem give_step {b : Nat} {t : Int} {D : Co} {r : Int × Int} {v : Value} {L : List HP} (h : giveP b D.P D.fr t r.1 r.2 v L) : ∃ w t', v = .int .i64 w ∧ L = [Pg b (giveC D r).P (giveC D r).fr t'] := by
  unfold giveP at h
  cases hg : giveI D.fr D.P r.1 r.2 with
  | none =>
    rw [hg] at h
    have : (giveC D r).fr = D.fr := by show (giveI D.fr D.P r.1 r.2).getD D.fr = _; rw [hg]; rfl
    rw [this]
    exact ⟨_, _, h.1, h.2⟩
  | some ys =>
    rw [hg] at h
    have : (giveC D r).fr = ys := by show (giveI D.fr D.P r.1 r.2).getD D.fr = _; rw [hg]; rfl
    rw [this]
    exact ⟨_, _, h.1, h.2⟩
theorem take_step {b : Nat} {t n : Int} {C : Co} {v : Value} {L : List HP} (h : takeP b C.P C.fr t n v L) : ∃ t', v = .tuple #[.int .i64 (takeC C n).2.1, .int .i64 (takeC C n).2.2] ∧ L = [Pg b C.P (takeC C n).1.fr t'] := by
  unfold takeP at h
  unfold takeC
  split at h
  · rename_i hn
    rw [if_pos hn]
    exact ⟨_, h.1, h.2⟩
  · rename_i hn
    rw [if_neg hn]
    cases ht : takeI C.fr n with
    | none => rw [ht] at h; exact ⟨_, h.1, h.2⟩
    | some q => rw [ht] at h; exact ⟨_, h.1, h.2⟩
def giveE (C : Co) (r : Int × Int) : Int := if (giveI C.fr C.P r.1 r.2).isSome = true then 0 else 1
theorem give_stepT {b : Nat} {D : Co} {r : Int × Int} {v : Value} {L : List HP} (h : giveP b D.P D.fr D.t r.1 r.2 v L) : v = .int .i64 (giveE D r) ∧ L = [Pg b (giveC D r).P (giveC D r).fr (giveC D r).t] := by
  unfold giveP at h
  unfold giveE giveC
  cases hg : giveI D.fr D.P r.1 r.2 with
  | none => rw [hg] at h; exact h
  | some ys => rw [hg] at h; exact h
theorem take_stepT {b : Nat} {n : Int} {C : Co} {v : Value} {L : List HP} (h : takeP b C.P C.fr C.t n v L) : v = .tuple #[.int .i64 (takeC C n).2.1, .int .i64 (takeC C n).2.2] ∧ L = [Pg b C.P (takeC C n).1.fr (takeC C n).1.t] := by
  unfold takeP at h
  unfold takeC
  split at h
  · rename_i hn
    rw [if_pos hn]
    exact h
  · rename_i hn
    rw [if_neg hn]
    cases ht : takeI C.fr n with
    | none => rw [ht] at h; exact h
    | some q => rw [ht] at h; exact h
theorem takeC_P (C : Co) (n : Int) : (takeC C n).1.P = C.P ∧ (takeC C n).1.ks = C.ks := by
  unfold takeC
  split
  · exact ⟨rfl, rfl⟩
  · cases takeI C.fr n <;> exact ⟨rfl, rfl⟩
theorem takeC_full {C : Co} {n : Int} (h : (takeC C n).2.2 = 4) : (takeC C n).1 = C ∧ (takeC C n).2 = (0, 4) := by
  unfold takeC at h ⊢
  split
  · rename_i hn
    rw [if_pos hn] at h; cases h
  · rename_i hn
    rw [if_neg hn] at h
    cases ht : takeI C.fr n with
    | none => exact ⟨rfl, rfl⟩
    | some q => rw [ht] at h; cases h
end
end Go.Proofs.YtamecmklcnohjaaGreat.Sep
namespace Go.Proofs.YtamecmklcnohjaaGreat.Sep
open Go.RowKit
set_option linter.unusedSimpArgs false
set_option linter.unusedVariables false
/-! the plain law of a ledger: each page is free, kept, or in one chunk -/
def RunOk (P : Int) (r : Int × Int) : Prop := 0 ≤ r.1 ∧ 1 ≤ r.2 ∧ r.1 + r.2 ≤ P
structure CInv (C : Co) : Prop where
  ok : CoOk C
  kv : ∀ k : Nat, k < 7 → ∀ p ∈ C.ks k, p + cpages k ≤ C.P
def cC (x : Int) (C : Co) : Int := cnt x C.fr + cnt x (kall C.ks 7)
def tC (C : Co) : Int := totI C.fr + totI (kall C.ks 7)
theorem kall_upd (g : List (Int × Int) → Int) (hg : ∀ a b, g (a ++ b) = g a + g b) (ks : Nat → List Int) (c : Nat) (l' : List Int) : ∀ n : Nat, g (kall (upd ks c l') n) + (if c < n then g ((ks c).map fun p => (p, cpages c)) else 0) = g (kall ks n) + (if c < n then g (l'.map fun p => (p, cpages c)) else 0)
  | 0 => by simp [kall]
  | n + 1 => by
    have ih := kall_upd g hg ks c l' n
    simp only [kall, hg]
    by_cases hc : c = n
    · subst hc
      have h1 : upd ks c l' c = l' := by simp [upd]
      rw [h1, if_pos (by omega), if_pos (by omega)]
      rw [if_neg (by omega), if_neg (by omega)] at ih
      omega
    · have h1 : upd ks c l' n = ks n := by simp [upd, Ne.symm hc]
      rw [h1]
      by_cases hlt : c < n
      · rw [if_pos hlt, if_pos hlt] at ih
        rw [if_pos (by omega), if_pos (by omega)]; omega
      · rw [if_neg hlt, if_neg hlt] at ih
        rw [if_neg (by omega), if_neg (by omega)]; omega
theorem cC_nn (x : Int) (C : Co) : 0 ≤ cC x C := by have := cnt_nn x C.fr; have := cnt_nn x (kall C.ks 7); unfold cC; omega
theorem give_inv {C : Co} {r : Int × Int} (h : CoOk C) (hr : RunOk C.P r) (hd : ∀ x, cnt x C.fr + ind x r ≤ 1) : (∀ x, cnt x (giveC C r).fr = cnt x C.fr + ind x r) ∧ totI (giveC C r).fr = totI C.fr + r.2 := by
  have hs := giveI_some h.right hr.1 hr.2.1 hr.2.2 hd
  have h1 := giveI_right h.right hs
  have h2 : (giveC C r).fr = giveL C.fr r.1 r.2 := by show (giveI C.fr C.P r.1 r.2).getD C.fr = _; rw [hs]; rfl
  rw [h2]
  exact ⟨h1.2.1, h1.2.2⟩
theorem put_inv {C : Co} {r : Int × Int} (h : CInv C) (hr : RunOk C.P r) (hd : ∀ x, cC x C + ind x r ≤ 1) :
    CInv (putC C r) ∧ (putC C r).P = C.P ∧ (∀ x, cC x (putC C r) = cC x C + ind x r) ∧ tC (putC C r) = tC C + r.2 := by
  have hp2 := h.ok.p2
  obtain ⟨r1, r2, r3⟩ := hr
  have hok : CoOk (putC C r) := putC_ok h.ok (by omega)
  unfold putC at hok ⊢
  split
  · rename_i hc
    rw [if_pos hc] at hok
    obtain ⟨c1, c2, c3, c4, c5⟩ := hc
    have hct : (((cclass r.2).toNat : Nat) : Int) = cclass r.2 := by omega
    generalize hcc : (cclass r.2).toNat = c at *
    have hpc : cpages (c : Int) = r.2 := by rw [hct]; exact c1
    refine ⟨⟨hok, fun k hk p hp => ?_⟩, rfl, fun x => ?_, ?_⟩
    · show p + cpages k ≤ C.P
      have hp : p ∈ upd C.ks c (C.ks c ++ [r.1]) k := hp
      unfold upd at hp
      split at hp
      · rename_i hkc
        subst hkc
        rcases List.mem_append.1 hp with hp | hp
        · exact h.kv k hk p hp
        · simp at hp; subst hp; rw [hpc]; omega
      · exact h.kv k hk p hp
    · have := kall_upd (cnt x) (cnt_append x) C.ks c (C.ks c ++ [r.1]) 7
      rw [if_pos (by omega), if_pos (by omega), List.map_append, cnt_append] at this
      simp only [List.map_cons, List.map_nil, cnt, hpc] at this
      show cnt x C.fr + cnt x (kall (upd C.ks c (C.ks c ++ [r.1])) 7) = cnt x C.fr + cnt x (kall C.ks 7) + ind x r
      rw [show ((r.1, r.2) : Int × Int) = r from rfl] at this
      omega
    · have := kall_upd totI tot_append C.ks c (C.ks c ++ [r.1]) 7
      rw [if_pos (by omega), if_pos (by omega), List.map_append, tot_append] at this
      simp only [List.map_cons, List.map_nil, tot_cons, hpc] at this
      have h0 : totI ([] : List (Int × Int)) = 0 := rfl
      show totI C.fr + totI (kall (upd C.ks c (C.ks c ++ [r.1])) 7) = totI C.fr + totI (kall C.ks 7) + r.2
      omega
  · have hg := give_inv h.ok ⟨r1, r2, r3⟩ (fun x => by have := hd x; have := cnt_nn x (kall C.ks 7); unfold cC at *; omega)
    refine ⟨⟨giveC_ok h.ok r, h.kv⟩, rfl, fun x => ?_, ?_⟩
    · show cnt x (giveC C r).fr + cnt x (kall C.ks 7) = cnt x C.fr + cnt x (kall C.ks 7) + ind x r
      rw [hg.1 x]; omega
    · show totI (giveC C r).fr + totI (kall C.ks 7) = totI C.fr + totI (kall C.ks 7) + r.2
      rw [hg.2]; omega
theorem puts_inv : ∀ (l : List (Int × Int)) {C : Co}, CInv C → (∀ r ∈ l, RunOk C.P r) → (∀ x, cC x C + cnt x l ≤ 1) →
    CInv (l.foldl putC C) ∧ (l.foldl putC C).P = C.P ∧ (∀ x, cC x (l.foldl putC C) = cC x C + cnt x l) ∧ tC (l.foldl putC C) = tC C + totI l
  | [], C, h, _, _ => ⟨h, rfl, fun x => by simp [cnt], by simp [totI]⟩
  | r :: l, C, h, hr, hd => by
    have h1 := put_inv h (hr r (by simp)) (fun x => by have := hd x; have := cnt_nn x l; simp only [cnt] at *; omega)
    obtain ⟨g1, g2, g3, g4⟩ := puts_inv l h1.1 (fun q hq => by rw [h1.2.1]; exact hr q (by simp [hq])) (fun x => by rw [h1.2.2.1 x]; have := hd x; simp only [cnt] at this; omega)
    refine ⟨g1, g2.trans h1.2.1, fun x => ?_, ?_⟩
    · rw [List.foldl_cons, g3 x, h1.2.2.1 x]; simp only [cnt]; omega
    · rw [List.foldl_cons, g4, h1.2.2.2, tot_cons]; omega
theorem gives_inv : ∀ (l : List (Int × Int)) {C : Co}, CoOk C → (∀ r ∈ l, RunOk C.P r) → (∀ x, cnt x C.fr + cnt x l ≤ 1) →
    (∀ x, cnt x (l.foldl giveC C).fr = cnt x C.fr + cnt x l) ∧ totI (l.foldl giveC C).fr = totI C.fr + totI l
  | [], C, h, _, _ => ⟨fun x => by simp [cnt], by simp [totI]⟩
  | r :: l, C, h, hr, hd => by
    have h1 := give_inv h (hr r (by simp)) (fun x => by have := hd x; have := cnt_nn x l; simp only [cnt] at *; omega)
    obtain ⟨g1, g2⟩ := gives_inv l (giveC_ok h r) (fun q hq => hr q (by simp [hq])) (fun x => by rw [h1.1 x]; have := hd x; simp only [cnt] at this; omega)
    refine ⟨fun x => ?_, ?_⟩
    · rw [List.foldl_cons, g1 x, h1.1 x]; simp only [cnt]; omega
    · rw [List.foldl_cons, g2, h1.2, tot_cons]; omega
theorem kall_run {C : Co} (h : CInv C) : ∀ r ∈ kall C.ks 7, RunOk C.P r := fun r hr => by
  obtain ⟨j, hj, h1, h2⟩ := kall_mem hr
  have h3 := (h.ok.kept j hj).2 _ h1
  have h4 := h.kv j hj _ h1
  have h5 := cpages_le j hj
  unfold RunOk
  rw [h2]; omega
theorem kall_nil : kall (fun _ => []) 7 = [] := rfl
theorem trim_inv {C : Co} (h : CInv C) (hd : ∀ x, cC x C ≤ 1) : CInv (trimC C) ∧ (∀ x, cC x (trimC C) = cC x C) ∧ tC (trimC C) = tC C := by
  obtain ⟨h1, h2⟩ := gives_inv (kall C.ks 7) h.ok (kall_run h) hd
  refine ⟨⟨trimC_ok h.ok, fun k hk p hp => by cases hp⟩, fun x => ?_, ?_⟩
  · show cnt x ((kall C.ks 7).foldl giveC C).fr + cnt x (kall (fun _ => []) 7) = _
    rw [h1 x, kall_nil]; simp only [cnt, cC]; omega
  · show totI ((kall C.ks 7).foldl giveC C).fr + totI (kall (fun _ => []) 7) = _
    rw [h2, kall_nil]; simp only [tC]; simp [totI]
theorem take_inv {C : Co} {n : Int} (h : CInv C) (hn : 1 ≤ n) : CInv (takeC C n).1 ∧ (takeC C n).1.P = C.P ∧
    ((takeC C n).2.2 = 0 → RunOk C.P ((takeC C n).2.1, n) ∧ (∀ x, cC x C = cC x (takeC C n).1 + ind x ((takeC C n).2.1, n)) ∧ tC C = tC (takeC C n).1 + n) ∧
    ((takeC C n).2.2 ≠ 0 → (∀ x, cC x (takeC C n).1 = cC x C) ∧ tC (takeC C n).1 = tC C) := by
  unfold takeC
  rw [if_neg (by omega)]
  cases ht : takeI C.fr n with
  | none => exact ⟨h, rfl, fun h' => absurd (show (4 : Int) = 0 from h') (by decide), fun _ => ⟨fun _ => rfl, rfl⟩⟩
  | some q =>
    obtain ⟨p, ys⟩ := q
    obtain ⟨g1, g2, g3, g4, g5, g6⟩ := takeI_right h.ok.right ht
    refine ⟨⟨⟨h.ok.p1, h.ok.p2, g1, h.ok.kept⟩, h.kv⟩, rfl, fun _ => ⟨⟨g3, hn, g4⟩, fun x => ?_, ?_⟩, fun h' => absurd rfl h'⟩
    · show cnt x C.fr + cnt x (kall C.ks 7) = cnt x ys + cnt x (kall C.ks 7) + ind x (p, n); rw [g5 x]; omega
    · show totI C.fr + totI (kall C.ks 7) = totI ys + totI (kall C.ks 7) + n; rw [g6]; omega
theorem get_inv {C : Co} {n : Int} (h : CInv C) (hd : ∀ x, cC x C ≤ 1) (hn : 1 ≤ n) (hc : 0 ≤ cclass n → cpages (cclass n) = n) : CInv (getC C n).1 ∧ (getC C n).1.P = C.P ∧
    ((getC C n).2.2 = 0 → RunOk C.P ((getC C n).2.1, n) ∧ (∀ x, cC x C = cC x (getC C n).1 + ind x ((getC C n).2.1, n)) ∧ tC C = tC (getC C n).1 + n) ∧
    ((getC C n).2.2 ≠ 0 → (∀ x, cC x (getC C n).1 = cC x C) ∧ tC (getC C n).1 = tC C) := by
  have hok := getC_ok h.ok n
  unfold getC at hok ⊢
  split
  · rename_i hk
    rw [if_pos hk] at hok
    obtain ⟨k1, k2, k3⟩ := hk
    have hcp := hc k1
    have hct : (((cclass n).toNat : Nat) : Int) = cclass n := by omega
    generalize hcc : (cclass n).toNat = c at *
    have hpc : cpages (c : Int) = n := by rw [hct]; exact hcp
    have hne : C.ks c ≠ [] := List.length_pos_iff.1 k3
    have hlast : (C.ks c).getD ((C.ks c).length - 1) 0 = (C.ks c).getLast hne := by
      rw [List.getLast_eq_getElem]
      simp only [List.getD, List.getElem?_eq_getElem (show (C.ks c).length - 1 < (C.ks c).length by omega), Option.getD_some]
    have hsplit : C.ks c = (C.ks c).dropLast ++ [(C.ks c).getLast hne] := (List.dropLast_concat_getLast hne).symm
    have hmem : (C.ks c).getLast hne ∈ C.ks c := List.getLast_mem hne
    have hv := h.kv c (by omega) _ hmem
    have hv2 := (h.ok.kept c (by omega)).2 _ hmem
    rw [hlast]
    refine ⟨⟨hok, fun k hk p hp => ?_⟩, rfl, fun _ => ⟨⟨hv2.1, hn, by rw [← hpc]; exact hv⟩, fun x => ?_, ?_⟩, fun h' => absurd rfl h'⟩
    · have hp : p ∈ upd C.ks c (C.ks c).dropLast k := hp
      unfold upd at hp
      split at hp
      · rename_i hkc
        subst hkc
        exact h.kv k hk p ((List.dropLast_sublist _).mem hp)
      · exact h.kv k hk p hp
    · have := kall_upd (cnt x) (cnt_append x) C.ks c (C.ks c).dropLast 7
      rw [if_pos (by omega), if_pos (by omega)] at this
      conv at this => lhs; rhs; rw [hsplit]
      rw [List.map_append, cnt_append] at this
      simp only [List.map_cons, List.map_nil, cnt, hpc] at this
      show cnt x C.fr + cnt x (kall C.ks 7) = cnt x C.fr + cnt x (kall (upd C.ks c (C.ks c).dropLast) 7) + ind x ((C.ks c).getLast hne, n)
      omega
    · have := kall_upd totI tot_append C.ks c (C.ks c).dropLast 7
      rw [if_pos (by omega), if_pos (by omega)] at this
      conv at this => lhs; rhs; rw [hsplit]
      rw [List.map_append, tot_append] at this
      simp only [List.map_cons, List.map_nil, tot_cons, hpc] at this
      have h0 : totI ([] : List (Int × Int)) = 0 := rfl
      show totI C.fr + totI (kall C.ks 7) = totI C.fr + totI (kall (upd C.ks c (C.ks c).dropLast) 7) + _
      omega
  · split
    · rename_i he
      split
      · obtain ⟨t1, t2, t3⟩ := trim_inv h hd
        obtain ⟨g1, g2, g3, g4⟩ := take_inv t1 hn
        refine ⟨g1, g2, fun h0 => ?_, fun h0 => ?_⟩
        · obtain ⟨a1, a2, a3⟩ := g3 h0
          exact ⟨a1, fun x => by rw [← t2 x]; exact a2 x, by rw [← t3]; exact a3⟩
        · obtain ⟨a1, a2⟩ := g4 h0
          exact ⟨fun x => by rw [a1 x, t2 x], by rw [a2, t3]⟩
      · obtain ⟨t1, t2, t3⟩ := trim_inv h hd
        exact ⟨t1, rfl, fun h0 => absurd (he.symm.trans (show (takeC C n).2.2 = 0 from h0)) (by decide), fun _ => ⟨t2, t3⟩⟩
    · exact take_inv h hn
theorem class_self {m : Int} (h1 : 1 ≤ m) (h2 : m ≤ 64) : 1 ≤ cpages (cclass m) ∧ cpages (cclass (cpages (cclass m))) = cpages (cclass m) := by
  have hc : cclass m = 0 ∨ cclass m = 1 ∨ cclass m = 2 ∨ cclass m = 3 ∨ cclass m = 4 ∨ cclass m = 5 ∨ cclass m = 6 := by
    unfold cclass
    repeat' split
    all_goals omega
  rcases hc with h | h | h | h | h | h | h <;> rw [h] <;> decide
end Go.Proofs.YtamecmklcnohjaaGreat.Sep
namespace Go.Proofs.YtamecmklcnohjaaGreat.Sep
open Go.RowKit
set_option linter.unusedSimpArgs false
set_option linter.unusedVariables false
set_option maxHeartbeats 8000000
attribute [local irreducible] X XE XO XD XDi XDa PV RV DV pt base Spec Sl Mp Keeps

def powB (n : Int) : Bool := decide (n.toNat ≠ 0 ∧ n.toNat &&& (n.toNat - 1) = 0)
def addI (a b : Int) : Option Int := if a + b < 18446744073709551616 then some (a + b) else none
def upI (n a : Int) : Option Int := if powB a then addI n ((-n) % a) else none
theorem powB_iff {n : Int} (h : 0 ≤ n) : powB n = true ↔ ∃ k : Nat, n = ((2 ^ k : Nat) : Int) := by
  unfold powB
  rw [decide_eq_true_iff]
  constructor
  · rintro ⟨h1, h2⟩
    obtain ⟨k, hk⟩ := pow_two_of h1 h2
    exact ⟨k, by omega⟩
  · rintro ⟨k, rfl⟩
    have := Nat.two_pow_pos k
    rw [Int.toNat_natCast]
    exact ⟨by omega, pow_two_and k⟩
theorem mask_neg {n a : Int} (hn : 0 ≤ n) (hn' : n ≤ 18446744073709551615) (ha : powB a = true) (ha0 : 0 ≤ a) (ha' : a ≤ 18446744073709551615) :
    bitop .and .u64 (IntKind.u64.wrap (0 - n)) (a - 1) = (-n) % a := by
  obtain ⟨k, rfl⟩ := (powB_iff ha0).1 ha
  have hp := Nat.two_pow_pos k
  have hk : k < 64 := by
    rcases Nat.lt_or_ge k 64 with h | h
    · exact h
    · have := Nat.pow_le_pow_right (by decide : 0 < 2) h; omega
  rw [wrap_u64_eq]
  have e1 : (0 - n) % 18446744073709551616 = (((0 - n) % 18446744073709551616).toNat : Int) := by omega
  have e2 : ((2 ^ k : Nat) : Int) - 1 = ((2 ^ k - 1 : Nat) : Int) := by omega
  rw [e1, e2, bitop_and_u64 (by omega) (by omega), and_mask]
  rw [Int.natCast_emod, ← e1]
  have hd : ((2 ^ k : Nat) : Int) ∣ 18446744073709551616 := by
    refine ⟨((2 ^ (64 - k) : Nat) : Int), ?_⟩
    rw [← Int.natCast_mul, ← Nat.pow_add, show k + (64 - k) = 64 from by omega]; decide
  rw [Int.emod_emod_of_dvd _ hd]
  congr 1; omega
theorem pow_spec (n : Int) (h0 : 0 ≤ n) (h1 : n ≤ 18446744073709551615) : Spec Tryz.prog 113 [.int .u64 n] [] (fun v L => v = .bool (powB n) ∧ L = []) := by
  refine Spec.intro (IsEnt.out) Tryz.func113 rfl Tryz.ntmps113 (by simp) (fun w0 F => ?_)
  simp only [envOf, List.zipIdx, List.map, List.cons_append, List.nil_append, Nat.zero_add, Nat.reduceAdd]
  repeat (first | refine Zq ?_ | refine Zs ?_ | refine ZT ?_ | refine ZF ?_ | refine Zc ?_ | refine XO_gU (hk := ?_))
  refine XO_either (hT := fun h => ?_) (hF := fun h => ?_)
  · have hn : n ≠ 0 := by simpa using h
    have e1 : (bitop .and .u64 n (n - 1) == 0) = powB n := by
      have e2 : bitop .and .u64 n (n - 1) = ((n.toNat &&& (n.toNat - 1) : Nat) : Int) := by
        have := bitop_and_u64 (a := n.toNat) (b := n.toNat - 1) (by omega) (by omega)
        rwa [show ((n.toNat : Nat) : Int) = n from by omega, show ((n.toNat - 1 : Nat) : Int) = n - 1 from by omega] at this
      rw [e2]
      unfold powB
      have : n.toNat ≠ 0 := by omega
      simp [this, Bool.beq_eq_decide_eq]
    repeat (first | refine Zq ?_ | refine Zs ?_ | refine ZT ?_ | refine ZF ?_ | refine Zc ?_ | refine XO_gU (hk := ?_))
    rw [e1]
    refine XE_ret (.inl rfl) (tells_tmps rfl rfl) ⟨_, ⟨rfl, rfl⟩, by ((try simp only [List.cons_append, List.nil_append]); repeat (first | exact ent_refl | refine ent_take (by repeat (first | exact Find.here | apply Find.there)) ?_ | refine ent_drop ?_))⟩
  · have hn : n = 0 := by simpa using h
    subst hn
    repeat (first | refine Zq ?_ | refine Zs ?_ | refine ZT ?_ | refine ZF ?_ | refine Zc ?_ | refine XO_gU (hk := ?_))
    refine XE_ret (.inl rfl) (tells_tmps rfl rfl) ⟨_, ⟨rfl, rfl⟩, by ((try simp only [List.cons_append, List.nil_append]); repeat (first | exact ent_refl | refine ent_take (by repeat (first | exact Find.here | apply Find.there)) ?_ | refine ent_drop ?_))⟩
theorem add_spec (a b : Int) (h0 : 0 ≤ a) (h1 : a ≤ 18446744073709551615) (h2 : 0 ≤ b) (h3 : b ≤ 18446744073709551615) : Spec Tryz.prog 125 [.int .u64 a, .int .u64 b] [] (fun v L => v = .tuple #[.int .u64 ((addI a b).getD 0), .bool (addI a b).isSome] ∧ L = []) := by
  refine Spec.intro (IsEnt.out) Tryz.func125 rfl Tryz.ntmps125 (by simp) (fun w0 F => ?_)
  simp only [envOf, List.zipIdx, List.map, List.cons_append, List.nil_append, Nat.zero_add, Nat.reduceAdd]
  repeat (first | refine Zq ?_ | refine Zs ?_ | refine ZT ?_ | refine ZF ?_ | refine Zc ?_ | refine XO_gU (hk := ?_))
  have hw := wrap_u64_eq (a + b)
  refine X_cond rfl (fun h => ?_) (fun h => ?_) <;> simp only [decide_eq_true_eq, decide_eq_false_iff_not] at h
  · have : a + b < 18446744073709551616 := by omega
    rw [show IntKind.u64.wrap (a + b) = a + b from by omega]
    repeat (first | refine Zq ?_ | refine Zs ?_ | refine ZT ?_ | refine ZF ?_ | refine Zc ?_ | refine XO_gU (hk := ?_))
    unfold addI
    rw [if_pos this]
    refine XE_ret (.inl rfl) (tells_tmps rfl rfl) ⟨_, ⟨rfl, rfl⟩, by ((try simp only [List.cons_append, List.nil_append]); repeat (first | exact ent_refl | refine ent_take (by repeat (first | exact Find.here | apply Find.there)) ?_ | refine ent_drop ?_))⟩
  · have : ¬ a + b < 18446744073709551616 := by omega
    repeat (first | refine Zq ?_ | refine Zs ?_ | refine ZT ?_ | refine ZF ?_ | refine Zc ?_ | refine XO_gU (hk := ?_))
    unfold addI
    rw [if_neg this]
    refine XE_ret (.inl rfl) (tells_tmps rfl rfl) ⟨_, ⟨rfl, rfl⟩, by ((try simp only [List.cons_append, List.nil_append]); repeat (first | exact ent_refl | refine ent_take (by repeat (first | exact Find.here | apply Find.there)) ?_ | refine ent_drop ?_))⟩
theorem add_le {a b s : Int} (h : addI a b = some s) : s = a + b ∧ a + b < 18446744073709551616 := by
  unfold addI at h
  split at h
  · exact ⟨(Option.some.inj h).symm, by assumption⟩
  · cases h
theorem up_spec (n a : Int) (h0 : 0 ≤ n) (h1 : n ≤ 18446744073709551615) (h2 : 0 ≤ a) (h3 : a ≤ 18446744073709551615) : Spec Tryz.prog 124 [.int .u64 n, .int .u64 a] [] (fun v L => v = .tuple #[.int .u64 ((upI n a).getD 0), .bool (upI n a).isSome] ∧ L = []) := by
  refine Spec.intro (IsEnt.out) Tryz.func124 rfl Tryz.ntmps124 (by simp) (fun w0 F => ?_)
  simp only [envOf, List.zipIdx, List.map, List.cons_append, List.nil_append, Nat.zero_add, Nat.reduceAdd]
  repeat (first | refine Zq ?_ | refine Zs ?_ | refine ZT ?_ | refine ZF ?_ | refine Zc ?_ | refine XO_gU (hk := ?_))
  refine XO_call (pow_spec a h2 h3) (hk := ?_)
  rintro _ _ ⟨rfl, rfl⟩
  repeat (first | refine Zq ?_ | refine Zs ?_ | refine ZT ?_ | refine ZF ?_ | refine Zc ?_ | refine XO_gU (hk := ?_))
  refine X_cond rfl (fun h => ?_) (fun h => ?_) <;> simp only [Bool.not_eq_true', Bool.not_eq_false'] at h
  · repeat (first | refine Zq ?_ | refine Zs ?_ | refine ZT ?_ | refine ZF ?_ | refine Zc ?_ | refine XO_gU (hk := ?_))
    unfold upI
    rw [h, if_neg Bool.false_ne_true]
    refine XE_ret (.inl rfl) (tells_tmps rfl rfl) ⟨_, ⟨rfl, rfl⟩, by ((try simp only [List.cons_append, List.nil_append]); repeat (first | exact ent_refl | refine ent_take (by repeat (first | exact Find.here | apply Find.there)) ?_ | refine ent_drop ?_))⟩
  · have ha := (powB_iff h2).1 h
    have ha0 : 0 < a := by obtain ⟨k, rfl⟩ := ha; have := Nat.two_pow_pos k; omega
    have hm := mask_neg h0 h1 h h2 h3
    have hr0 := Int.emod_nonneg (-n) (show a ≠ 0 by omega)
    have hr1 := Int.emod_lt_of_pos (-n) ha0
    repeat (first | refine Zq ?_ | refine Zs ?_ | refine ZT ?_ | refine ZF ?_ | refine Zc ?_ | refine XO_gU (hk := ?_))
    rw [hm]
    refine XO_call (add_spec n ((-n) % a) h0 h1 hr0 (by omega)) (hk := ?_)
    rintro _ _ ⟨rfl, rfl⟩
    have hu : upI n a = addI n ((-n) % a) := by unfold upI; rw [if_pos h]
    rw [← hu]
    repeat (first | refine Zq ?_ | refine Zs ?_ | refine ZT ?_ | refine ZF ?_ | refine Zc ?_ | refine XO_gU (hk := ?_))
    refine XE_ret (.inl rfl) (tells_tmps rfl rfl) ⟨_, ⟨rfl, rfl⟩, by ((try simp only [List.cons_append, List.nil_append]); repeat (first | exact ent_refl | refine ent_take (by repeat (first | exact Find.here | apply Find.there)) ?_ | refine ent_drop ?_))⟩
theorem pages_spec (n : Int) (h0 : 0 ≤ n) (h1 : n ≤ 18446744073709551615) : Spec Tryz.prog 126 [.int .u64 n] [] (fun v L => v = .int .u64 ((n + 4095) / 4096) ∧ L = []) := by
  refine Spec.intro (IsEnt.out) Tryz.func126 rfl Tryz.ntmps126 (by simp) (fun w0 F => ?_)
  simp only [envOf, List.zipIdx, List.map, List.cons_append, List.nil_append, Nat.zero_add, Nat.reduceAdd]
  repeat (first | refine Zq ?_ | refine Zs ?_ | refine ZT ?_ | refine ZF ?_ | refine Zc ?_ | refine XO_gU (hk := ?_))
  have hb : bitop .and .u64 n 4095 = n % 4096 := by
    have := bitop_and_u64 (a := n.toNat) (b := 4095) (by omega) (by omega)
    rw [show (4095 : Nat) = 2 ^ 12 - 1 from rfl, and_mask] at this
    rw [show ((n.toNat : Nat) : Int) = n from by omega] at this
    rw [show (4095 : Int) = ((2 ^ 12 - 1 : Nat) : Int) from rfl, this]
    omega
  rw [hb]
  refine X_cond rfl (fun h => ?_) (fun h => ?_)
  · have : n % 4096 ≠ 0 := by simpa using h
    repeat (first | refine Zq ?_ | refine Zs ?_ | refine ZT ?_ | refine ZF ?_ | refine Zc ?_ | refine XO_gU (hk := ?_))
    rw [show n / 4096 + 1 = (n + 4095) / 4096 from by omega]
    refine XE_ret (.inl rfl) (tells_tmps rfl rfl) ⟨_, ⟨rfl, rfl⟩, by ((try simp only [List.cons_append, List.nil_append]); repeat (first | exact ent_refl | refine ent_take (by repeat (first | exact Find.here | apply Find.there)) ?_ | refine ent_drop ?_))⟩
  · have : n % 4096 = 0 := by simpa using h
    repeat (first | refine Zq ?_ | refine Zs ?_ | refine ZT ?_ | refine ZF ?_ | refine Zc ?_ | refine XO_gU (hk := ?_))
    rw [show n / 4096 = (n + 4095) / 4096 from by omega]
    refine XE_ret (.inl rfl) (tells_tmps rfl rfl) ⟨_, ⟨rfl, rfl⟩, by ((try simp only [List.cons_append, List.nil_append]); repeat (first | exact ent_refl | refine ent_take (by repeat (first | exact Find.here | apply Find.there)) ?_ | refine ent_drop ?_))⟩
end Go.Proofs.YtamecmklcnohjaaGreat.Sep
namespace Go.Proofs.YtamecmklcnohjaaGreat.Sep
open Go.RowKit
set_option linter.unusedSimpArgs false
set_option linter.unusedVariables false
set_option maxHeartbeats 8000000
attribute [local irreducible] X XE XO XD XDi XDa PV RV DV pt base Spec Sl Mp Keeps

def needI (size align : Int) : Option Int := if size = 0 ∨ 4096 < align then none else (upI 32 align).bind fun f => (addI f size).map fun n => (n + 4095) / 4096
theorem upI_le {n a s : Int} (h0 : 0 ≤ n) (h2 : 0 ≤ a) (h : upI n a = some s) : n ≤ s ∧ s < 18446744073709551616 ∧ powB a = true ∧ s < n + a ∧ s = n + (-n) % a := by
  unfold upI at h
  split at h
  · rename_i hp
    obtain ⟨k, rfl⟩ := (powB_iff h2).1 hp
    have hpos := Nat.two_pow_pos k
    have h3 := Int.emod_nonneg (-n) (show ((2 ^ k : Nat) : Int) ≠ 0 by omega)
    have h4 := Int.emod_lt_of_pos (-n) (show 0 < ((2 ^ k : Nat) : Int) by omega)
    obtain ⟨rfl, h5⟩ := add_le h
    exact ⟨by omega, by omega, hp, by omega, rfl⟩
  · cases h
theorem need_spec (size align : Int) (h0 : 0 ≤ size) (h1 : size ≤ 18446744073709551615) (h2 : 0 ≤ align) (h3 : align ≤ 18446744073709551615) :
    Spec Tryz.prog 68 [.int .u64 size, .int .u64 align] [] (fun v L => v = .tuple #[.int .u64 ((needI size align).getD 0), .bool (needI size align).isSome] ∧ L = []) := by
  refine Spec.intro (IsEnt.out) Tryz.func68 rfl Tryz.ntmps68 (by simp) (fun w0 F => ?_)
  simp only [envOf, List.zipIdx, List.map, List.cons_append, List.nil_append, Nat.zero_add, Nat.reduceAdd]
  repeat (first | refine Zq ?_ | refine Zs ?_ | refine ZT ?_ | refine ZF ?_ | refine Zc ?_ | refine XO_gU (hk := ?_))
  refine XO_either (hT := fun h => ?_) (hF := fun h => ?_)
  · have hs : size = 0 := by simpa using h
    repeat (first | refine Zq ?_ | refine Zs ?_ | refine ZT ?_ | refine ZF ?_ | refine Zc ?_ | refine XO_gU (hk := ?_))
    refine X_cond rfl (fun _ => ?_) (fun h => by cases h)
    repeat (first | refine Zq ?_ | refine Zs ?_ | refine ZT ?_ | refine ZF ?_ | refine Zc ?_ | refine XO_gU (hk := ?_))
    unfold needI
    rw [if_pos (.inl hs)]
    refine XE_ret (.inl rfl) (tells_tmps rfl rfl) ⟨_, ⟨rfl, rfl⟩, by ((try simp only [List.cons_append, List.nil_append]); repeat (first | exact ent_refl | refine ent_take (by repeat (first | exact Find.here | apply Find.there)) ?_ | refine ent_drop ?_))⟩
  have hs : ¬ size = 0 := by simpa using h
  repeat (first | refine Zq ?_ | refine Zs ?_ | refine ZT ?_ | refine ZF ?_ | refine Zc ?_ | refine XO_gU (hk := ?_))
  refine X_cond rfl (fun h => ?_) (fun h => ?_) <;> simp only [decide_eq_true_eq, decide_eq_false_iff_not] at h
  · repeat (first | refine Zq ?_ | refine Zs ?_ | refine ZT ?_ | refine ZF ?_ | refine Zc ?_ | refine XO_gU (hk := ?_))
    unfold needI
    rw [if_pos (.inr h)]
    refine XE_ret (.inl rfl) (tells_tmps rfl rfl) ⟨_, ⟨rfl, rfl⟩, by ((try simp only [List.cons_append, List.nil_append]); repeat (first | exact ent_refl | refine ent_take (by repeat (first | exact Find.here | apply Find.there)) ?_ | refine ent_drop ?_))⟩
  repeat (first | refine Zq ?_ | refine Zs ?_ | refine ZT ?_ | refine ZF ?_ | refine Zc ?_ | refine XO_gU (hk := ?_))
  refine XO_call (up_spec 32 align (by decide) (by decide) h2 h3) (hk := ?_)
  rintro _ _ ⟨rfl, rfl⟩
  repeat (first | refine Zq ?_ | refine Zs ?_ | refine ZT ?_ | refine ZF ?_ | refine Zc ?_ | refine XO_gU (hk := ?_))
  have hn : needI size align = (upI 32 align).bind fun f => (addI f size).map fun n => (n + 4095) / 4096 := by
    unfold needI; rw [if_neg (fun h' => h'.elim hs h)]
  cases hu : upI 32 align with
  | none =>
    rw [hu] at hn
    refine X_cond rfl (fun _ => ?_) (fun h => by cases h)
    repeat (first | refine Zq ?_ | refine Zs ?_ | refine ZT ?_ | refine ZF ?_ | refine Zc ?_ | refine XO_gU (hk := ?_))
    rw [hn]
    refine XE_ret (.inl rfl) (tells_tmps rfl rfl) ⟨_, ⟨rfl, rfl⟩, by ((try simp only [List.cons_append, List.nil_append]); repeat (first | exact ent_refl | refine ent_take (by repeat (first | exact Find.here | apply Find.there)) ?_ | refine ent_drop ?_))⟩
  | some f =>
    rw [hu] at hn
    obtain ⟨u1, u2, u3, u4, u5⟩ := upI_le (by decide) h2 hu
    refine X_cond rfl (fun h => by cases h) (fun _ => ?_)
    repeat (first | refine Zq ?_ | refine Zs ?_ | refine ZT ?_ | refine ZF ?_ | refine Zc ?_ | refine XO_gU (hk := ?_))
    refine XO_call (add_spec f size (by omega) (by omega) h0 h1) (hk := ?_)
    rintro _ _ ⟨rfl, rfl⟩
    repeat (first | refine Zq ?_ | refine Zs ?_ | refine ZT ?_ | refine ZF ?_ | refine Zc ?_ | refine XO_gU (hk := ?_))
    cases ha : addI f size with
    | none =>
      have hn2 : needI size align = none := by rw [hn]; simp [ha]
      clear hn
      repeat (first | refine Zq ?_ | refine Zs ?_ | refine ZT ?_ | refine ZF ?_ | refine Zc ?_ | refine XO_gU (hk := ?_))
      refine XO_call (pages_spec 0 (by decide) (by decide)) (hk := ?_)
      rintro _ _ ⟨rfl, rfl⟩
      repeat (first | refine Zq ?_ | refine Zs ?_ | refine ZT ?_ | refine ZF ?_ | refine Zc ?_ | refine XO_gU (hk := ?_))
      rw [hn2]
      refine XE_ret (.inl rfl) (tells_tmps rfl rfl) ⟨_, ⟨rfl, rfl⟩, by ((try simp only [List.cons_append, List.nil_append]); repeat (first | exact ent_refl | refine ent_take (by repeat (first | exact Find.here | apply Find.there)) ?_ | refine ent_drop ?_))⟩
    | some s =>
      obtain ⟨rfl, a2⟩ := add_le ha
      repeat (first | refine Zq ?_ | refine Zs ?_ | refine ZT ?_ | refine ZF ?_ | refine Zc ?_ | refine XO_gU (hk := ?_))
      refine XO_call (pages_spec (f + size) (by omega) (by omega)) (hk := ?_)
      rintro _ _ ⟨rfl, rfl⟩
      repeat (first | refine Zq ?_ | refine Zs ?_ | refine ZT ?_ | refine ZF ?_ | refine Zc ?_ | refine XO_gU (hk := ?_))
      rw [hn]
      simp only [Option.bind_some, ha, Option.map_some]
      refine XE_ret (.inl rfl) (tells_tmps rfl rfl) ⟨_, ⟨rfl, rfl⟩, by ((try simp only [List.cons_append, List.nil_append]); repeat (first | exact ent_refl | refine ent_take (by repeat (first | exact Find.here | apply Find.there)) ?_ | refine ent_drop ?_))⟩
def chunkI (size align : Int) : Int × Bool × Bool := match needI size align with
  | none => (0, false, false)
  | some n => if 1048576 < n then (0, false, false) else if 64 < n then (n, true, true) else (cpages (cclass n), false, true)
theorem need_le {size align n : Int} (h0 : 0 ≤ size) (h2 : 0 ≤ align) (h : needI size align = some n) : 1 ≤ n ∧ n ≤ 4503599627370496 := by
  unfold needI at h
  split at h
  · cases h
  · cases hu : upI 32 align with
    | none => rw [hu] at h; cases h
    | some f =>
      obtain ⟨u1, u2, u3, u4, u5⟩ := upI_le (by decide) h2 hu
      rw [hu, Option.bind_some] at h
      cases ha : addI f size with
      | none => rw [ha] at h; cases h
      | some s =>
        obtain ⟨rfl, a2⟩ := add_le ha
        rw [ha, Option.map_some] at h
        obtain rfl := Option.some.inj h
        omega
theorem chunk_spec (size align : Int) (h0 : 0 ≤ size) (h1 : size ≤ 18446744073709551615) (h2 : 0 ≤ align) (h3 : align ≤ 18446744073709551615) :
    Spec Tryz.prog 63 [.int .u64 size, .int .u64 align] [] (fun v L => v = .tuple #[.int .i64 (chunkI size align).1, .bool (chunkI size align).2.1, .bool (chunkI size align).2.2] ∧ L = []) := by
  refine Spec.intro (IsEnt.out) Tryz.func63 rfl Tryz.ntmps63 (by simp) (fun w0 F => ?_)
  simp only [envOf, List.zipIdx, List.map, List.cons_append, List.nil_append, Nat.zero_add, Nat.reduceAdd]
  repeat (first | refine Zq ?_ | refine Zs ?_ | refine ZT ?_ | refine ZF ?_ | refine Zc ?_ | refine XO_gU (hk := ?_))
  refine XO_call (need_spec size align h0 h1 h2 h3) (hk := ?_)
  rintro _ _ ⟨rfl, rfl⟩
  cases hn : needI size align with
  | none =>
    have hc : chunkI size align = (0, false, false) := by unfold chunkI; rw [hn]
    rw [hc]
    repeat (first | refine Zq ?_ | refine Zs ?_ | refine ZT ?_ | refine ZF ?_ | refine Zc ?_ | refine XO_gU (hk := ?_))
    refine X_cond rfl (fun _ => ?_) (fun h => by cases h)
    repeat (first | refine Zq ?_ | refine Zs ?_ | refine ZT ?_ | refine ZF ?_ | refine Zc ?_ | refine XO_gU (hk := ?_))
    refine XE_ret (.inl rfl) (tells_tmps rfl rfl) ⟨_, ⟨rfl, rfl⟩, by ((try simp only [List.cons_append, List.nil_append]); repeat (first | exact ent_refl | refine ent_take (by repeat (first | exact Find.here | apply Find.there)) ?_ | refine ent_drop ?_))⟩
  | some n =>
    have hnl := need_le h0 h2 hn
    simp only [Option.getD_some, Option.isSome_some]
    repeat (first | refine Zq ?_ | refine Zs ?_ | refine ZT ?_ | refine ZF ?_ | refine Zc ?_ | refine XO_gU (hk := ?_))
    refine X_cond rfl (fun h => ?_) (fun h => ?_) <;> simp only [decide_eq_true_eq, decide_eq_false_iff_not] at h
    · have hc : chunkI size align = (0, false, false) := by unfold chunkI; rw [hn]; exact if_pos h
      rw [hc]
      repeat (first | refine Zq ?_ | refine Zs ?_ | refine ZT ?_ | refine ZF ?_ | refine Zc ?_ | refine XO_gU (hk := ?_))
      refine XE_ret (.inl rfl) (tells_tmps rfl rfl) ⟨_, ⟨rfl, rfl⟩, by ((try simp only [List.cons_append, List.nil_append]); repeat (first | exact ent_refl | refine ent_take (by repeat (first | exact Find.here | apply Find.there)) ?_ | refine ent_drop ?_))⟩
    · repeat (first | refine Zq ?_ | refine Zs ?_ | refine ZT ?_ | refine ZF ?_ | refine Zc ?_ | refine XO_gU (hk := ?_))
      refine X_cond rfl (fun h4 => ?_) (fun h4 => ?_) <;> simp only [decide_eq_true_eq, decide_eq_false_iff_not] at h4
      · have hc : chunkI size align = (n, true, true) := by unfold chunkI; rw [hn]; exact (if_neg h).trans (if_pos h4)
        rw [hc]
        repeat (first | refine Zq ?_ | refine Zs ?_ | refine ZT ?_ | refine ZF ?_ | refine Zc ?_ | refine XO_gU (hk := ?_))
        refine XE_ret (.inl rfl) (tells_tmps rfl rfl) ⟨_, ⟨rfl, rfl⟩, by ((try simp only [List.cons_append, List.nil_append]); repeat (first | exact ent_refl | refine ent_take (by repeat (first | exact Find.here | apply Find.there)) ?_ | refine ent_drop ?_))⟩
      · have hc : chunkI size align = (cpages (cclass n), false, true) := by unfold chunkI; rw [hn]; exact (if_neg h).trans (if_neg h4)
        rw [hc]
        repeat (first | refine Zq ?_ | refine Zs ?_ | refine ZT ?_ | refine ZF ?_ | refine Zc ?_ | refine XO_gU (hk := ?_))
        refine XO_call (cclass_spec n) (hk := ?_)
        rintro _ _ ⟨rfl, rfl⟩
        repeat (first | refine Zq ?_ | refine Zs ?_ | refine ZT ?_ | refine ZF ?_ | refine Zc ?_ | refine XO_gU (hk := ?_))
        refine XO_call (cpages_spec (cclass n)) (hk := ?_)
        rintro _ _ ⟨rfl, rfl⟩
        repeat (first | refine Zq ?_ | refine Zs ?_ | refine ZT ?_ | refine ZF ?_ | refine Zc ?_ | refine XO_gU (hk := ?_))
        refine XE_ret (.inl rfl) (tells_tmps rfl rfl) ⟨_, ⟨rfl, rfl⟩, by ((try simp only [List.cons_append, List.nil_append]); repeat (first | exact ent_refl | refine ent_take (by repeat (first | exact Find.here | apply Find.there)) ?_ | refine ent_drop ?_))⟩
end Go.Proofs.YtamecmklcnohjaaGreat.Sep
namespace Go.Proofs.YtamecmklcnohjaaGreat.Sep
open Go.RowKit
set_option linter.unusedSimpArgs false
set_option linter.unusedVariables false
set_option maxHeartbeats 8000000
attribute [local irreducible] X XE XO XD XDi XDa PV RV DV pt base Spec Sl Mp Keeps

/-- A cursor: where the next bytes are made, and the end. -/
def ofI (page pages : Int) : Int × Int := if 0 ≤ page ∧ 1 ≤ pages ∧ pages ≤ 1048576 ∧ page ≤ 1048576 - pages then (page * 4096 + 32, (page + pages) * 4096) else (0, 0)
def fitI (at_ end_ size align : Int) : Option (Int × Int × Int) := (upI at_ align).bind fun s => (addI s size).bind fun en => if size = 0 ∨ end_ < en then none else some (s, en, s - at_)
theorem of1_spec (b1 b2 : Nat) (page pages : Int) : Spec Tryz.prog 120 [.pointer (some ⟨b1, 0, none⟩), .pointer (some ⟨b2, 0, none⟩)] [pt b1 (.cells [.int .i64 page].toArray 3 (0, 0)), pt b2 (.cells [.int .i64 pages].toArray 3 (0, 0))]
    (fun v L => v = .bool (decide (0 ≤ page ∧ 1 ≤ pages ∧ pages ≤ 1048576 ∧ page ≤ 1048576 - pages)) ∧ L = [pt b1 (.cells [.int .i64 page].toArray 3 (0, 0)), pt b2 (.cells [.int .i64 pages].toArray 3 (0, 0))]) := by
  refine Spec.intro (IsEnt.out) Tryz.func120 rfl Tryz.ntmps120 (by simp) (fun w0 F => ?_)
  simp only [envOf, List.zipIdx, List.map, List.cons_append, List.nil_append, Nat.zero_add, Nat.reduceAdd]
  repeat (first | refine Zq ?_ | refine Zs ?_ | refine ZT ?_ | refine ZF ?_ | refine Zc ?_ | refine XO_gU (hk := ?_))
  refine XO_either (hT := fun h => ?_) (hF := fun h => ?_)
  · simp only [decide_eq_true_eq] at h
    repeat (first | refine Zq ?_ | refine Zs ?_ | refine ZT ?_ | refine ZF ?_ | refine Zc ?_ | refine XO_gU (hk := ?_))
    refine XO_either (hT := fun h2 => ?_) (hF := fun h2 => ?_)
    · simp only [decide_eq_true_eq] at h2
      repeat (first | refine Zq ?_ | refine Zs ?_ | refine ZT ?_ | refine ZF ?_ | refine Zc ?_ | refine XO_gU (hk := ?_))
      refine XO_either (hT := fun h3 => ?_) (hF := fun h3 => ?_)
      · simp only [decide_eq_true_eq] at h3
        repeat (first | refine Zq ?_ | refine Zs ?_ | refine ZT ?_ | refine ZF ?_ | refine Zc ?_ | refine XO_gU (hk := ?_))
        have hd : decide (0 ≤ page ∧ 1 ≤ pages ∧ pages ≤ 1048576 ∧ page ≤ 1048576 - pages) = decide (page ≤ 1048576 - pages) := by
          rw [decide_eq_decide]; exact ⟨fun h' => h'.2.2.2, fun h' => ⟨h, h2, h3, h'⟩⟩
        rw [hd]
        refine XE_ret (.inl rfl) (tells_tmps rfl rfl) ⟨_, ⟨rfl, rfl⟩, by ((try simp only [List.cons_append, List.nil_append]); repeat (first | exact ent_refl | refine ent_take (by repeat (first | exact Find.here | apply Find.there)) ?_ | refine ent_drop ?_))⟩
      · simp only [decide_eq_false_iff_not] at h3
        rw [decide_eq_false (fun h' => h3 h'.2.2.1)]
        repeat (first | refine Zq ?_ | refine Zs ?_ | refine ZT ?_ | refine ZF ?_ | refine Zc ?_ | refine XO_gU (hk := ?_))
        refine XE_ret (.inl rfl) (tells_tmps rfl rfl) ⟨_, ⟨rfl, rfl⟩, by ((try simp only [List.cons_append, List.nil_append]); repeat (first | exact ent_refl | refine ent_take (by repeat (first | exact Find.here | apply Find.there)) ?_ | refine ent_drop ?_))⟩
    · simp only [decide_eq_false_iff_not] at h2
      rw [decide_eq_false (fun h' => h2 h'.2.1)]
      repeat (first | refine Zq ?_ | refine Zs ?_ | refine ZT ?_ | refine ZF ?_ | refine Zc ?_ | refine XO_gU (hk := ?_))
      refine XE_ret (.inl rfl) (tells_tmps rfl rfl) ⟨_, ⟨rfl, rfl⟩, by ((try simp only [List.cons_append, List.nil_append]); repeat (first | exact ent_refl | refine ent_take (by repeat (first | exact Find.here | apply Find.there)) ?_ | refine ent_drop ?_))⟩
  · simp only [decide_eq_false_iff_not] at h
    rw [decide_eq_false (fun h' => h h'.1)]
    repeat (first | refine Zq ?_ | refine Zs ?_ | refine ZT ?_ | refine ZF ?_ | refine Zc ?_ | refine XO_gU (hk := ?_))
    refine XE_ret (.inl rfl) (tells_tmps rfl rfl) ⟨_, ⟨rfl, rfl⟩, by ((try simp only [List.cons_append, List.nil_append]); repeat (first | exact ent_refl | refine ent_take (by repeat (first | exact Find.here | apply Find.there)) ?_ | refine ent_drop ?_))⟩
theorem bof_spec (page pages : Int) : Spec Tryz.prog 65 [.int .i64 page, .int .i64 pages] [] (fun v L => v = .agg #[.int .u64 (ofI page pages).1, .int .u64 (ofI page pages).2] ∧ L = []) := by
  refine Spec.intro (IsEnt.out) Tryz.func65 rfl Tryz.ntmps65 (by simp) (fun w0 F => ?_)
  simp only [envOf, List.zipIdx, List.map, List.cons_append, List.nil_append, Nat.zero_add, Nat.reduceAdd]
  repeat (first | refine Zq ?_ | refine Zs ?_ | refine ZT ?_ | refine ZF ?_ | refine Zc ?_ | refine XO_gU (hk := ?_))
  refine XO_dv dv_box1 (hk := ?_)
  rintro _ _ ⟨b1, rfl, rfl⟩
  repeat (first | refine Zq ?_ | refine Zs ?_ | refine ZT ?_ | refine ZF ?_ | refine Zc ?_ | refine XO_gU (hk := ?_))
  refine XO_dv dv_box1 (hk := ?_)
  rintro _ _ ⟨b2, rfl, rfl⟩
  repeat (first | refine Zq ?_ | refine Zs ?_ | refine ZT ?_ | refine ZF ?_ | refine Zc ?_ | refine XO_gU (hk := ?_))
  refine XO_dv dv_alloc (hk := ?_)
  rintro _ _ ⟨cb, rfl, rfl⟩
  repeat (first | refine Zq ?_ | refine Zs ?_ | refine ZT ?_ | refine ZF ?_ | refine Zc ?_ | refine XO_gU (hk := ?_))
  refine XO_call (of1_spec b1 b2 page pages) (hk := ?_)
  rintro _ _ ⟨rfl, rfl⟩
  repeat (first | refine Zq ?_ | refine Zs ?_ | refine ZT ?_ | refine ZF ?_ | refine Zc ?_ | refine XO_gU (hk := ?_))
  refine X_cond rfl (fun h => ?_) (fun h => ?_)
  · have hn : ¬ (0 ≤ page ∧ 1 ≤ pages ∧ pages ≤ 1048576 ∧ page ≤ 1048576 - pages) := of_decide_eq_false (by simpa only [Bool.not_eq_true'] using h)
    repeat (first | refine Zq ?_ | refine Zs ?_ | refine ZT ?_ | refine ZF ?_ | refine Zc ?_ | refine XO_gU (hk := ?_))
    refine XO_dv0 dv_storeW (hk := ?_)
    rintro _ _ rfl
    repeat (first | refine Zq ?_ | refine Zs ?_ | refine ZT ?_ | refine ZF ?_ | refine Zc ?_ | refine XO_gU (hk := ?_))
    unfold ofI
    rw [if_neg hn]
    refine XE_ret (.inl rfl) (tells_cell rfl) ⟨_, ⟨rfl, rfl⟩, by ((try simp only [List.cons_append, List.nil_append]); repeat (first | exact ent_refl | refine ent_take (by repeat (first | exact Find.here | apply Find.there)) ?_ | refine ent_drop ?_))⟩
  · have hn : 0 ≤ page ∧ 1 ≤ pages ∧ pages ≤ 1048576 ∧ page ≤ 1048576 - pages := by simpa using h
    repeat (first | refine Zq ?_ | refine Zs ?_ | refine ZT ?_ | refine ZF ?_ | refine Zc ?_ | refine XO_gU (hk := ?_))
    refine XO_dv0 dv_storeW (hk := ?_)
    rintro _ _ rfl
    repeat (first | refine Zq ?_ | refine Zs ?_ | refine ZT ?_ | refine ZF ?_ | refine Zc ?_ | refine XO_gU (hk := ?_))
    unfold ofI
    rw [if_pos hn]
    refine XE_ret (.inl rfl) (tells_cell rfl) ⟨_, ⟨rfl, rfl⟩, by ((try simp only [List.cons_append, List.nil_append]); repeat (first | exact ent_refl | refine ent_take (by repeat (first | exact Find.here | apply Find.there)) ?_ | refine ent_drop ?_))⟩
theorem fit_spec (c0 c1 size align : Int) (g0 : 0 ≤ c0) (g1 : c0 ≤ 18446744073709551615) (g2 : 0 ≤ c1) (g3 : c1 ≤ 18446744073709551615) (h0 : 0 ≤ size) (h1 : size ≤ 18446744073709551615) (h2 : 0 ≤ align) (h3 : align ≤ 18446744073709551615) :
    Spec Tryz.prog 114 [.agg #[.int .u64 c0, .int .u64 c1], .int .u64 size, .int .u64 align] [] (fun v L => v = (match fitI c0 c1 size align with | none => .tuple #[.int .u64 0, .agg #[.int .u64 0, .int .u64 0], .int .u64 0, .bool false] | some (s, en, p) => .tuple #[.int .u64 s, .agg #[.int .u64 en, .int .u64 c1], .int .u64 p, .bool true]) ∧ L = []) := by
  refine Spec.intro (IsEnt.out) Tryz.func114 rfl Tryz.ntmps114 (by simp) (fun w0 F => ?_)
  simp only [envOf, List.zipIdx, List.map, List.cons_append, List.nil_append, Nat.zero_add, Nat.reduceAdd]
  repeat (first | refine Zq ?_ | refine Zs ?_ | refine ZT ?_ | refine ZF ?_ | refine Zc ?_ | refine XO_gU (hk := ?_))
  refine XO_dv dv_box (hk := ?_)
  rintro _ _ ⟨b1, rfl, rfl⟩
  repeat (first | refine Zq ?_ | refine Zs ?_ | refine ZT ?_ | refine ZF ?_ | refine Zc ?_ | refine XO_gU (hk := ?_))
  refine XO_dv dv_alloc (hk := ?_)
  rintro _ _ ⟨cb, rfl, rfl⟩
  repeat (first | refine Zq ?_ | refine Zs ?_ | refine ZT ?_ | refine ZF ?_ | refine Zc ?_ | refine XO_gU (hk := ?_))
  refine XO_call (up_spec c0 align g0 g1 h2 h3) (hk := ?_)
  rintro _ _ ⟨rfl, rfl⟩
  cases hu : upI c0 align with
  | none =>
    simp only [Option.getD_none, Option.isSome_none]
    have hf : fitI c0 c1 size align = none := by unfold fitI; rw [hu]; rfl
    rw [hf]
    repeat (first | refine Zq ?_ | refine Zs ?_ | refine ZT ?_ | refine ZF ?_ | refine Zc ?_ | refine XO_gU (hk := ?_))
    refine XO_call (add_spec 0 size (by decide) (by decide) h0 h1) (hk := ?_)
    rintro _ _ ⟨rfl, rfl⟩
    repeat (first | refine Zq ?_ | refine Zs ?_ | refine ZT ?_ | refine ZF ?_ | refine Zc ?_ | refine XO_gU (hk := ?_))
    refine X_cond rfl (fun _ => ?_) (fun h => by cases h)
    repeat (first | refine Zq ?_ | refine Zs ?_ | refine ZT ?_ | refine ZF ?_ | refine Zc ?_ | refine XO_gU (hk := ?_))
    refine XO_dv0 dv_storeW (hk := ?_)
    rintro _ _ rfl
    repeat (first | refine Zq ?_ | refine Zs ?_ | refine ZT ?_ | refine ZF ?_ | refine Zc ?_ | refine XO_gU (hk := ?_))
    refine XE_ret (.inl rfl) (tells_many (rs := [.tmp _, .cell _ _, .tmp _, .tmp _]) (vs := [_, _, _, _]) rfl ⟨told_tmp, told_cell, told_tmp, told_tmp, trivial⟩) ⟨_, ⟨rfl, rfl⟩, by ((try simp only [List.cons_append, List.nil_append]); repeat (first | exact ent_refl | refine ent_take (by repeat (first | exact Find.here | apply Find.there)) ?_ | refine ent_drop ?_))⟩
  | some s =>
    obtain ⟨u1, u2, u3, u4, u5⟩ := upI_le g0 h2 hu
    simp only [Option.getD_some, Option.isSome_some]
    repeat (first | refine Zq ?_ | refine Zs ?_ | refine ZT ?_ | refine ZF ?_ | refine Zc ?_ | refine XO_gU (hk := ?_))
    refine XO_call (add_spec s size (by omega) (by omega) h0 h1) (hk := ?_)
    rintro _ _ ⟨rfl, rfl⟩
    cases ha : addI s size with
    | none =>
      have hf : fitI c0 c1 size align = none := by unfold fitI; rw [hu, Option.bind_some, ha]; rfl
      rw [hf]
      repeat (first | refine Zq ?_ | refine Zs ?_ | refine ZT ?_ | refine ZF ?_ | refine Zc ?_ | refine XO_gU (hk := ?_))
      refine X_cond rfl (fun _ => ?_) (fun h => by cases h)
      repeat (first | refine Zq ?_ | refine Zs ?_ | refine ZT ?_ | refine ZF ?_ | refine Zc ?_ | refine XO_gU (hk := ?_))
      refine XO_dv0 dv_storeW (hk := ?_)
      rintro _ _ rfl
      repeat (first | refine Zq ?_ | refine Zs ?_ | refine ZT ?_ | refine ZF ?_ | refine Zc ?_ | refine XO_gU (hk := ?_))
      refine XE_ret (.inl rfl) (tells_many (rs := [.tmp _, .cell _ _, .tmp _, .tmp _]) (vs := [_, _, _, _]) rfl ⟨told_tmp, told_cell, told_tmp, told_tmp, trivial⟩) ⟨_, ⟨rfl, rfl⟩, by ((try simp only [List.cons_append, List.nil_append]); repeat (first | exact ent_refl | refine ent_take (by repeat (first | exact Find.here | apply Find.there)) ?_ | refine ent_drop ?_))⟩
    | some en =>
      simp only [Option.getD_some, Option.isSome_some]
      obtain ⟨hen, hlt⟩ := add_le ha
      repeat (first | refine Zq ?_ | refine Zs ?_ | refine ZT ?_ | refine ZF ?_ | refine Zc ?_ | refine XO_gU (hk := ?_))
      refine XO_either (hT := fun h => ?_) (hF := fun h => ?_)
      · have hs : size = 0 := by simpa using h
        have hf : fitI c0 c1 size align = none := by unfold fitI; rw [hu, Option.bind_some, ha, Option.bind_some, if_pos (.inl hs)]
        rw [hf]
        repeat (first | refine Zq ?_ | refine Zs ?_ | refine ZT ?_ | refine ZF ?_ | refine Zc ?_ | refine XO_gU (hk := ?_))
        refine X_cond rfl (fun _ => ?_) (fun h => by cases h)
        repeat (first | refine Zq ?_ | refine Zs ?_ | refine ZT ?_ | refine ZF ?_ | refine Zc ?_ | refine XO_gU (hk := ?_))
        refine XO_dv0 dv_storeW (hk := ?_)
        rintro _ _ rfl
        repeat (first | refine Zq ?_ | refine Zs ?_ | refine ZT ?_ | refine ZF ?_ | refine Zc ?_ | refine XO_gU (hk := ?_))
        refine XE_ret (.inl rfl) (tells_many (rs := [.tmp _, .cell _ _, .tmp _, .tmp _]) (vs := [_, _, _, _]) rfl ⟨told_tmp, told_cell, told_tmp, told_tmp, trivial⟩) ⟨_, ⟨rfl, rfl⟩, by ((try simp only [List.cons_append, List.nil_append]); repeat (first | exact ent_refl | refine ent_take (by repeat (first | exact Find.here | apply Find.there)) ?_ | refine ent_drop ?_))⟩
      have hs : ¬ size = 0 := by simpa using h
      repeat (first | refine Zq ?_ | refine Zs ?_ | refine ZT ?_ | refine ZF ?_ | refine Zc ?_ | refine XO_gU (hk := ?_))
      refine X_cond rfl (fun h2 => ?_) (fun h2 => ?_) <;> simp only [decide_eq_true_eq, decide_eq_false_iff_not] at h2
      · have hf : fitI c0 c1 size align = none := by unfold fitI; rw [hu, Option.bind_some, ha, Option.bind_some, if_pos (.inr h2)]
        rw [hf]
        repeat (first | refine Zq ?_ | refine Zs ?_ | refine ZT ?_ | refine ZF ?_ | refine Zc ?_ | refine XO_gU (hk := ?_))
        refine XO_dv0 dv_storeW (hk := ?_)
        rintro _ _ rfl
        repeat (first | refine Zq ?_ | refine Zs ?_ | refine ZT ?_ | refine ZF ?_ | refine Zc ?_ | refine XO_gU (hk := ?_))
        refine XE_ret (.inl rfl) (tells_many (rs := [.tmp _, .cell _ _, .tmp _, .tmp _]) (vs := [_, _, _, _]) rfl ⟨told_tmp, told_cell, told_tmp, told_tmp, trivial⟩) ⟨_, ⟨rfl, rfl⟩, by ((try simp only [List.cons_append, List.nil_append]); repeat (first | exact ent_refl | refine ent_take (by repeat (first | exact Find.here | apply Find.there)) ?_ | refine ent_drop ?_))⟩
      have hf : fitI c0 c1 size align = some (s, en, s - c0) := by unfold fitI; rw [hu, Option.bind_some, ha, Option.bind_some, if_neg (by omega)]
      rw [hf]
      repeat (first | refine Zq ?_ | refine Zs ?_ | refine ZT ?_ | refine ZF ?_ | refine Zc ?_ | refine XO_gU (hk := ?_))
      repeat (first | refine Dq ?_ | refine Ds ?_ | refine XDi_gF (h := ?_) | refine XDi_gU (h := ?_) | refine XD_pick (h := ?_) | refine X_draws (h := ?_))
      (refine XD_one (h := ?_); refine XDa_dvA (dv_of_rv (rv_of_pv pv_assign)) (hk := ?_); rintro _ _ ⟨rfl, rfl⟩; refine ⟨by (repeat (first | exact keeps_nil | exact keeps_fnil | refine keeps_skip (h := ?_) | refine keeps_takeQ (h := ?_))), ?_⟩)
      refine XD_one (h := ?_)
      refine XDa_dvk0 dv_storeW (K := _) (hk := ?_)
      rintro _ _ rfl
      refine ⟨by (repeat (first | exact keeps_nil | exact keeps_fnil | refine keeps_skip (h := ?_) | refine keeps_takeQ (h := ?_))), ?_⟩
      (refine XD_one (h := ?_); refine XDa_dvA (dv_of_rv (rv_of_pv pv_assign)) (hk := ?_); rintro _ _ ⟨rfl, rfl⟩; refine ⟨by (repeat (first | exact keeps_nil | exact keeps_fnil | refine keeps_skip (h := ?_) | refine keeps_takeQ (h := ?_))), ?_⟩)
      (refine XD_one (h := ?_); refine XDa_dvA (dv_of_rv (rv_of_pv pv_assign)) (hk := ?_); rintro _ _ ⟨rfl, rfl⟩; refine ⟨by (repeat (first | exact keeps_nil | exact keeps_fnil | refine keeps_skip (h := ?_) | refine keeps_takeQ (h := ?_))), ?_⟩)
      refine XD_end (h := ?_)
      repeat (first | refine Zq ?_ | refine Zs ?_ | refine ZT ?_ | refine ZF ?_ | refine Zc ?_ | refine XO_gU (hk := ?_))
      refine XE_ret (.inl rfl) (tells_many (rs := [.tmp _, .cell _ _, .tmp _, .tmp _]) (vs := [_, _, _, _]) rfl ⟨told_tmp, told_cell, told_tmp, told_tmp, trivial⟩) ⟨_, ⟨rfl, rfl⟩, by ((try simp only [List.cons_append, List.nil_append]); repeat (first | exact ent_refl | refine ent_take (by repeat (first | exact Find.here | apply Find.there)) ?_ | refine ent_drop ?_))⟩
end Go.Proofs.YtamecmklcnohjaaGreat.Sep
