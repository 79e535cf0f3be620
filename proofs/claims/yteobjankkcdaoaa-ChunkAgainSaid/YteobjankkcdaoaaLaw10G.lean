import Derived.Test.YteobjankkcdaoaaBn9
/- The law Law10G: it answers true whatever it is given, and what was there stays. No conditions. -/
namespace Go.Proofs.Yteobjankkcdaoaa.Sep
open Go.RowKit
set_option linter.unusedSimpArgs false
set_option linter.unusedVariables false
/-! a chunk that was put is got again by the next one of its class -/
theorem rnd_class {n : Int} (h1 : 1 ≤ n) (h2 : n ≤ 64) : ∃ c : Fin 7, rnd n = cpages c.val ∧ n ≤ cpages c.val := by
  have h : rnd n = cpages (cclass n) ∧ (cclass n = 0 ∨ cclass n = 1 ∨ cclass n = 2 ∨ cclass n = 3 ∨ cclass n = 4 ∨ cclass n = 5 ∨ cclass n = 6) ∧ n ≤ cpages (cclass n) := by
    obtain ⟨r1, -, -, -, -, r6⟩ := rnd_ok h1 (by omega)
    unfold rnd cclass
    repeat' split
    all_goals first | omega | (refine ⟨?_, by simp, ?_⟩ <;> simp [cpages] <;> omega)
  obtain ⟨e, hc, hl⟩ := h
  rcases hc with hc | hc | hc | hc | hc | hc | hc <;> rw [hc] at e hl
  · exact ⟨0, e, hl⟩
  · exact ⟨1, e, hl⟩
  · exact ⟨2, e, hl⟩
  · exact ⟨3, e, hl⟩
  · exact ⟨4, e, hl⟩
  · exact ⟨5, e, hl⟩
  · exact ⟨6, e, hl⟩
def ca0 : Co := ⟨2000, [(0, 2000)], fun _ => [], 0⟩
def ca1 (c : Nat) : Co := (getC ca0 (cpages c)).1
def ca2 (c : Nat) : Co := (getC (ca1 c) 1).1
def ca3 (c : Nat) : Co := putC (ca2 c) (0, cpages c)
def ca4 (c d : Nat) : Co := (getC (ca3 c) (cpages d)).1
theorem caf : ∀ c : Fin 7, (getC ca0 (cpages c.val)).2.2 = 0 ∧ (getC ca0 (cpages c.val)).2.1 = 0 ∧ (getC (ca1 c.val) 1).2.2 = 0 ∧ (ca1 c.val).P = 2000 ∧ (ca2 c.val).P = 2000 ∧ (ca3 c.val).P = 2000 ∧ (kall (ca3 c.val).ks 7).length = 1 := by decide +kernel
theorem cag : ∀ c d : Fin 7, (getC (ca3 c.val) (cpages d.val)).2.2 = 0 ∧ (getC (ca3 c.val) (cpages d.val)).2.1 ≠ (getC (ca1 c.val) 1).2.1 ∧ (ca4 c.val d.val).P = 2000 ∧
    ((getC (ca3 c.val) (cpages d.val)).2.1 = 0 ↔ cpages d.val = cpages c.val) ∧ ((getC (ca3 c.val) (cpages d.val)).2.1 = 0 → (kall (ca4 c.val d.val).ks 7).length = 0) := by decide +kernel
instance teq_head : TEq Try.prog 45 [.i64, .i64, .u64, .u64] := ⟨_, Try.underlying45, by kernel_rfl, by kernel_rfl, ⟨by decide, rfl, Try.underlying3, by decide, rfl, Try.underlying3, by decide, rfl, Try.underlying26, by decide, rfl, Try.underlying26, trivial⟩⟩
set_option maxHeartbeats 8000000
attribute [local irreducible] X XE XO XD XDi XDa PV RV DV pt base Spec Sl Mp Keeps Pg Kc Pgs Spc Ck
theorem again10 (p1 p2 kind owner : Int) (h1 : 0 ≤ p1 ∧ p1 ≤ 255) (h2 : 0 ≤ p2 ∧ p2 ≤ 255) (h3 : 0 ≤ kind ∧ kind ≤ 255) (h4 : 0 ≤ owner ∧ owner ≤ 18446744073709551615) (W : World) :
    Calls Try.prog 7 #[.int .u8 p1, .int .u8 p2, .int .u8 kind, .int .u64 owner] W fun e w' => e = .returned (.bool true) ∧ Below W.heap.size W w' := by
  refine law_intro (args := [.int .u8 p1, .int .u8 p2, .int .u8 kind, .int .u64 owner]) Try.func7 rfl Try.ntmps7 (by simp) ?_
  simp only [envOf, List.zipIdx, List.map, List.cons_append, List.nil_append, Nat.zero_add, Nat.reduceAdd]
  repeat (first | refine Zq ?_ | refine Zs ?_ | refine ZT ?_ | refine ZF ?_ | refine Zc ?_ | refine XO_gU (hk := ?_))
  refine XO_call awake10_spec (hk := ?_)
  rintro _ _ ⟨rfl, rfl⟩
  repeat (first | refine Zq ?_ | refine Zs ?_ | refine ZT ?_ | refine ZF ?_ | refine Zc ?_ | refine XO_gU (hk := ?_))
  refine X_cond rfl (fun h => by cases h) (fun _ => ?_)
  repeat (first | refine Zq ?_ | refine Zs ?_ | refine ZT ?_ | refine ZF ?_ | refine Zc ?_ | refine XO_gU (hk := ?_))
  refine XO_call (knew_spec 2000) (hk := ?_)
  rintro _ _ ⟨s, sb, rfl, rfl⟩
  have hk0 : KInv ca0 (⟨fun _ => 0, 0⟩ : Mm).f [] := knew 2000 _
  obtain ⟨c, hc, hcl⟩ := rnd_class (n := p1 % 64 + 1) (by omega) (by omega)
  obtain ⟨d, hd, hdl⟩ := rnd_class (n := p2 % 64 + 1) (by omega) (by omega)
  obtain ⟨f1, f2, f3, f4, f5, f6, f7⟩ := caf c
  obtain ⟨g1, g2, g3, g4, g5⟩ := cag c d
  repeat (first | refine Zq ?_ | refine Zs ?_ | refine ZT ?_ | refine ZF ?_ | refine Zc ?_ | refine XO_gU (hk := ?_))
  have hb1 : ¬ bad (p1 % 64 + 1) 0 := by unfold bad; omega
  have hz1 : (getC ca0 (rnd (p1 % 64 + 1))).2.2 = 0 := by rw [hc]; exact f1
  have s1 := kget_ok s sb (P := 2000) (p := p1 % 64 + 1) (k := 0) (o := 1) hk0 rfl (by decide) hb1 hz1
  obtain ⟨hk1, -⟩ := kget_inv (P := 2000) (p := p1 % 64 + 1) (k := 0) (o := 1) hk0 rfl (by decide) hb1 hz1
  rw [hc, f2] at s1 hk1
  refine XO_call s1 (hk := ?_)
  rintro _ _ ⟨rfl, rfl⟩
  generalize stM _ _ _ = m1 at hk1 ⊢
  repeat (first | refine Zq ?_ | refine Zs ?_ | refine ZT ?_ | refine ZF ?_ | refine Zc ?_ | refine XO_gU (hk := ?_))
  have hb2 : ¬ bad 1 0 := by decide
  have s2 := kget_ok s sb (C := ca1 c.val) (P := 2000) (p := 1) (k := 0) (o := 1) hk1 f4 (by decide) hb2 f3
  obtain ⟨hk2, -⟩ := kget_inv (C := ca1 c.val) (P := 2000) (p := 1) (k := 0) (o := 1) hk1 f4 (by decide) hb2 f3
  rw [show rnd 1 = 1 from by decide] at s2 hk2
  refine XO_call s2 (hk := ?_)
  rintro _ _ ⟨rfl, rfl⟩
  generalize stM _ _ _ = m2 at hk2 ⊢
  repeat (first | refine Zq ?_ | refine Zs ?_ | refine ZT ?_ | refine ZF ?_ | refine Zc ?_ | refine XO_gU (hk := ?_))
  refine XO_call (kput_ok s sb (C := ca2 c.val) (l1 := []) (p := 0) (hd := ⟨cpages c.val, 0, 1, 0⟩) hk2 f5) (hk := ?_)
  rintro _ _ ⟨rfl, rfl⟩
  obtain ⟨hk3, -⟩ := kput_inv (C := ca2 c.val) (l1 := []) (p := 0) (hd := ⟨cpages c.val, 0, 1, 0⟩) hk2 f5
  generalize kputM _ _ _ = m3 at hk3 ⊢
  repeat (first | refine Zq ?_ | refine Zs ?_ | refine ZT ?_ | refine ZF ?_ | refine Zc ?_ | refine XO_gU (hk := ?_))
  refine XO_call (kcached_spec s sb (ca3 c.val) hk3.ci.ok) (hk := ?_)
  rintro _ _ ⟨ra, rc, rfl, rfl⟩
  rw [f7]
  repeat (first | refine Zq ?_ | refine Zs ?_ | refine ZT ?_ | refine ZF ?_ | refine Zc ?_ | refine XO_gU (hk := ?_))
  refine X_cond rfl (fun h => by cases h) (fun _ => ?_)
  repeat (first | refine Zq ?_ | refine Zs ?_ | refine ZT ?_ | refine ZF ?_ | refine Zc ?_ | refine XO_gU (hk := ?_))
  have hb4 : ¬ bad (p2 % 64 + 1) kind := by unfold bad; omega
  have hz4 : (getC (ca3 c.val) (rnd (p2 % 64 + 1))).2.2 = 0 := by rw [hd]; exact g1
  have s4 := kget_ok s sb (C := ca3 c.val) (P := 2000) (p := p2 % 64 + 1) (k := kind) (o := owner) hk3 f6 ⟨h4.1, by omega⟩ hb4 hz4
  obtain ⟨hk4, -⟩ := kget_inv (C := ca3 c.val) (P := 2000) (p := p2 % 64 + 1) (k := kind) (o := owner) hk3 f6 ⟨h4.1, by omega⟩ hb4 hz4
  rw [hd] at s4 hk4
  refine XO_call s4 (hk := ?_)
  rintro _ _ ⟨rfl, rfl⟩
  generalize stM _ _ _ = m4 at hk4 ⊢
  repeat (first | refine Zq ?_ | refine Zs ?_ | refine ZT ?_ | refine ZF ?_ | refine Zc ?_ | refine XO_gU (hk := ?_))
  refine XO_call (kspace_spec s sb (ca4 c.val d.val)) (hk := ?_)
  rintro _ _ ⟨rfl, rfl⟩
  repeat (first | refine Zq ?_ | refine Zs ?_ | refine ZT ?_ | refine ZF ?_ | refine Zc ?_ | refine XO_gU (hk := ?_))
  refine XO_call (hread_ok sb (C := ca4 c.val d.val) (l2 := []) hk4 g3) (hk := ?_)
  rintro _ _ ⟨rfl, rfl⟩
  repeat (first | refine Zq ?_ | refine Zs ?_ | refine ZT ?_ | refine ZF ?_ | refine Zc ?_ | refine XO_gU (hk := ?_))
  refine XO_dv (dv_alloc (row := [.int .i64 0, .int .i64 0, .int .u64 0, .int .u64 0])) (hk := ?_)
  rintro _ _ ⟨hb, rfl, rfl⟩
  refine XO_dv0 (dv_storeW (vs := [.int .i64 (cpages d.val), .int .i64 kind, .int .u64 owner, .int .u64 0])) (hk := ?_)
  rintro _ _ rfl
  repeat (first | refine Zq ?_ | refine Zs ?_ | refine ZT ?_ | refine ZF ?_ | refine Zc ?_ | refine XO_gU (hk := ?_))
  refine XO_pv (pv_buildG [.int .i64 (cpages d.val), .int .i64 kind, .int .u64 owner, .int .u64 0]) (hk := ?_)
  repeat (first | refine Zq ?_ | refine Zs ?_ | refine ZT ?_ | refine ZF ?_ | refine Zc ?_ | refine XO_gU (hk := ?_))
  refine XO_pv (pv_neRec [cpages d.val, kind, owner, 0] [cpages d.val, kind, owner, 0]) (hk := ?_)
  refine XO_reval 97 (.bool false) (hv := by simp) (hk := ?_)
  repeat (first | refine Zq ?_ | refine Zs ?_ | refine ZT ?_ | refine ZF ?_ | refine Zc ?_ | refine XO_gU (hk := ?_))
  refine X_cond rfl (fun h => absurd (by simpa using h) g2) (fun _ => ?_)
  repeat (first | refine Zq ?_ | refine Zs ?_ | refine ZT ?_ | refine ZF ?_ | refine Zc ?_ | refine XO_gU (hk := ?_))
  refine XO_either (hT := fun h5 => ?_) (hF := fun h5 => ?_) <;> simp only [beq_iff_eq, beq_eq_false_iff_ne] at h5
  · repeat (first | refine Zq ?_ | refine Zs ?_ | refine ZT ?_ | refine ZF ?_ | refine Zc ?_ | refine XO_gU (hk := ?_))
    refine XO_call (kcached_spec s sb (ca4 c.val d.val) hk4.ci.ok) (hk := ?_)
    rintro _ _ ⟨ra2, rc2, rfl, rfl⟩
    rw [g5 h5]
    repeat (first | refine Zq ?_ | refine Zs ?_ | refine ZT ?_ | refine ZF ?_ | refine Zc ?_ | refine XO_gU (hk := ?_))
    refine XO_known true (hb := by have := g4.1 h5; simp [this]) (hk := ?_)
    repeat (first | refine Zq ?_ | refine Zs ?_ | refine ZT ?_ | refine ZF ?_ | refine Zc ?_ | refine XO_gU (hk := ?_))
    refine XE_ret (.inl rfl) (tells_tmps rfl rfl) ⟨_, ⟨?_, rfl⟩, by ((try simp only [List.cons_append, List.nil_append]); repeat (first | exact ent_refl | refine ent_take (by repeat (first | exact Find.here | apply Find.there)) ?_ | refine ent_drop ?_))⟩
    exact congrArg Value.bool (decide_eq_true hdl)
  · repeat (first | refine Zq ?_ | refine Zs ?_ | refine ZT ?_ | refine ZF ?_ | refine Zc ?_ | refine XO_gU (hk := ?_))
    refine XO_known true (hb := by have : ¬ cpages d.val = cpages c.val := fun h => h5 (g4.2 h); simp [this]) (hk := ?_)
    repeat (first | refine Zq ?_ | refine Zs ?_ | refine ZT ?_ | refine ZF ?_ | refine Zc ?_ | refine XO_gU (hk := ?_))
    refine XE_ret (.inl rfl) (tells_tmps rfl rfl) ⟨_, ⟨?_, rfl⟩, by ((try simp only [List.cons_append, List.nil_append]); repeat (first | exact ent_refl | refine ent_take (by repeat (first | exact Find.here | apply Find.there)) ?_ | refine ent_drop ?_))⟩
    exact congrArg Value.bool (decide_eq_true hdl)
end Go.Proofs.Yteobjankkcdaoaa.Sep
