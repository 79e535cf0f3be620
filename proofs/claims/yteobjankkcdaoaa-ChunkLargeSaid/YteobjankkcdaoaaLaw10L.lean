import Derived.Test.YteobjankkcdaoaaBn10
/- The law Law10L: it answers true whatever it is given, and what was there stays. No conditions. -/
namespace Go.Proofs.Yteobjankkcdaoaa.Sep
open Go.RowKit
set_option linter.unusedSimpArgs false
set_option linter.unusedVariables false
/-! large chunks -/
def clw (i : Nat) : Nat := [0, 1, 2, 0].getD i 0
def offL (i : Nat) : Int := [0, 1, 3, 7, 8].getD i 8
def gotL (i : Nat) : List (Int × Hd) := (List.range i).map fun j => (offL j, ⟨cpages (clw j), 0, 1, 0⟩)
def ksL : Nat → Nat → List Int
  | 0 => fun _ => []
  | j + 1 => upd (ksL j) (clw j) (ksL j (clw j) ++ [offL j])
theorem gotL_succ (i : Nat) : gotL (i + 1) = gotL i ++ [(offL i, ⟨cpages (clw i), 0, 1, 0⟩)] := by
  unfold gotL; rw [List.range_succ, List.map_append]; rfl
theorem gotL_len (i : Nat) : (gotL i).length = i := by simp [gotL]
theorem gotL_get {i j : Nat} (h : j < i) : (gotL i)[j]? = some (offL j, ⟨cpages (clw j), 0, 1, 0⟩) := by
  unfold gotL; rw [List.getElem?_map, List.getElem?_range h]; rfl
theorem drop_cons {α : Type} {l : List α} {j : Nat} {x : α} (h : l[j]? = some x) : l.drop j = x :: l.drop (j + 1) := by
  obtain ⟨hl, rfl⟩ := List.getElem?_eq_some_iff.1 h
  exact List.drop_eq_getElem_cons hl
theorem lf1 : ∀ i : Fin 4, (IntKind.i64.wrap (1 * ((2 ^ (min ((i.val : Int) % 3).toNat IntKind.i64.bits) : Nat) : Int)) = cpages (clw i.val)) ∧ rnd (cpages (clw i.val)) = cpages (clw i.val) ∧ clw i.val < 7 ∧ offL (i.val + 1) = offL i.val + cpages (clw i.val) ∧ 1 ≤ cpages (clw i.val) ∧ cpages (clw i.val) ≤ 4 ∧ 0 ≤ offL i.val ∧ offL i.val ≤ 7 ∧ (ksL i.val (clw i.val)).length < 4 ∧ cclass (cpages (clw i.val)) = clw i.val := by decide
theorem lf2 : ∀ i : Fin 5, (kall (ksL i.val) 7).length = i.val := by decide
set_option maxHeartbeats 8000000
attribute [local irreducible] X XE XO XD XDi XDa PV RV DV pt base Spec Sl Mp Keeps Pg Kc Pgs Spc Ck
theorem large10 (p small : Int) (h1 : 0 ≤ p ∧ p ≤ 65535) (h2 : 0 ≤ small ∧ small ≤ 255) (W : World) :
    Calls Try.prog 8 #[.int .u16 p, .int .u8 small] W fun e w' => e = .returned (.bool true) ∧ Below W.heap.size W w' := by
  refine law_intro (args := [.int .u16 p, .int .u8 small]) Try.func8 rfl Try.ntmps8 (by simp) ?_
  simp only [envOf, List.zipIdx, List.map, List.cons_append, List.nil_append, Nat.zero_add, Nat.reduceAdd]
  repeat (first | refine Zq ?_ | refine Zs ?_ | refine ZT ?_ | refine ZF ?_ | refine Zc ?_ | refine XO_gU (hk := ?_))
  refine XO_call awake10_spec (hk := ?_)
  rintro _ _ ⟨rfl, rfl⟩
  repeat (first | refine Zq ?_ | refine Zs ?_ | refine ZT ?_ | refine ZF ?_ | refine Zc ?_ | refine XO_gU (hk := ?_))
  refine X_cond rfl (fun h => by cases h) (fun _ => ?_)
  repeat (first | refine Zq ?_ | refine Zs ?_ | refine ZT ?_ | refine ZF ?_ | refine Zc ?_ | refine XO_gU (hk := ?_))
  obtain ⟨n, hn⟩ : ∃ n, n = p % 3000 + 65 := ⟨_, rfl⟩
  rw [← hn]
  have hn' : min (max n 1) 1048576 = n := by omega
  refine XO_call (knew_spec n) (hk := ?_)
  rintro _ _ ⟨s, sb, rfl, rfl⟩
  rw [hn']
  have hk0 := knew n (⟨fun _ => 0, 0⟩ : Mm).f
  rw [hn'] at hk0
  generalize hm0 : (⟨fun _ => 0, 0⟩ : Mm) = m0 at hk0 ⊢
  obtain ⟨k, hk⟩ : ∃ k : Nat, (k : Int) = small % 5 := ⟨(small % 5).toNat, by omega⟩
  have hk4 : k ≤ 4 := by omega
  repeat (first | refine Zq ?_ | refine Zs ?_ | refine ZT ?_ | refine ZF ?_ | refine Zc ?_ | refine XO_gU (hk := ?_))
  refine X_conv (fun _ => SL_nilSl (eI .i64)) ?_
  refine X_loop (ι := Nat × Co × Mm × Option Addr × Nat) (fun q => q.1 ≤ k ∧ KInv q.2.1 q.2.2.1.f (gotL q.1) ∧ q.2.1.P = n ∧ q.2.1.fr = [(offL q.1, n - offL q.1)] ∧ q.2.1.ks = fun _ => [])
    (fun q => [(1, .int .u8 small), (6, .int .i64 n), (7, .pointer (some ⟨s, 0, none⟩)), (8, .slice q.2.2.2.1 ((gotL q.1).map (·.1)).length q.2.2.2.2), (9, .int .i64 (q.1 : Int))])
    (fun q => [Ck s sb q.2.1, Spc sb n q.2.2.1, Sl (eI .i64) q.2.2.2.1 q.2.2.2.2 ((gotL q.1).map (·.1)), base W]) (fun q => k - q.1) (0, ⟨n, [(0, n)], fun _ => [], 0⟩, m0, none, 0) ⟨Nat.zero_le _, hk0, rfl, by simp [offL], rfl⟩ ?_ (by ((try simp only [List.cons_append, List.nil_append]); repeat (first | exact ent_refl | refine ent_take (by repeat (first | exact Find.here | apply Find.there)) ?_ | refine ent_drop ?_))) ?_
  · (repeat (first | exact Env.sub_nil _ | refine Env.sub_cons rfl ?_))
  rintro ⟨i, C, m, a, c⟩ ⟨hi, hK, hP, hf, hks⟩
  dsimp only at hi hK hP hf hks ⊢
  clear hk0
  repeat (first | refine Zq ?_ | refine Zs ?_ | refine ZT ?_ | refine ZF ?_ | refine Zc ?_ | refine XO_gU (hk := ?_))
  refine X_cond rfl (fun hc => ?_) (fun hc => ?_) <;> simp only [decide_eq_true_eq, decide_eq_false_iff_not] at hc
  · have hi4 : i < 4 := by omega
    obtain ⟨q1, q2, q3, q4, q5, q6, q7, q8, q9, q10⟩ := lf1 ⟨i, hi4⟩
    simp only at q1 q2 q3 q4 q5 q6 q7 q8 q9 q10
    repeat (first | refine Zq ?_ | refine Zs ?_ | refine ZT ?_ | refine ZF ?_ | refine Zc ?_ | refine XO_gU (hk := ?_))
    refine XO_pv (pv_shlN (r := cpages (clw i)) (hw := q1)) (hk := ?_)
    repeat (first | refine Zq ?_ | refine Zs ?_ | refine ZT ?_ | refine ZF ?_ | refine Zc ?_ | refine XO_gU (hk := ?_))
    have hb : ¬ bad (cpages (clw i)) 0 := by unfold bad; omega
    obtain ⟨g1, g2, g3, -⟩ := get_line (w := cpages (clw i)) hf hks q5 (by omega)
    have hz : (getC C (rnd (cpages (clw i)))).2.2 = 0 := by rw [q2, g1]
    have s1 := kget_ok s sb (k := 0) (o := 1) hK hP (by decide) hb hz
    obtain ⟨hK1, hP1⟩ := kget_inv (k := 0) (o := 1) hK hP (by decide) hb hz
    rw [q2, g1] at s1 hK1
    rw [q2] at hP1
    refine XO_call s1 (hk := ?_)
    rintro _ _ ⟨rfl, rfl⟩
    repeat (first | refine Zq ?_ | refine Zs ?_ | refine ZT ?_ | refine ZF ?_ | refine Zc ?_ | refine XO_gU (hk := ?_))
    refine X_cond rfl (fun h => by cases h) (fun _ => ?_)
    repeat (first | refine Zq ?_ | refine Zs ?_ | refine ZT ?_ | refine ZF ?_ | refine Zc ?_ | refine XO_gU (hk := ?_))
    refine XO_lit (E' := eI .i64) [offL i] (hk := ?_)
    intro lb
    repeat (first | refine Zq ?_ | refine Zs ?_ | refine ZT ?_ | refine ZF ?_ | refine Zc ?_ | refine XO_gU (hk := ?_))
    refine XO_dv (dv_append (E' := eI .i64) (xs := (gotL i).map (·.1)) (ys := [offL i]) (hv := Sl.view) (hb := by simp [gotL_len]; omega)) (hk := ?_)
    rintro _ _ ⟨a', c', rfl, rfl⟩
    repeat (first | refine Zq ?_ | refine Zs ?_ | refine ZT ?_ | refine ZF ?_ | refine Zc ?_ | refine XO_gU (hk := ?_))
    have e : (gotL (i + 1)).map (·.1) = (gotL i).map (·.1) ++ [offL i] := by rw [gotL_succ, List.map_append]; rfl
    rw [← e]
    rw [← gotL_succ] at hK1
    exact X_round (i + 1, _, _, a', c') ⟨by show i + 1 ≤ k; omega, hK1, hP1, by show (getC C (cpages (clw i))).1.fr = _; rw [g2, q4, show n - offL i - cpages (clw i) = n - (offL i + cpages (clw i)) from by omega], g3⟩ (by show k - (i + 1) < k - i; omega) (by (repeat (first | exact Env.sub_nil _ | refine Env.sub_cons rfl ?_))) (by ((try simp only [List.cons_append, List.nil_append]); repeat (first | exact ent_refl | refine ent_take (by repeat (first | exact Find.here | apply Find.there)) ?_ | refine ent_drop ?_)))
  obtain rfl : i = k := by omega
  have hks' : C.ks = ksL 0 := hks
  clear hf hks
  repeat (first | refine Zq ?_ | refine Zs ?_ | refine ZT ?_ | refine ZF ?_ | refine Zc ?_ | refine XO_gU (hk := ?_))
  have hgl := gotL_len i
  refine X_loop (ι := Nat × Co × Mm) (fun q => q.1 ≤ i ∧ KInv q.2.1 q.2.2.f ((gotL i).drop q.1) ∧ q.2.1.P = n ∧ q.2.1.ks = ksL q.1)
    (fun q => [(6, .int .i64 n), (7, .pointer (some ⟨s, 0, none⟩)), (8, .slice a ((gotL i).map (·.1)).length c), (13, .int .i64 (q.1 : Int))])
    (fun q => [Ck s sb q.2.1, Spc sb n q.2.2, Sl (eI .i64) a c ((gotL i).map (·.1)), base W]) (fun q => i - q.1) (0, C, m) ⟨Nat.zero_le _, hK, hP, hks'⟩ ?_ (by ((try simp only [List.cons_append, List.nil_append]); repeat (first | exact ent_refl | refine ent_take (by repeat (first | exact Find.here | apply Find.there)) ?_ | refine ent_drop ?_))) ?_
  · (repeat (first | exact Env.sub_nil _ | refine Env.sub_cons rfl ?_))
  clear hK hP hks'
  rintro ⟨j, C, m⟩ ⟨hj, hK, hP, hks⟩
  dsimp only at hj hK hP hks ⊢
  repeat (first | refine Zq ?_ | refine Zs ?_ | refine ZT ?_ | refine ZF ?_ | refine Zc ?_ | refine XO_gU (hk := ?_))
  refine X_cond rfl (fun hc => ?_) (fun hc => ?_) <;> simp only [List.length_map, hgl, decide_eq_true_eq, decide_eq_false_iff_not] at hc
  · have hj4 : j < 4 := by omega
    obtain ⟨q1, q2, q3, q4, q5, q6, q7, q8, q9, q10⟩ := lf1 ⟨j, hj4⟩
    simp only at q1 q2 q3 q4 q5 q6 q7 q8 q9 q10
    have hgj : ((gotL i).map (·.1))[j]? = some (offL j) := by rw [List.getElem?_map, gotL_get (by omega)]; rfl
    refine X_slopen (E' := eI .i64) (a := a) (c := c) (xs := (gotL i).map (·.1)) (by (repeat (first | exact Find.here | apply Find.there))) (by simp [hgl]; omega) ?_
    rintro ob oo rfl
    have hlt : j < ((gotL i).map (·.1)).length := by simp [hgl]; omega
    repeat (first | refine Zq ?_ | refine Zs ?_ | refine ZT ?_ | refine ZF ?_ | refine Zc ?_ | refine XO_gU (hk := ?_))
    rw [drop_cons (gotL_get (show j < i by omega))] at hK
    refine XO_call (kput_ok s sb (l1 := []) hK hP) (hk := ?_)
    rintro _ _ ⟨rfl, rfl⟩
    obtain ⟨hK2, hP2⟩ := kput_inv (l1 := []) hK hP
    repeat (first | refine Zq ?_ | refine Zs ?_ | refine ZT ?_ | refine ZF ?_ | refine Zc ?_ | refine XO_gU (hk := ?_))
    refine X_cond rfl (fun h => by cases h) (fun _ => ?_)
    repeat (first | refine Zq ?_ | refine Zs ?_ | refine ZT ?_ | refine ZF ?_ | refine Zc ?_ | refine XO_gU (hk := ?_))
    obtain ⟨e1, -, -⟩ := put_keep (C := C) (p := offL j) (c := clw j) q3 q7 (by rw [hks]; exact q9) q10
    exact X_round (j + 1, _, _) ⟨by show j + 1 ≤ i; omega, hK2, hP2, by show (putC C (offL j, cpages (clw j))).ks = _; rw [e1, hks]; rfl⟩ (by show i - (j + 1) < i - j; omega) (by (repeat (first | exact Env.sub_nil _ | refine Env.sub_cons rfl ?_))) (by ((try simp only [List.cons_append, List.nil_append]); repeat (first | exact ent_refl | refine ent_take (by repeat (first | exact Find.here | apply Find.there)) ?_ | refine ent_drop ?_)))
  obtain rfl : j = i := by omega
  rw [List.drop_of_length_le (by omega)] at hK
  repeat (first | refine Zq ?_ | refine Zs ?_ | refine ZT ?_ | refine ZF ?_ | refine Zc ?_ | refine XO_gU (hk := ?_))
  refine XO_call (kcached_spec s sb C hK.ci.ok) (hk := ?_)
  rintro _ _ ⟨ra, rc, rfl, rfl⟩
  rw [hks, lf2 ⟨j, by omega⟩]
  repeat (first | refine Zq ?_ | refine Zs ?_ | refine ZT ?_ | refine ZF ?_ | refine Zc ?_ | refine XO_gU (hk := ?_))
  have hb : ¬ bad n 1 := by unfold bad; omega
  have hrn : rnd n = n := (rnd_ok (p := n) (by omega) (by omega)).2.2.2.2.1 (by omega)
  subst hP
  obtain ⟨g1, g2, g3⟩ := get_all hK (by omega)
  have hz : (getC C (rnd C.P)).2.2 = 0 := by rw [hrn, g1]
  have s1 := kget_ok s sb (k := 1) (o := 2) hK rfl (by decide) hb hz
  obtain ⟨hK1, hP1⟩ := kget_inv (k := 1) (o := 2) hK rfl (by decide) hb hz
  rw [hrn, g1] at s1 hK1
  rw [hrn] at hP1
  refine XO_call s1 (hk := ?_)
  rintro _ _ ⟨rfl, rfl⟩
  generalize stM _ _ _ = m1 at hK1 ⊢
  generalize (getC C C.P).1 = C1 at g2 g3 hK1 hP1 ⊢
  repeat (first | refine Zq ?_ | refine Zs ?_ | refine ZT ?_ | refine ZF ?_ | refine Zc ?_ | refine XO_gU (hk := ?_))
  refine XO_known false (hb := by simp) (hk := ?_)
  repeat (first | refine Zq ?_ | refine Zs ?_ | refine ZT ?_ | refine ZF ?_ | refine Zc ?_ | refine XO_gU (hk := ?_))
  refine XO_call (kcached_spec s sb C1 hK1.ci.ok) (hk := ?_)
  rintro _ _ ⟨ra2, rc2, rfl, rfl⟩
  rw [g3]
  repeat (first | refine Zq ?_ | refine Zs ?_ | refine ZT ?_ | refine ZF ?_ | refine Zc ?_ | refine XO_gU (hk := ?_))
  refine X_cond rfl (fun h => by simp [gotL_len] at h) (fun _ => ?_)
  repeat (first | refine Zq ?_ | refine Zs ?_ | refine ZT ?_ | refine ZF ?_ | refine Zc ?_ | refine XO_gU (hk := ?_))
  have hfree := kfree_spec s sb C1 hK1.ci.ok
  rw [g2] at hfree
  refine XO_call hfree (hk := ?_)
  rintro _ _ ⟨rfl, rfl⟩
  repeat (first | refine Zq ?_ | refine Zs ?_ | refine ZT ?_ | refine ZF ?_ | refine Zc ?_ | refine XO_gU (hk := ?_))
  have hb2 : ¬ bad 1 0 := by decide
  obtain ⟨z1, z2, z3⟩ := get_none (w := 1) g2 g3 (by decide) (by decide)
  have hz2 : (getC C1 (rnd 1)).2.2 ≠ 0 := by rw [show rnd 1 = 1 from by decide, z1]; decide
  refine XO_call (kget_no s sb (o := 0) hK1.ci.ok hP1 hb2 hz2) (hk := ?_)
  rintro _ _ ⟨rfl, rfl⟩
  obtain ⟨hK2, hP2, -⟩ := kget_full hK1 hP1 hb2 hz2
  repeat (first | refine Zq ?_ | refine Zs ?_ | refine ZT ?_ | refine ZF ?_ | refine Zc ?_ | refine XO_gU (hk := ?_))
  refine XO_call (kput_ok s sb (l1 := []) (l2 := []) (p := 0) (hd := ⟨C.P, 1, 2, 0⟩) hK2 hP2) (hk := ?_)
  rintro _ _ ⟨rfl, rfl⟩
  obtain ⟨hK3, hP3⟩ := kput_inv (l1 := []) (l2 := []) (p := 0) (hd := ⟨C.P, 1, 2, 0⟩) hK2 hP2
  have hks3 : (putC (trimC C1) (0, C.P)).ks = fun _ => [] := by rw [put_big (by omega)]; rfl
  have hfr3 : (putC (trimC C1) (0, C.P)).fr = [(0, C.P)] := (kdone0 hK3 (by rw [show (putC (trimC C1) (0, C.P)).ks = fun _ => [] from hks3]; rfl)).trans (by rw [hP3])
  simp only at hK3 ⊢
  generalize putC (trimC C1) (0, C.P) = C3 at hK3 hks3 hfr3 ⊢
  repeat (first | refine Zq ?_ | refine Zs ?_ | refine ZT ?_ | refine ZF ?_ | refine Zc ?_ | refine XO_gU (hk := ?_))
  refine XO_call (kcached_spec s sb C3 hK3.ci.ok) (hk := ?_)
  rintro _ _ ⟨ra3, rc3, rfl, rfl⟩
  rw [hks3]
  repeat (first | refine Zq ?_ | refine Zs ?_ | refine ZT ?_ | refine ZF ?_ | refine Zc ?_ | refine XO_gU (hk := ?_))
  refine X_cond rfl (fun h => by cases h) (fun _ => ?_)
  repeat (first | refine Zq ?_ | refine Zs ?_ | refine ZT ?_ | refine ZF ?_ | refine Zc ?_ | refine XO_gU (hk := ?_))
  have hfree3 := kfree_spec s sb C3 hK3.ci.ok
  rw [hfr3] at hfree3
  refine XO_call hfree3 (hk := ?_)
  rintro _ _ ⟨rfl, rfl⟩
  repeat (first | refine Zq ?_ | refine Zs ?_ | refine ZT ?_ | refine ZF ?_ | refine Zc ?_ | refine XO_gU (hk := ?_))
  refine XO_known true (hb := by simp [totI]) (hk := ?_)
  repeat (first | refine Zq ?_ | refine Zs ?_ | refine ZT ?_ | refine ZF ?_ | refine Zc ?_ | refine XO_gU (hk := ?_))
  refine XE_ret (.inl rfl) (tells_tmps rfl rfl) ⟨_, ⟨?_, rfl⟩, by ((try simp only [List.cons_append, List.nil_append]); repeat (first | exact ent_refl | refine ent_take (by repeat (first | exact Find.here | apply Find.there)) ?_ | refine ent_drop ?_))⟩
  rfl
end Go.Proofs.Yteobjankkcdaoaa.Sep
