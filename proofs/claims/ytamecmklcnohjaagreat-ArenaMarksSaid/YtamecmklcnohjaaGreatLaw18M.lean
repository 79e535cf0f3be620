import Derived.Test.YtamecmklcnohjaaGreatBn15
/- The law Law18M: it answers true whatever it is given, and what was there stays. No conditions. -/
namespace Go.Proofs.YtamecmklcnohjaaGreat.Sep
open Go.RowKit
set_option linter.unusedSimpArgs false
set_option linter.unusedVariables false
/-! of marks of one region, a rewind to one makes those behind it stale, and leaves those ahead of it -/
theorem wf_u16m {a : Int} (h : (Lit.int .u16 a).wf = true) : 0 ≤ a ∧ a ≤ 65535 := by
  simp [Lit.wf, IntKind.min, IntKind.max, IntKind.signed, IntKind.bits] at h; exact h
structure MkZ where
  i : Nat
  z : Ar
  L : List Rc
  S : Sh
  a : Option Addr
  c : Nat
  p : Option Addr
  d : Nat
structure MkJ (xs : List Int) (b : Nat) (y : MkZ) : Prop where
  ok : AOk (2 * y.i + 1) y.z
  I : MkI y.z b y.L y.L.length y.S
  len : y.L.length = y.i
  hw : HW y.z.C (64 * (y.i : Int))
  hP : y.z.P = 4000
  sz : ∀ (j : Nat) (r : Rc), y.L[j]? = some r → ∃ n, xs[j]? = some n ∧ r.sz = n + 1
set_option maxHeartbeats 8000000
attribute [local irreducible] X XE XO XD XDi XDa PV RV DV pt base Spec Sl Mp Keeps Pg Kc
attribute [local irreducible] Pgs Spc Ck XL XLi Pl Rs Rg View Tbl Tre Ros Star RgOf Arn
theorem ar_rewind_no (x : ABl) (z : Ar) {N : Nat} (hA : AOk N z) (h : Int) (h0 : 0 ≤ h) (h1 : h ≤ 18446744073709551615) (hg : z.mar.get h = none) : Spec Tryz.prog 37 [.pointer (some ⟨x.a, 0, none⟩), .int .u64 h] [Arn x z] (fun v L => v = .int .i64 2 ∧ L = [Arn x z]) := by
  refine Spec.intro (IsEnt.out) Tryz.func37 rfl Tryz.ntmps37 (by simp) (fun w0 F => ?_)
  simp only [envOf, List.zipIdx, List.map, List.cons_append, List.nil_append, Nat.zero_add, Nat.reduceAdd]
  repeat (first | refine Zq ?_ | refine Zs ?_ | refine ZT ?_ | refine ZF ?_ | refine Zc ?_ | refine XO_gU (hk := ?_))
  refine X_cond rfl (fun h => by cases h) (fun _ => ?_)
  refine X_open (A := Arn x z) (by (repeat (first | exact Find.here | apply Find.there))) Arn.open ?_
  rintro ⟨⟩ -
  dsimp only [List.cons_append, List.nil_append]
  repeat (first | refine Zq ?_ | refine Zs ?_ | refine ZT ?_ | refine ZF ?_ | refine Zc ?_ | refine XO_gU (hk := ?_))
  refine XO_call (tgetM x.mt z.mar hA.mr h h0 h1) (hk := ?_)
  rintro _ _ ⟨rfl, rfl⟩
  rw [hg]
  dsimp only [Option.getD, Option.isSome]
  refine XO_fold (by repeat (first | exact FindAll.nil | exact Find.here | apply Find.there | apply FindAll.cons)) (Arn.fold (x := x) (z := z)) ?_
  repeat (first | refine Zq ?_ | refine Zs ?_ | refine ZT ?_ | refine ZF ?_ | refine Zc ?_ | refine XO_gU (hk := ?_))
  refine XO_dv dv_alloc (hk := ?_)
  rintro _ _ ⟨kb, rfl, rfl⟩
  refine XO_dv0 (dv_storeW (vs := mkRow ⟨0, 0, 0, 0, 0, 0, 0⟩)) (hk := ?_)
  rintro _ _ rfl
  repeat (first | refine Zq ?_ | refine Zs ?_ | refine ZT ?_ | refine ZF ?_ | refine Zc ?_ | refine XO_gU (hk := ?_))
  refine X_cond rfl (fun _ => ?_) (fun h => by cases h)
  repeat (first | refine Zq ?_ | refine Zs ?_ | refine ZT ?_ | refine ZF ?_ | refine Zc ?_ | refine XO_gU (hk := ?_))
  refine XE_ret (.inl rfl) (tells_tmps rfl rfl) ⟨_, ⟨rfl, rfl⟩, by ((try simp only [List.cons_append, List.nil_append]); repeat (first | exact ent_refl | refine ent_take (by repeat (first | exact Find.here | apply Find.there)) ?_ | refine ent_drop ?_))⟩
theorem marks18 (a1 : Option Addr) (c1 : Nat) (xs : List Int) (k : Int) (hx : ∀ n ∈ xs, (Lit.int .u16 n).wf = true) (hl1 : xs.length ≤ maxLen) (hk : 0 ≤ k ∧ k ≤ 255) (W : World) (V1 : View (base W) (eI .u16) a1 xs) :
    Calls Tryz.prog 5 #[.slice a1 xs.length c1, .int .u8 k] W fun e w' => e = .returned (.bool true) ∧ Below W.heap.size W w' := by
  refine law_intro (args := [.slice a1 xs.length c1, .int .u8 k]) Tryz.func5 rfl Tryz.ntmps5 (by simp) ?_
  simp only [envOf, List.zipIdx, List.map, List.cons_append, List.nil_append, Nat.zero_add, Nat.reduceAdd]
  repeat (first | refine Zq ?_ | refine Zs ?_ | refine ZT ?_ | refine ZF ?_ | refine Zc ?_ | refine XO_gU (hk := ?_))
  refine XO_call awake18_spec (hk := ?_)
  rintro _ _ ⟨rfl, rfl⟩
  repeat (first | refine Zq ?_ | refine Zs ?_ | refine ZT ?_ | refine ZF ?_ | refine Zc ?_ | refine XO_gU (hk := ?_))
  refine X_cond rfl (fun h => by cases h) (fun _ => ?_)
  repeat (first | refine Zq ?_ | refine Zs ?_ | refine ZT ?_ | refine ZF ?_ | refine Zc ?_ | refine XO_gU (hk := ?_))
  refine XO_either (hT := fun h => ?_) (hF := fun h => ?_) <;> simp only [decide_eq_true_eq, decide_eq_false_iff_not] at h
  · repeat (first | refine Zq ?_ | refine Zs ?_ | refine ZT ?_ | refine ZF ?_ | refine Zc ?_ | refine XO_gU (hk := ?_))
    refine X_cond rfl (fun _ => ?_) (fun h => by cases h)
    repeat (first | refine Zq ?_ | refine Zs ?_ | refine ZT ?_ | refine ZF ?_ | refine Zc ?_ | refine XO_gU (hk := ?_))
    refine XE_ret (.inl rfl) (tells_tmps rfl rfl) ⟨_, ⟨rfl, rfl⟩, by ((try simp only [List.cons_append, List.nil_append]); repeat (first | exact ent_refl | refine ent_take (by repeat (first | exact Find.here | apply Find.there)) ?_ | refine ent_drop ?_))⟩
  repeat (first | refine Zq ?_ | refine Zs ?_ | refine ZT ?_ | refine ZF ?_ | refine Zc ?_ | refine XO_gU (hk := ?_))
  refine X_cond rfl (fun h2 => ?_) (fun h2 => ?_) <;> simp only [beq_iff_eq, beq_eq_false_iff_ne, ne_eq] at h2
  · repeat (first | refine Zq ?_ | refine Zs ?_ | refine ZT ?_ | refine ZF ?_ | refine Zc ?_ | refine XO_gU (hk := ?_))
    refine XE_ret (.inl rfl) (tells_tmps rfl rfl) ⟨_, ⟨rfl, rfl⟩, by ((try simp only [List.cons_append, List.nil_append]); repeat (first | exact ent_refl | refine ent_take (by repeat (first | exact Find.here | apply Find.there)) ?_ | refine ent_drop ?_))⟩
  have hx20 : xs.length ≤ 20 := by omega
  have hx0 : 0 < xs.length := by omega
  repeat (first | refine Zq ?_ | refine Zs ?_ | refine ZT ?_ | refine ZF ?_ | refine Zc ?_ | refine XO_gU (hk := ?_))
  refine XO_call (ar_new 4000) (hk := ?_)
  rintro _ _ ⟨x, rfl, rfl⟩
  have hA0 := AOk.new 4000
  rw [show min (max (4000 : Int) 1) 1048576 = 4000 from rfl] at hA0 ⊢
  generalize hz0 : (⟨⟨4000, [(0, 4000)], fun _ => [], 0⟩, ⟨fun _ => 0, 0⟩, 4000, ⟨1, [], []⟩, [], ⟨2, [], []⟩, ⟨3, [], []⟩, [], []⟩ : Ar) = z0 at hA0 ⊢
  have hh0 : z0.reg.addH = aH := by subst hz0; kernel_rfl
  have hb1 : ∀ b, (z0.created 0 b).M = [(b, aH, emptySh)] := fun b => by subst hz0; kernel_rfl
  have hb2 : ∀ b, (z0.created 0 b).reg.handles = [aH] := fun b => by subst hz0; kernel_rfl
  have hb3 : ∀ b, (z0.created 0 b).rs = [] := fun b => by subst hz0; rfl
  have hb4 : ∀ b, HW (z0.created 0 b).C (64 * ((0 : Nat) : Int)) := fun b => by subst hz0; exact hw_new 4000 _ _
  have hb5 : ∀ b, (z0.created 0 b).P = 4000 := fun b => by subst hz0; rfl
  clear hz0
  repeat (first | refine Zq ?_ | refine Zs ?_ | refine ZT ?_ | refine ZF ?_ | refine Zc ?_ | refine XO_gU (hk := ?_))
  refine XO_call (ar_create x z0 hA0 (by decide) 0 (by decide) (by decide) (.inl rfl)) (hk := ?_)
  rintro _ _ ⟨b, rfl, rfl⟩
  have hA1 := hA0.created (by decide) (p := 0) (.inl rfl) b
  have hJ0 : MkJ xs b ⟨0, z0.created 0 b, [], emptySh, none, 0, none, 0⟩ := ⟨hA1, MkI.zero (hb1 b) (hb2 b) (hb3 b), rfl, hb4 b, hb5 b, (fun j r h => by cases h)⟩
  rw [hh0]
  generalize z0.created 0 b = z1 at hJ0 ⊢
  clear hA1 hb1 hb2 hb3 hb4 hb5 hh0 hA0
  repeat (first | refine Zq ?_ | refine Zs ?_ | refine ZT ?_ | refine ZF ?_ | refine Zc ?_ | refine XO_gU (hk := ?_))
  refine X_conv (fun _ h => SL_nilSl (eI .u64) h) ?_
  refine X_conv (fun _ h => SL_nilSl (eI .u64) h) ?_
  refine X_loop (ι := MkZ) (fun y => y.i ≤ xs.length ∧ MkJ xs b y)
    (fun y => [(0, .slice a1 xs.length c1), (1, .int .u8 k), (6, .pointer (some ⟨x.a, 0, none⟩)), (7, .int .u64 aH), (8, .int .i64 0), (9, .slice y.a (y.L.map (·.h)).length y.c), (10, .slice y.p (y.L.map (·.o)).length y.d), (11, .int .i64 (y.i : Int))])
    (fun y => [Arn x y.z, Sl (eI .u64) y.a y.c (y.L.map (·.h)), Sl (eI .u64) y.p y.d (y.L.map (·.o)), base W]) (fun y => xs.length - y.i) ⟨0, z1, [], emptySh, none, 0, none, 0⟩ ⟨Nat.zero_le _, hJ0⟩ ?_ (by ((try simp only [List.cons_append, List.nil_append]); repeat (first | exact ent_nil | exact ent_refl | refine ent_take (by repeat (first | exact Find.here | apply Find.there)) ?_ | refine ent_drop ?_))) ?_
  · (repeat (first | exact Env.sub_nil _ | refine Env.sub_cons rfl ?_))
  clear hJ0
  rintro ⟨i, z, L, S, pa, ca, pb, cb⟩ ⟨hi, hJ⟩
  dsimp only at hi hJ ⊢
  obtain ⟨hA, hI, hlen, hw, hP, hsz⟩ := hJ
  dsimp only at hA hI hlen hw hP hsz
  repeat (first | refine Zq ?_ | refine Zs ?_ | refine ZT ?_ | refine ZF ?_ | refine Zc ?_ | refine XO_gU (hk := ?_))
  refine X_cond rfl (fun hc => ?_) (fun hc => ?_) <;> simp only [decide_eq_true_eq, decide_eq_false_iff_not] at hc
  · have hil : i < xs.length := by omega
    have hxi := wf_u16m (hx _ (List.getElem_mem hil))
    have hgx : xs[i]? = some xs[i] := List.getElem?_eq_getElem hil
    generalize xs[i] = n0 at hgx hxi
    refine X_view (A := base W) (by (repeat (first | exact Find.here | apply Find.there))) V1 (by omega) ?_
    rintro vb vo rfl
    have hM0 : z.M[0]? = some (b, aH, S) := by rw [hI.q]; rfl
    have hR := hA.R.one hM0
    dsimp only at hR
    obtain ⟨C', m', S', at_, e, har⟩ := AR.ex z.P z.C z.m S aH (n0 + 1) 1
    obtain ⟨rfl, hw', hob'⟩ := har.room hR (by omega) (by omega) hw (by omega) (by rw [hP]; omega)
    obtain ⟨hM, hM', hA1, hA2, hI'⟩ := hI.made hA (by omega) (by omega) (by omega) har hob'
    repeat (first | refine Zq ?_ | refine Zs ?_ | refine ZT ?_ | refine ZF ?_ | refine Zc ?_ | refine XO_gU (hk := ?_))
    refine XO_call (ar_alloc x z hA (by omega) hM (n0 + 1) 1 (by omega) (by omega) (by omega) (by omega) har) (hk := ?_)
    rintro _ _ ⟨rfl, rfl⟩
    rw [if_pos rfl]
    repeat (first | refine Zq ?_ | refine Zs ?_ | refine ZT ?_ | refine ZF ?_ | refine Zc ?_ | refine XO_gU (hk := ?_))
    refine XO_call (ar_mark x (z.alloced 0 b aH (n0 + 1) C' m' S' at_ 0) hA1 (by omega) hM') (hk := ?_)
    rintro _ _ ⟨rfl, rfl⟩
    rw [show (z.alloced 0 b aH (n0 + 1) C' m' S' at_ 0).mar.addH = z.mar.addH from rfl]
    have hzC : ((z.alloced 0 b aH (n0 + 1) C' m' S' at_ 0).marked aH S').C = C' := rfl
    have hzP : ((z.alloced 0 b aH (n0 + 1) C' m' S' at_ 0).marked aH S').P = 4000 := hP
    generalize mkOf (z.alloced 0 b aH (n0 + 1) C' m' S' at_ 0) aH S' = kk at hI'
    generalize (z.alloced 0 b aH (n0 + 1) C' m' S' at_ 0).marked aH S' = z2 at hA2 hI' hzC hzP ⊢
    generalize z.obj.addH = oh at hI' ⊢
    generalize z.mar.addH = mh at hI' ⊢
    clear hM hM' hA1 hR hM0 har
    repeat (first | refine Zq ?_ | refine Zs ?_ | refine ZT ?_ | refine ZF ?_ | refine Zc ?_ | refine XO_gU (hk := ?_))
    refine X_cond rfl (fun h => by cases h) (fun _ => ?_)
    repeat (first | refine Zq ?_ | refine Zs ?_ | refine ZT ?_ | refine ZF ?_ | refine Zc ?_ | refine XO_gU (hk := ?_))
    refine XO_lit (E' := eI .u64) [oh] (hk := ?_)
    intro lb
    repeat (first | refine Zq ?_ | refine Zs ?_ | refine ZT ?_ | refine ZF ?_ | refine Zc ?_ | refine XO_gU (hk := ?_))
    refine XO_dv (dv_append (E' := eI .u64) (xs := L.map (·.o)) (ys := [oh]) (hv := Sl.view) (hb := by simp; omega)) (hk := ?_)
    rintro _ _ ⟨b1, d1, rfl, rfl⟩
    repeat (first | refine Zq ?_ | refine Zs ?_ | refine ZT ?_ | refine ZF ?_ | refine Zc ?_ | refine XO_gU (hk := ?_))
    refine XO_lit (E' := eI .u64) [mh] (hk := ?_)
    intro lb2
    repeat (first | refine Zq ?_ | refine Zs ?_ | refine ZT ?_ | refine ZF ?_ | refine Zc ?_ | refine XO_gU (hk := ?_))
    refine XO_dv (dv_append (E' := eI .u64) (xs := L.map (·.h)) (ys := [mh]) (hv := Sl.view) (hb := by simp; omega)) (hk := ?_)
    rintro _ _ ⟨b2, d2, rfl, rfl⟩
    repeat (first | refine Zq ?_ | refine Zs ?_ | refine ZT ?_ | refine ZF ?_ | refine Zc ?_ | refine XO_gU (hk := ?_))
    have e1 : L.map (·.o) ++ [oh] = (L ++ [(⟨oh, mh, at_, n0 + 1, kk, S'⟩ : Rc)]).map (·.o) := by rw [List.map_append]; rfl
    have e2 : L.map (·.h) ++ [mh] = (L ++ [(⟨oh, mh, at_, n0 + 1, kk, S'⟩ : Rc)]).map (·.h) := by rw [List.map_append]; rfl
    have e3 : (L ++ [(⟨oh, mh, at_, n0 + 1, kk, S'⟩ : Rc)]).length = L.length + 1 := by rw [List.length_append]; rfl
    rw [e1, e2]
    refine X_round ⟨i + 1, z2, L ++ [⟨oh, mh, at_, n0 + 1, kk, S'⟩], S', b2, d2, b1, d1⟩ ⟨by show i + 1 ≤ xs.length; omega, hA2, by rw [← e3] at hI'; exact hI', by show (L ++ [_]).length = i + 1; rw [List.length_append, hlen]; rfl, by show HW z2.C (64 * ((i + 1 : Nat) : Int)); rw [hzC]; exact hw'.up (by omega), hzP, fun j r hj => ?_⟩ (by show xs.length - (i + 1) < xs.length - i; omega) (by (repeat (first | exact Env.sub_nil _ | refine Env.sub_cons rfl ?_))) (by ((try simp only [List.cons_append, List.nil_append]); repeat (first | exact ent_nil | exact ent_refl | refine ent_take (by repeat (first | exact Find.here | apply Find.there)) ?_ | refine ent_drop ?_)))
    have hj' : (L ++ [(⟨oh, mh, at_, n0 + 1, kk, S'⟩ : Rc)])[j]? = some r := hj
    by_cases hjl : j < L.length
    · rw [List.getElem?_append_left hjl] at hj'
      exact hsz j r hj'
    · have hjb := (List.getElem?_eq_some_iff.1 hj').1
      rw [e3] at hjb
      obtain rfl : j = i := by omega
      rw [← hlen, List.getElem?_append_right (Nat.le_refl _), Nat.sub_self] at hj'
      cases hj'
      exact ⟨n0, hgx, rfl⟩
  obtain rfl : i = xs.length := by omega
  have hlo : (L.map (·.o)).length = xs.length := by rw [List.length_map]; exact hlen
  have hlh : (L.map (·.h)).length = xs.length := by rw [List.length_map]; exact hlen
  rw [hlen] at hI
  clear hw hP hc hi
  have hA : AOk 50 z := hA.le (by omega) (by omega)
  refine X_slopen (E' := eI .u64) (a := pa) (c := ca) (xs := L.map (·.h)) (by (repeat (first | exact Find.here | apply Find.there))) (by omega) ?_
  rintro mb mo rfl
  refine X_slopen (E' := eI .u64) (a := pb) (c := cb) (xs := L.map (·.o)) (by (repeat (first | exact Find.here | apply Find.there))) (by omega) ?_
  rintro ob oo rfl
  refine X_view (A := base W) (by (repeat (first | exact Find.here | apply Find.there))) V1 (by omega) ?_
  rintro vb vo rfl
  repeat (first | refine Zq ?_ | refine Zs ?_ | refine ZT ?_ | refine ZF ?_ | refine Zc ?_ | refine XO_gU (hk := ?_))
  have hj0 : 0 ≤ k % (xs.length : Int) := Int.emod_nonneg _ (by omega)
  have hj1 : k % (xs.length : Int) < (xs.length : Int) := Int.emod_lt_of_pos _ (by omega)
  obtain ⟨j, hj⟩ : ∃ j : Nat, k % (xs.length : Int) = (j : Int) := ⟨(k % (xs.length : Int)).toNat, by omega⟩
  rw [hj] at hj0 hj1 ⊢
  have hjl : j < xs.length := by omega
  obtain ⟨rj, hrj⟩ : ∃ r, L[j]? = some r := ⟨_, List.getElem?_eq_getElem (by omega)⟩
  have hgh : (L.map (·.h))[j]? = some rj.h := by rw [List.getElem?_map, hrj]; rfl
  have hbj := hI.bh rj (List.mem_of_getElem? hrj)
  obtain ⟨q1, q2, q3, q4, q5, q6, q7, hA3, hI3⟩ := hI.cut hA (by omega) (by omega) hrj hjl
  have hA3 : AOk 100 (z.rewound 0 b rj.k S) := hA3.le (by omega) (by omega)
  repeat (first | refine Zq ?_ | refine Zs ?_ | refine ZT ?_ | refine ZF ?_ | refine Zc ?_ | refine XO_gU (hk := ?_))
  refine XO_call (ar_rew0 x z hA (by decide) rj.h hbj.1 hbj.2.1 q1 q2 q3 q4 q5 q6 q7) (hk := ?_)
  rintro _ _ ⟨rfl, rfl⟩
  clear hgh q1 q2 q3 q4 q5 q6 q7
  generalize z.rewound 0 b rj.k S = z3 at hA3 hI3 ⊢
  generalize rj.S = S3 at hI3
  repeat (first | refine Zq ?_ | refine Zs ?_ | refine ZT ?_ | refine ZF ?_ | refine Zc ?_ | refine XO_gU (hk := ?_))
  refine X_cond rfl (fun h => by cases h) (fun _ => ?_)
  repeat (first | refine Zq ?_ | refine Zs ?_ | refine ZT ?_ | refine ZF ?_ | refine Zc ?_ | refine XO_gU (hk := ?_))
  refine X_loop (ι := Nat × Ar × Sh) (fun y => y.1 ≤ xs.length ∧ AOk (100 + 50 * (xs.length - y.1)) y.2.1 ∧ MkI y.2.1 b L (min (j + 1) (y.1 + 1)) y.2.2)
    (fun y => [(0, .slice (some ⟨vb, vo, none⟩) xs.length c1), (1, .int .u8 k), (6, .pointer (some ⟨x.a, 0, none⟩)), (7, .int .u64 aH), (8, .int .i64 0), (9, .slice (some ⟨mb, mo, none⟩) (L.map (·.h)).length ca), (10, .slice (some ⟨ob, oo, none⟩) (L.map (·.o)).length cb), (16, .int .i64 (j : Int)), (17, .int .i64 ((y.1 : Int) - 1))])
    (fun y => [Arn x y.2.1, Sl (eI .u64) (some ⟨mb, mo, none⟩) ca (L.map (·.h)), Sl (eI .u64) (some ⟨ob, oo, none⟩) cb (L.map (·.o)), base W]) (fun y => y.1) (xs.length, z3, S3) ⟨Nat.le_refl _, hA3.le (by omega) (by omega), by show MkI z3 b L (min (j + 1) (xs.length + 1)) S3; rw [Nat.min_eq_left (by omega)]; exact hI3⟩ ?_ (by ((try simp only [List.cons_append, List.nil_append]); repeat (first | exact ent_nil | exact ent_refl | refine ent_take (by repeat (first | exact Find.here | apply Find.there)) ?_ | refine ent_drop ?_))) ?_
  · (repeat (first | exact Env.sub_nil _ | refine Env.sub_cons rfl ?_))
  clear hA3 hI3 hA hI hrj hbj
  rintro ⟨t, y, T⟩ ⟨ht, hA, hI⟩
  dsimp only at ht hA hI ⊢
  repeat (first | refine Zq ?_ | refine Zs ?_ | refine ZT ?_ | refine ZF ?_ | refine Zc ?_ | refine XO_gU (hk := ?_))
  refine X_cond rfl (fun hc => ?_) (fun hc => ?_) <;> simp only [decide_eq_true_eq, decide_eq_false_iff_not] at hc
  · obtain ⟨i, rfl⟩ : ∃ i, t = i + 1 := ⟨t - 1, by omega⟩
    rw [show (((i + 1 : Nat) : Int) - 1) = (i : Int) from by omega]
    obtain ⟨r, hr⟩ : ∃ r, L[i]? = some r := ⟨_, List.getElem?_eq_getElem (by omega)⟩
    have hgo : (L.map (·.o))[i]? = some r.o := by rw [List.getElem?_map, hr]; rfl
    have hgh : (L.map (·.h))[i]? = some r.h := by rw [List.getElem?_map, hr]; rfl
    have hbo := hI.bo r (List.mem_of_getElem? hr)
    have hbh := hI.bh r (List.mem_of_getElem? hr)
    have hpo := hI.ob i r hr
    have hpm := hI.mr i r hr
    repeat (first | refine Zq ?_ | refine Zs ?_ | refine ZT ?_ | refine ZF ?_ | refine Zc ?_ | refine XO_gU (hk := ?_))
    refine XO_call (ar_place x y hA r.o hbo.1 hbo.2.1) (hk := ?_)
    rintro _ _ ⟨rfl, rfl⟩
    rw [hpo]
    by_cases hij : i ≤ j
    · rw [if_pos (by omega)]
      dsimp only [Option.getD, Option.isSome]
      repeat (first | refine Zq ?_ | refine Zs ?_ | refine ZT ?_ | refine ZF ?_ | refine Zc ?_ | refine XO_gU (hk := ?_))
      refine X_cond rfl (fun h => by simp at h; omega) (fun _ => ?_)
      obtain ⟨q1, q2, q3, q4, q5, q6, q7, hA3, hI3⟩ := hI.cut hA (by omega) (by omega) hr (by omega)
      repeat (first | refine Zq ?_ | refine Zs ?_ | refine ZT ?_ | refine ZF ?_ | refine Zc ?_ | refine XO_gU (hk := ?_))
      refine XO_call (ar_rew0 x y hA (by omega) r.h hbh.1 hbh.2.1 q1 q2 q3 q4 q5 q6 q7) (hk := ?_)
      rintro _ _ ⟨rfl, rfl⟩
      generalize y.rewound 0 b r.k T = y3 at hA3 hI3 ⊢
      generalize r.S = T3 at hI3
      repeat (first | refine Zq ?_ | refine Zs ?_ | refine ZT ?_ | refine ZF ?_ | refine Zc ?_ | refine XO_gU (hk := ?_))
      refine XO_known false (hb := by simp; omega) (hk := ?_)
      repeat (first | refine Zq ?_ | refine Zs ?_ | refine ZT ?_ | refine ZF ?_ | refine Zc ?_ | refine XO_gU (hk := ?_))
      refine XO_known true (hb := by simp; omega) (hk := ?_)
      repeat (first | refine Zq ?_ | refine Zs ?_ | refine ZT ?_ | refine ZF ?_ | refine Zc ?_ | refine XO_gU (hk := ?_))
      refine X_cond rfl (fun h => by cases h) (fun _ => ?_)
      repeat (first | refine Zq ?_ | refine Zs ?_ | refine ZT ?_ | refine ZF ?_ | refine Zc ?_ | refine XO_gU (hk := ?_))
      refine X_round (i, y3, T3) ⟨by show i ≤ xs.length; omega, hA3.le (by omega) (by omega), by show MkI y3 b L (min (j + 1) (i + 1)) T3; rw [Nat.min_eq_right (by omega)]; exact hI3⟩ (by show i < i + 1; omega) (by (repeat (first | exact Env.sub_nil _ | refine Env.sub_cons rfl ?_))) (by ((try simp only [List.cons_append, List.nil_append]); repeat (first | exact ent_nil | exact ent_refl | refine ent_take (by repeat (first | exact Find.here | apply Find.there)) ?_ | refine ent_drop ?_)))
    · rw [if_neg (by omega)] at hpm ⊢
      dsimp only [Option.getD, Option.isSome]
      repeat (first | refine Zq ?_ | refine Zs ?_ | refine ZT ?_ | refine ZF ?_ | refine Zc ?_ | refine XO_gU (hk := ?_))
      refine X_cond rfl (fun h => by simp at h; omega) (fun _ => ?_)
      repeat (first | refine Zq ?_ | refine Zs ?_ | refine ZT ?_ | refine ZF ?_ | refine Zc ?_ | refine XO_gU (hk := ?_))
      refine XO_call (ar_rewind_no x y hA r.h hbh.1 hbh.2.1 hpm) (hk := ?_)
      rintro _ _ ⟨rfl, rfl⟩
      repeat (first | refine Zq ?_ | refine Zs ?_ | refine ZT ?_ | refine ZF ?_ | refine Zc ?_ | refine XO_gU (hk := ?_))
      refine XO_known true (hb := by simp; omega) (hk := ?_)
      repeat (first | refine Zq ?_ | refine Zs ?_ | refine ZT ?_ | refine ZF ?_ | refine Zc ?_ | refine XO_gU (hk := ?_))
      refine XO_known false (hb := by simp; omega) (hk := ?_)
      repeat (first | refine Zq ?_ | refine Zs ?_ | refine ZT ?_ | refine ZF ?_ | refine Zc ?_ | refine XO_gU (hk := ?_))
      refine X_cond rfl (fun h => by cases h) (fun _ => ?_)
      repeat (first | refine Zq ?_ | refine Zs ?_ | refine ZT ?_ | refine ZF ?_ | refine Zc ?_ | refine XO_gU (hk := ?_))
      refine X_round (i, y, T) ⟨by show i ≤ xs.length; omega, hA.le (by omega) (by omega), by show MkI y b L (min (j + 1) (i + 1)) T; rw [show min (j + 1) (i + 1) = min (j + 1) (i + 1 + 1) from by omega]; exact hI⟩ (by show i < i + 1; omega) (by (repeat (first | exact Env.sub_nil _ | refine Env.sub_cons rfl ?_))) (by ((try simp only [List.cons_append, List.nil_append]); repeat (first | exact ent_nil | exact ent_refl | refine ent_take (by repeat (first | exact Find.here | apply Find.there)) ?_ | refine ent_drop ?_)))
  obtain rfl : t = 0 := by omega
  rw [show min (j + 1) (0 + 1) = 1 from by omega] at hI
  obtain ⟨r, hr⟩ : ∃ r, L[0]? = some r := ⟨_, List.getElem?_eq_getElem (by omega)⟩
  have hgh : (L.map (·.h))[0]? = some r.h := by rw [List.getElem?_map, hr]; rfl
  have hbh := hI.bh r (List.mem_of_getElem? hr)
  obtain ⟨n0, hgx, hrs⟩ := hsz 0 r hr
  have hxi := wf_u16m (hx _ (List.mem_of_getElem? hgx))
  have hfs := hI.fs r hr
  obtain ⟨q1, q2, q3, q4, q5, q6, q7, hA3, hI3⟩ := hI.cut hA (by omega) (by omega) hr (by omega)
  have hrw := ar_rew0 x y hA (by omega) r.h hbh.1 hbh.2.1 q1 q2 q3 q4 q5 q6 q7
  have hsum := hI3.sum
  generalize y.rewound 0 b r.k T = y3 at hA3 hI3 hrw hsum ⊢
  rw [hfs, hrs] at hsum
  have hmt := ar_meter x y3 hA3
  have hwm : IntKind.u64.wrap (sumH Sh.obj y3 y3.reg.handles.length) = n0 + 1 := by rw [hsum]; exact wrap_u64 (by omega) (by omega)
  unfold meterA at hmt
  rw [hwm] at hmt
  clear q1 q2 q3 q4 q5 q6 q7
  repeat (first | refine Zq ?_ | refine Zs ?_ | refine ZT ?_ | refine ZF ?_ | refine Zc ?_ | refine XO_gU (hk := ?_))
  repeat (first | refine XD_pick (h := ?_) | refine Dq ?_ | refine Ds ?_ | refine XDi_gF (h := ?_) | refine XDi_gU (h := ?_) | refine X_draws (h := ?_))
  refine XD_one (h := ?_)
  refine XDa_dvA (dv_call hrw) (hk := ?_)
  (rintro _ _ ⟨_, ⟨rfl, rfl⟩, rfl⟩; refine ⟨by (repeat (first | exact keeps_nil | exact keeps_fnil | refine keeps_skip (h := ?_) | refine keeps_takeQ (h := ?_))), ?_⟩)
  repeat (first | refine XD_pick (h := ?_) | refine Dq ?_ | refine Ds ?_ | refine XDi_gF (h := ?_) | refine XDi_gU (h := ?_) | refine X_draws (h := ?_))
  refine XD_one (h := ?_)
  refine XDa_dvA (dv_call hmt) (hk := ?_)
  (rintro _ _ ⟨_, ⟨rfl, rfl⟩, rfl⟩; refine ⟨by (repeat (first | exact keeps_nil | exact keeps_fnil | refine keeps_skip (h := ?_) | refine keeps_takeQ (h := ?_))), ?_⟩)
  repeat (first | refine XD_pick (h := ?_) | refine Dq ?_ | refine Ds ?_ | refine XDi_gF (h := ?_) | refine XDi_gU (h := ?_) | refine X_draws (h := ?_))
  refine XDi_pvA (pv_fieldV (v := .int .u64 (n0 + 1))) (h := ?_)
  repeat (first | refine XD_pick (h := ?_) | refine Dq ?_ | refine Ds ?_ | refine XDi_gF (h := ?_) | refine XDi_gU (h := ?_) | refine X_draws (h := ?_))
  rw [show (n0 + 1 == n0 + 1) = true from beq_self_eq_true _]
  repeat (first | refine XD_pick (h := ?_) | refine Dq ?_ | refine Ds ?_ | refine XDi_gF (h := ?_) | refine XDi_gU (h := ?_) | refine X_draws (h := ?_))
  (refine XD_one (h := ?_); refine XDa_dvA (dv_of_rv (rv_of_pv pv_assign)) (hk := ?_); rintro _ _ ⟨rfl, rfl⟩; refine ⟨by (repeat (first | exact keeps_nil | exact keeps_fnil | refine keeps_skip (h := ?_) | refine keeps_takeQ (h := ?_))), ?_⟩)
  (refine XD_end (h := ?_); repeat (first | refine Zq ?_ | refine Zs ?_ | refine ZT ?_ | refine ZF ?_ | refine Zc ?_ | refine XO_gU (hk := ?_)))
  refine XE_ret (.inl rfl) (tells_tmps rfl rfl) ⟨_, ⟨rfl, rfl⟩, by ((try simp only [List.cons_append, List.nil_append]); repeat (first | exact ent_refl | refine ent_take (by repeat (first | exact Find.here | apply Find.there)) ?_ | refine ent_drop ?_))⟩
end Go.Proofs.YtamecmklcnohjaaGreat.Sep
