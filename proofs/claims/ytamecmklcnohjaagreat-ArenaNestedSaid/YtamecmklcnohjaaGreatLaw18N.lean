import Derived.Test.YtamecmklcnohjaaGreatBn14
/- The law Law18N: it answers true whatever it is given, and what was there stays. No conditions. -/
namespace Go.Proofs.YtamecmklcnohjaaGreat.Sep
open Go.RowKit
set_option linter.unusedSimpArgs false
set_option linter.unusedVariables false
/-! with a region all that stand below it are given up -/
theorem wf_u8n {a : Int} (h : (Lit.int .u8 a).wf = true) : 0 ≤ a ∧ a ≤ 255 := by
  simp [Lit.wf, IntKind.min, IntKind.max, IntKind.signed, IntKind.bits] at h; exact h
def AbI (L : List NR) (ys : List Int) : Prop := ∀ (j : Nat) r, L[j]? = some r → ∃ a, ys[j]? = some a ∧ ((a = -1 ∧ r.p = 0) ∨ ∃ (k : Nat) (u : NR), k < j ∧ a = (k : Int) ∧ L[k]? = some u ∧ r.p = u.r)
structure NsZ where
  i : Nat
  z : Ar
  L : List NR
  ys : List Int
  a : Option Addr
  c : Nat
  p : Option Addr
  d : Nat
structure NsJ (n : Nat) (y : NsZ) : Prop where
  ok : AOk (2 * y.i) y.z
  I : NsI y.z y.L
  len : y.L.length = y.i
  yl : y.ys.length = n
  ab : AbI y.L y.ys
theorem AbI.snoc {L : List NR} {ys : List Int} (h : AbI L ys) (hl : L.length < ys.length) {r : NR} {a : Int} (ha : (a = -1 ∧ r.p = 0) ∨ ∃ (k : Nat) (u : NR), k < L.length ∧ a = (k : Int) ∧ L[k]? = some u ∧ r.p = u.r) : AbI (L ++ [r]) (ys.set L.length a) := by
  intro j q hj
  by_cases hjl : j < L.length
  · rw [List.getElem?_append_left hjl] at hj
    obtain ⟨b, hb, hc⟩ := h j q hj
    refine ⟨b, by rw [List.getElem?_set_ne (by omega)]; exact hb, ?_⟩
    rcases hc with hc | ⟨k, u, h1, h2, h3, h4⟩
    · exact .inl hc
    · exact .inr ⟨k, u, h1, h2, by rw [List.getElem?_append_left (by omega)]; exact h3, h4⟩
  · rw [List.getElem?_append_right (by omega)] at hj
    have e : j - L.length = 0 := by
      by_cases e : j - L.length = 0
      · exact e
      · rw [List.getElem?_eq_none (by simp; omega)] at hj; cases hj
    rw [e] at hj
    simp at hj; subst hj
    have e2 : j = L.length := by omega
    subst e2
    refine ⟨a, by simp [hl], ?_⟩
    rcases ha with hc | ⟨k, u, h1, h2, h3, h4⟩
    · exact .inl hc
    · exact .inr ⟨k, u, h1, h2, by rw [List.getElem?_append_left (by omega)]; exact h3, h4⟩
theorem NsG.create {L : List NR} {G : List Int} {z : Ar} (h : NsG L G z) {N : Nat} (hA : AOk N z) (hN : N + 1 ≤ 100000) (p : Int) (b : Nat) : NsG L G (z.created p b) := by
  refine ⟨h.ob, fun r hr => ?_, fun r hr => ((h.old r hr).add hA.rg none).put _ _, h.bd, ?_⟩
  · have hb := h.bd r hr
    show (((z.reg.add none).put z.reg.addH (some b)).get r.r).isSome = _
    rw [created_get hA hN b hb.1 hb.2.1, if_neg ((h.old r hr).ne hA.rg)]
    exact h.rg r hr
  · show ((z.M ++ [(b, z.reg.addH, emptySh)]).map fun q => q.2.2.obj).sum = _
    rw [List.map_append, List.sum_append, h.sum]
    simp [emptySh]
set_option maxHeartbeats 8000000
attribute [local irreducible] X XE XO XD XDi XDa PV RV DV pt base Spec Sl Mp Keeps Pg Kc
attribute [local irreducible] Pgs Spc Ck XL XLi Pl Rs Rg View Tbl Tre Ros Star RgOf Arn
theorem nested18 (a1 : Option Addr) (c1 : Nat) (xs : List Int) (k : Int) (hx : ∀ n ∈ xs, (Lit.int .u8 n).wf = true) (hl1 : xs.length ≤ maxLen) (hk : 0 ≤ k ∧ k ≤ 255) (W : World) (V1 : View (base W) (eI .u8) a1 xs) :
    Calls Tryz.prog 4 #[.slice a1 xs.length c1, .int .u8 k] W fun e w' => e = .returned (.bool true) ∧ Below W.heap.size W w' := by
  refine law_intro (args := [.slice a1 xs.length c1, .int .u8 k]) Tryz.func4 rfl Tryz.ntmps4 (by simp) ?_
  simp only [envOf, List.zipIdx, List.map, List.cons_append, List.nil_append, Nat.zero_add, Nat.reduceAdd]
  (repeat refine Z ?_)
  refine XO_call awake18_spec (hk := ?_)
  rintro _ _ ⟨rfl, rfl⟩
  (repeat refine Z ?_)
  refine X_cond rfl (fun h => by cases h) (fun _ => ?_)
  (repeat refine Z ?_)
  refine XO_either (hT := fun h => ?_) (hF := fun h => ?_) <;> simp only [decide_eq_true_eq, decide_eq_false_iff_not] at h
  · (repeat refine Z ?_)
    refine X_cond rfl (fun _ => ?_) (fun h => by cases h)
    (repeat refine Z ?_)
    refine XE_ret (.inl rfl) (tells_tmps rfl rfl) ⟨_, ⟨rfl, rfl⟩, by exact EN⟩
  (repeat refine Z ?_)
  refine X_cond rfl (fun h2 => ?_) (fun h2 => ?_) <;> simp only [beq_iff_eq, beq_eq_false_iff_ne, ne_eq] at h2
  · (repeat refine Z ?_)
    refine XE_ret (.inl rfl) (tells_tmps rfl rfl) ⟨_, ⟨rfl, rfl⟩, by exact EN⟩
  have hx20 : xs.length ≤ 30 := by omega
  have hx0 : 0 < xs.length := by omega
  (repeat refine Z ?_)
  refine XO_call (ar_new 200) (hk := ?_)
  rintro _ _ ⟨x, rfl, rfl⟩
  have hA0 := AOk.new 200
  rw [show min (max (200 : Int) 1) 1048576 = 200 from rfl] at hA0 ⊢
  have hI0 : NsI ⟨⟨200, [(0, 200)], fun _ => [], 0⟩, ⟨fun _ => 0, 0⟩, 200, ⟨1, [], []⟩, [], ⟨2, [], []⟩, ⟨3, [], []⟩, [], []⟩ [] :=
    ⟨rfl, (fun q h => by cases h), rfl, (fun q h => by cases h), (fun q h => by cases h), (fun q h => by cases h), (fun i r h => by cases h), hw_new 200 _ _, rfl⟩
  generalize (⟨⟨200, [(0, 200)], fun _ => [], 0⟩, ⟨fun _ => 0, 0⟩, 200, ⟨1, [], []⟩, [], ⟨2, [], []⟩, ⟨3, [], []⟩, [], []⟩ : Ar) = z0 at hA0 hI0 ⊢
  (repeat refine Z ?_)
  refine XO_dv (dv_makeSlice (E' := eI .i64) 0) (hk := ?_)
  rintro _ _ ⟨yb, rfl, rfl⟩
  rw [Int.toNat_natCast]
  (repeat refine Z ?_)
  refine X_conv (fun _ h => SL_nilSl (eI .u64) h) ?_
  refine X_conv (fun _ h => SL_nilSl (eI .u64) h) ?_
  refine X_loop (ι := NsZ) (fun y => y.i ≤ xs.length ∧ NsJ xs.length y)
    (fun y => [(0, .slice a1 xs.length c1), (1, .int .u8 k), (6, .pointer (some ⟨x.a, 0, none⟩)), (7, .slice y.a (y.L.map (·.r)).length y.c), (8, .slice y.p (y.L.map (·.o)).length y.d), (9, .slice (some ⟨yb, 0, none⟩) xs.length xs.length), (10, .int .i64 (y.i : Int))])
    (fun y => [Arn x y.z, Sl (eI .u64) y.a y.c (y.L.map (·.r)), Sl (eI .u64) y.p y.d (y.L.map (·.o)), Sl (eI .i64) (some ⟨yb, 0, none⟩) xs.length y.ys, base W]) (fun y => xs.length - y.i) ⟨0, z0, [], List.replicate xs.length 0, none, 0, none, 0⟩ ⟨Nat.zero_le _, hA0, hI0, rfl, by simp, (fun j r h => by cases h)⟩ ?_ (by ((try simp only [List.cons_append, List.nil_append]); repeat (first | exact ent_nil | exact ent_refl | refine ent_take (by repeat (first | exact Find.here | apply Find.there)) ?_ | refine ent_drop ?_))) ?_
  · exact SBs
  clear hA0 hI0
  rintro ⟨i, z, L, ys, pa, ca, pb, cb⟩ ⟨hi, hJ⟩
  dsimp only at hi hJ ⊢
  obtain ⟨hA, hI, hlen, hyl, hab⟩ := hJ
  dsimp only at hA hI hlen hyl hab
  subst hlen
  (repeat refine Z ?_)
  refine X_cond rfl (fun hc => ?_) (fun hc => ?_) <;> simp only [decide_eq_true_eq, decide_eq_false_iff_not] at hc
  · have hil : L.length < xs.length := by omega
    have hxi := wf_u8n (hx _ (List.getElem_mem hil))
    have hgx : xs[L.length]? = some xs[L.length] := List.getElem?_eq_getElem hil
    generalize xs[L.length] = n0 at hgx hxi
    refine X_view (A := base W) (by exact FDs) V1 (by omega) ?_
    rintro vb vo rfl
    have hget : xs[(L.length : Int).toNat]? = some n0 := by rw [Int.toNat_natCast]; exact hgx
    have hr0 : 0 ≤ n0 % ((L.length : Int) + 1) := Int.emod_nonneg _ (by omega)
    have hr1 : n0 % ((L.length : Int) + 1) < (L.length : Int) + 1 := Int.emod_lt_of_pos _ (by omega)
    (repeat refine Z ?_)
    refine XO_dv0 (dv_put1 (E' := eI .i64) (i := (L.length : Int).toNat) (x' := n0 % ((L.length : Int) + 1) - 1) (xs := ys)) (hk := ?_)
    rintro _ _ rfl
    obtain ⟨aa, haa⟩ : ∃ aa, n0 % ((L.length : Int) + 1) - 1 = aa := ⟨_, rfl⟩
    have ha0 : -1 ≤ aa := by omega
    have ha1 : aa < (L.length : Int) := by omega
    rw [haa]
    clear hget haa hr0 hr1
    have hga : (ys.set (L.length : Int).toNat aa)[(L.length : Int).toNat]? = some aa := by simp [hyl, hil]
    (repeat refine Z ?_)
    refine X_join (ι := Int) (fun p => (aa = -1 ∧ p = 0) ∨ ∃ (k : Nat) (u : NR), k < L.length ∧ aa = (k : Int) ∧ L[k]? = some u ∧ p = u.r)
      (fun p => [(0, .slice (some ⟨vb, vo, none⟩) xs.length c1), (1, .int .u8 k), (6, .pointer (some ⟨x.a, 0, none⟩)), (7, .slice pa (L.map (·.r)).length ca), (8, .slice pb (L.map (·.o)).length cb), (9, .slice (some ⟨yb, 0, none⟩) xs.length xs.length), (10, .int .i64 (L.length : Int)), (11, .int .u64 p)])
      (fun _ => [Arn x z, Sl (eI .u64) pa ca (L.map (·.r)), Sl (eI .u64) pb cb (L.map (·.o)), Sl (eI .i64) (some ⟨yb, 0, none⟩) xs.length (ys.set (L.length : Int).toNat aa), base W]) ?_ ?_
    · refine X_cond rfl (fun h => ?_) (fun h => ?_) <;> simp only [decide_eq_true_eq, decide_eq_false_iff_not] at h
      · obtain ⟨j, rfl⟩ : ∃ j : Nat, aa = (j : Int) := ⟨aa.toNat, by omega⟩
        obtain ⟨u, hu⟩ : ∃ u, L[j]? = some u := ⟨_, List.getElem?_eq_getElem (by omega)⟩
        have hlm : (L.map (·.r)).length = L.length := List.length_map ..
        have hgu : (L.map (·.r))[(j : Int).toNat]? = some u.r := by rw [Int.toNat_natCast, List.getElem?_map, hu]; rfl
        refine X_slopen (E' := eI .u64) (a := pa) (c := ca) (xs := L.map (·.r)) (by exact FDs) (by rw [List.length_map]; omega) ?_
        rintro mb mo rfl
        (repeat refine Z ?_)
        exact X_meet u.r (.inr ⟨j, u, by omega, rfl, hu, rfl⟩) (by exact SBs) (by ((try simp only [List.cons_append, List.nil_append]); repeat (first | exact ent_nil | exact ent_refl | refine ent_take (by repeat (first | exact Find.here | apply Find.there)) ?_ | refine ent_drop ?_)))
      · (repeat refine Z ?_)
        exact X_meet 0 (.inl ⟨by omega, rfl⟩) (by exact SBs) (by ((try simp only [List.cons_append, List.nil_append]); repeat (first | exact ent_nil | exact ent_refl | refine ent_take (by repeat (first | exact Find.here | apply Find.there)) ?_ | refine ent_drop ?_)))
    intro p hp
    have hp' : p = 0 ∨ p ∈ L.map (·.r) := by
      rcases hp with h | ⟨j, u, _, _, hu, rfl⟩
      · exact .inl h.2
      · exact .inr (List.mem_map.2 ⟨u, List.mem_of_getElem? hu, rfl⟩)
    have hpb : 0 ≤ p ∧ p ≤ 18446744073709551615 := by
      rcases hp with h | ⟨j, u, _, _, hu, rfl⟩
      · rw [h.2]; decide
      · have := hI.kd u (List.mem_of_getElem? hu); exact ⟨this.2.2.1, this.2.2.2.1⟩
    (repeat refine Z ?_)
    refine XO_call (ar_create x z hA (by omega) p hpb.1 hpb.2 (hp'.imp id fun h => (hI.live hA).2 h)) (hk := ?_)
    rintro _ _ ⟨b, rfl, rfl⟩
    obtain ⟨hA1, hM1, hmk⟩ := hI.made hA (by omega) (by omega) hp' b
    obtain ⟨C', m', S', at_, e, har⟩ := AR.ex (z.created p b).P (z.created p b).C (z.created p b).m emptySh z.reg.addH ((L.length : Int) + 1) 1
    obtain ⟨rfl, hA2, hI2⟩ := hmk har
    (repeat refine Z ?_)
    refine XO_call (ar_alloc x (z.created p b) hA1 (by omega) hM1 ((L.length : Int) + 1) 1 (by omega) (by omega) (by omega) (by omega) har) (hk := ?_)
    rintro _ _ ⟨rfl, rfl⟩
    rw [if_pos rfl]
    rw [show (z.created p b).obj.addH = z.obj.addH from rfl]
    generalize (z.created p b).alloced L.length b z.reg.addH ((L.length : Int) + 1) C' m' S' at_ 0 = z2 at hA2 hI2 ⊢
    generalize z.obj.addH = oh at hI2 ⊢
    generalize z.reg.addH = rh at hI2 ⊢
    clear hA1 hM1 hmk har
    (repeat refine Z ?_)
    refine X_cond rfl (fun h => by cases h) (fun _ => ?_)
    (repeat refine Z ?_)
    refine XO_lit (E' := eI .u64) [rh] (hk := ?_)
    intro lb
    (repeat refine Z ?_)
    refine XO_dv (dv_append (E' := eI .u64) (xs := L.map (·.r)) (ys := [rh]) (hv := Sl.view) (hb := by simp; omega)) (hk := ?_)
    rintro _ _ ⟨b1, d1, rfl, rfl⟩
    (repeat refine Z ?_)
    refine XO_lit (E' := eI .u64) [oh] (hk := ?_)
    intro lb2
    (repeat refine Z ?_)
    refine XO_dv (dv_append (E' := eI .u64) (xs := L.map (·.o)) (ys := [oh]) (hv := Sl.view) (hb := by simp; omega)) (hk := ?_)
    rintro _ _ ⟨b2, d2, rfl, rfl⟩
    (repeat refine Z ?_)
    have e1 : L.map (·.r) ++ [rh] = (L ++ [(⟨rh, oh, p, (L.length : Int) + 1⟩ : NR)]).map (·.r) := by rw [List.map_append]; rfl
    have e2 : L.map (·.o) ++ [oh] = (L ++ [(⟨rh, oh, p, (L.length : Int) + 1⟩ : NR)]).map (·.o) := by rw [List.map_append]; rfl
    have e3 : (L ++ [(⟨rh, oh, p, (L.length : Int) + 1⟩ : NR)]).length = L.length + 1 := by rw [List.length_append]; rfl
    rw [e1, e2]
    refine X_round ⟨L.length + 1, z2, L ++ [⟨rh, oh, p, (L.length : Int) + 1⟩], ys.set (L.length : Int).toNat aa, b1, d1, b2, d2⟩ ⟨by show L.length + 1 ≤ xs.length; omega, hA2.le (by show 2 * L.length + 2 ≤ 2 * (L.length + 1); omega) (by show 2 * (L.length + 1) ≤ 100000; omega), hI2, e3, by show (ys.set _ _).length = _; rw [List.length_set]; exact hyl, by rw [Int.toNat_natCast]; exact hab.snoc (by omega) hp⟩ (by show xs.length - (L.length + 1) < xs.length - L.length; omega) (by exact SBs) (by ((try simp only [List.cons_append, List.nil_append]); repeat (first | exact ent_nil | exact ent_refl | refine ent_take (by repeat (first | exact Find.here | apply Find.there)) ?_ | refine ent_drop ?_)))
  have hil : L.length = xs.length := by omega
  have hlr : (L.map (·.r)).length = xs.length := by rw [List.length_map]; exact hil
  have hlo : (L.map (·.o)).length = xs.length := by rw [List.length_map]; exact hil
  have hA : AOk 60 z := hA.le (by omega) (by omega)
  refine X_slopen (E' := eI .u64) (a := pa) (c := ca) (xs := L.map (·.r)) (by exact FDs) (by omega) ?_
  rintro mb mo rfl
  refine X_slopen (E' := eI .u64) (a := pb) (c := cb) (xs := L.map (·.o)) (by exact FDs) (by omega) ?_
  rintro ob oo rfl
  have hj0 : 0 ≤ k % (xs.length : Int) := Int.emod_nonneg _ (by omega)
  have hj1 : k % (xs.length : Int) < (xs.length : Int) := Int.emod_lt_of_pos _ (by omega)
  obtain ⟨j, hj⟩ : ∃ j : Nat, k % (xs.length : Int) = (j : Int) := ⟨(k % (xs.length : Int)).toNat, by omega⟩
  have hjl : j < xs.length := by omega
  obtain ⟨u, hu⟩ : ∃ u, L[j]? = some u := ⟨_, List.getElem?_eq_getElem (by omega)⟩
  have hku := hI.kd u (List.mem_of_getElem? hu)
  have hget : (L.map (·.r))[(j : Int).toNat]? = some u.r := by rw [Int.toNat_natCast, List.getElem?_map, hu]; rfl
  have hul := (hI.live hA (x := u.r)).2 (List.mem_map.2 ⟨u, List.mem_of_getElem? hu, rfl⟩)
  have hid := (hA.tk u.r).2 hul
  (repeat refine Z ?_)
  rw [hj]
  (repeat refine Z ?_)
  refine XO_call (ar_free x z hA hI.trok (by decide) u.r hku.2.2.1 hku.2.2.2.1 hul) (hk := ?_)
  rintro _ _ ⟨z3, rfl, rfl, hF⟩
  have hA3 : AOk 180 z3 := AOk.freed hA (by decide) hid hF
  have hG := hI.freed hA hF ⟨_, hA3⟩
  have hup := fun (i : Nat) (r : NR) (hi : L[i]? = some r) (hij : i ≠ j) => hI.up hA hu hi hij
  have hz0 := hI.zero hA (List.mem_of_getElem? hu)
  have hself : u.r ∈ ordT z.tr u.r := ordF_self _ _ _
  have hsz := hI.sz
  clear hF hI hA hul hid hget
  generalize ordT z.tr u.r = G at hG hup hz0 hself
  (repeat refine Z ?_)
  refine X_cond rfl (fun h => by cases h) (fun _ => ?_)
  (repeat refine Z ?_)
  refine X_loop (ι := Nat × Ar × Int) (fun y => y.1 ≤ xs.length ∧ AOk (180 + y.1) y.2.1 ∧ NsG L G y.2.1 ∧ y.2.2 = (((L.take y.1).filter fun r => !decide (r.r ∈ G)).map (·.s)).sum ∧ 0 ≤ y.2.2 ∧ y.2.2 ≤ 100 * (y.1 : Int))
    (fun y => [(6, .pointer (some ⟨x.a, 0, none⟩)), (7, .slice (some ⟨mb, mo, none⟩) (L.map (·.r)).length ca), (8, .slice (some ⟨ob, oo, none⟩) (L.map (·.o)).length cb), (9, .slice (some ⟨yb, 0, none⟩) xs.length xs.length), (16, .int .i64 (j : Int)), (17, .int .u64 y.2.2), (18, .int .i64 (y.1 : Int))])
    (fun y => [Arn x y.2.1, Sl (eI .u64) (some ⟨mb, mo, none⟩) ca (L.map (·.r)), Sl (eI .u64) (some ⟨ob, oo, none⟩) cb (L.map (·.o)), Sl (eI .i64) (some ⟨yb, 0, none⟩) xs.length ys, base W]) (fun y => xs.length - y.1) (0, z3, 0) ⟨Nat.zero_le _, hA3, hG, by simp, Int.le_refl _, Int.le_refl _⟩ ?_ (by ((try simp only [List.cons_append, List.nil_append]); repeat (first | exact ent_nil | exact ent_refl | refine ent_take (by repeat (first | exact Find.here | apply Find.there)) ?_ | refine ent_drop ?_))) ?_
  · exact SBs
  clear hA3 hG
  rintro ⟨i, z4, sm⟩ ⟨hi, hA, hG, hsm, hs0, hs1⟩
  dsimp only at hi hA hG hsm hs0 hs1 ⊢
  (repeat refine Z ?_)
  refine X_cond rfl (fun hc => ?_) (fun hc => ?_) <;> simp only [decide_eq_true_eq, decide_eq_false_iff_not] at hc
  · have hilx : i < xs.length := by omega
    obtain ⟨r, hr⟩ : ∃ r, L[i]? = some r := ⟨_, List.getElem?_eq_getElem (by omega)⟩
    have hbr := hG.bd r (List.mem_of_getElem? hr)
    have hrs := hsz i r hr
    refine X_skip ?_
    refine XE_code ?_
    refine X_seq ?_
    refine X_block ?_
    refine X_seq ?_
    refine X_region ?_
    (repeat (first | refine Zq ?_ | refine Zs ?_ | refine ZT ?_ | refine ZF ?_ | refine XO_gU (hk := ?_)))
    refine XO_nil ?_
    refine XE_code ?_
    refine X_seq ?_
    refine X_join (ι := Int) (fun p => (p = (j : Int) ↔ r.r ∈ G)) (fun p => [(6, .pointer (some ⟨x.a, 0, none⟩)), (7, .slice (some ⟨mb, mo, none⟩) (L.map (·.r)).length ca), (8, .slice (some ⟨ob, oo, none⟩) (L.map (·.o)).length cb), (9, .slice (some ⟨yb, 0, none⟩) xs.length xs.length), (16, .int .i64 (j : Int)), (17, .int .u64 sm), (18, .int .i64 (i : Int)), (19, .int .i64 p)]) (fun _ => [Arn x z4, Sl (eI .u64) (some ⟨mb, mo, none⟩) ca (L.map (·.r)), Sl (eI .u64) (some ⟨ob, oo, none⟩) cb (L.map (·.o)), Sl (eI .i64) (some ⟨yb, 0, none⟩) xs.length ys, base W]) ?_ ?_
    · refine X_block ?_
      refine X_loop (ι := Int) (fun p => -1 ≤ p ∧ p ≤ (i : Int) ∧ (r.r ∈ G ↔ ∃ (q : Nat) (v : NR), p = (q : Int) ∧ L[q]? = some v ∧ v.r ∈ G)) (fun p => [(6, .pointer (some ⟨x.a, 0, none⟩)), (7, .slice (some ⟨mb, mo, none⟩) (L.map (·.r)).length ca), (8, .slice (some ⟨ob, oo, none⟩) (L.map (·.o)).length cb), (9, .slice (some ⟨yb, 0, none⟩) xs.length xs.length), (16, .int .i64 (j : Int)), (17, .int .u64 sm), (18, .int .i64 (i : Int)), (19, .int .i64 p)]) (fun _ => [Arn x z4, Sl (eI .u64) (some ⟨mb, mo, none⟩) ca (L.map (·.r)), Sl (eI .u64) (some ⟨ob, oo, none⟩) cb (L.map (·.o)), Sl (eI .i64) (some ⟨yb, 0, none⟩) xs.length ys, base W]) (fun p => (p + 1).toNat) (i : Int) ⟨by omega, Int.le_refl _, ⟨fun h => ⟨i, r, rfl, hr, h⟩, fun ⟨q, v, h1, h2, h3⟩ => ?_⟩⟩ (by exact SBs) (by ((try simp only [List.cons_append, List.nil_append]); repeat (first | exact ent_nil | exact ent_refl | refine ent_take (by repeat (first | exact Find.here | apply Find.there)) ?_ | refine ent_drop ?_))) ?_
      · have : i = q := by omega
        subst this
        rw [hr] at h2; cases h2; exact h3
      rintro p ⟨hp0, hp1, hpg⟩
      dsimp only
      (repeat refine Z ?_)
      refine XO_either (hT := fun h => ?_) (hF := fun h => ?_) <;> simp only [decide_eq_true_eq, decide_eq_false_iff_not] at h
      · obtain ⟨q, rfl⟩ : ∃ q : Nat, p = (q : Int) := ⟨p.toNat, by omega⟩
        obtain ⟨v, hv⟩ : ∃ v, L[q]? = some v := ⟨_, List.getElem?_eq_getElem (by omega)⟩
        have hpg2 : r.r ∈ G ↔ v.r ∈ G := by
          rw [hpg]
          constructor
          · rintro ⟨q', v', h1, h2, h3⟩
            have : q = q' := by omega
            subst this
            rw [hv] at h2; cases h2; exact h3
          · intro h3; exact ⟨q, v, rfl, hv, h3⟩
        (repeat refine Z ?_)
        refine X_cond rfl (fun hne => ?_) (fun heq => ?_) <;> simp only [bne_iff_ne, ne_eq, bne_eq_false_iff_eq] at *
        · obtain ⟨a, hya, hac⟩ := hab q v hv
          have hget : ys[(q : Int).toNat]? = some a := by rw [Int.toNat_natCast]; exact hya
          have hqj : q ≠ j := fun e => hne (by rw [e])
          have hu2 := hup q v hv hqj
          have hab2 : -1 ≤ a ∧ a < (q : Int) := by
            rcases hac with h | ⟨k', u', h1, h2, h3, h4⟩ <;> omega
          (repeat refine Z ?_)
          refine X_round a ⟨hab2.1, by omega, ?_⟩ (by show (a + 1).toNat < ((q : Int) + 1).toNat; omega) (by exact SBs) (by ((try simp only [List.cons_append, List.nil_append]); repeat (first | exact ent_nil | exact ent_refl | refine ent_take (by repeat (first | exact Find.here | apply Find.there)) ?_ | refine ent_drop ?_)))
          rw [hpg2, hu2]
          rcases hac with ⟨h1, h2⟩ | ⟨k', u', h1, h2, h3, h4⟩
          · rw [h2]
            exact ⟨fun h => absurd h hz0, fun ⟨q', v', e, _⟩ => by omega⟩
          · rw [h4]
            constructor
            · intro h; exact ⟨k', u', h2, h3, h⟩
            · rintro ⟨q', v', e1, e2, e3⟩
              have : k' = q' := by omega
              subst this
              rw [h3] at e2; cases e2; exact e3
        · (repeat refine Z ?_)
          refine X_meet (q : Int) ⟨fun _ => ?_, fun _ => heq⟩ (by exact SBs) (by ((try simp only [List.cons_append, List.nil_append]); repeat (first | exact ent_nil | exact ent_refl | refine ent_take (by repeat (first | exact Find.here | apply Find.there)) ?_ | refine ent_drop ?_)))
          have : q = j := by omega
          subst this
          rw [hv] at hu; cases hu
          exact hpg2.2 hself
      · (repeat refine Z ?_)
        refine X_cond rfl (fun h => by cases h) (fun _ => ?_)
        (repeat refine Z ?_)
        refine X_meet p ⟨fun e => by omega, fun hg => ?_⟩ (by exact SBs) (by ((try simp only [List.cons_append, List.nil_append]); repeat (first | exact ent_nil | exact ent_refl | refine ent_take (by repeat (first | exact Find.here | apply Find.there)) ?_ | refine ent_drop ?_)))
        obtain ⟨q, v, e, _⟩ := hpg.1 hg
        omega
    intro p hp
    obtain ⟨at_, hob⟩ := hG.ob r (List.mem_of_getElem? hr)
    have hrg := hG.rg r (List.mem_of_getElem? hr)
    have hgo : (L.map (·.o))[(i : Int).toNat]? = some r.o := by rw [Int.toNat_natCast, List.getElem?_map, hr]; rfl
    have htk : L.take (i + 1) = L.take i ++ [r] := by rw [List.take_add_one, hr]; rfl
    (repeat refine Z ?_)
    refine XO_call (ar_place x z4 hA r.o hbr.2.2.1 hbr.2.2.2.1) (hk := ?_)
    rintro _ _ ⟨rfl, rfl⟩
    rw [hob]
    have hgr : (L.map (·.r))[(i : Int).toNat]? = some r.r := by rw [Int.toNat_natCast, List.getElem?_map, hr]; rfl
    clear hgo
    by_cases hg : r.r ∈ G
    · rw [if_pos hg]
      obtain rfl := hp.2 hg
      have hno : z4.reg.get r.r = none := by
        rw [show (!decide (r.r ∈ G)) = false from by simp [hg]] at hrg
        cases hc2 : z4.reg.get r.r with
        | none => rfl
        | some v => rw [hc2] at hrg; cases hrg
      dsimp only [Option.getD, Option.isSome]
      (repeat refine Z ?_)
      refine XO_known false (hb := by simp) (hk := ?_)
      (repeat refine Z ?_)
      refine X_cond rfl (fun h => by simp at h) (fun _ => ?_)
      (repeat refine Z ?_)
      refine X_cond rfl (fun h => by cases h) (fun _ => ?_)
      (repeat refine Z ?_)
      refine XO_call (ar_create_no x z4 hA r.r hbr.1 hbr.2.1 hbr.2.2.2.2 hno) (hk := ?_)
      rintro _ _ ⟨rfl, rfl⟩
      (repeat refine Z ?_)
      refine X_cond rfl (fun h => by cases h) (fun _ => ?_)
      (repeat refine Z ?_)
      refine X_round (i + 1, z4, sm) ⟨by show i + 1 ≤ xs.length; omega, hA.le (by omega) (by show 180 + (i + 1) ≤ 100000; omega), hG, ?_, hs0, by show sm ≤ 100 * ((i + 1 : Nat) : Int); omega⟩ (by show xs.length - (i + 1) < xs.length - i; omega) (by exact SBs) (by ((try simp only [List.cons_append, List.nil_append]); repeat (first | exact ent_nil | exact ent_refl | refine ent_take (by repeat (first | exact Find.here | apply Find.there)) ?_ | refine ent_drop ?_)))
      show sm = (((L.take (i + 1)).filter fun r => !decide (r.r ∈ G)).map (·.s)).sum
      rw [htk, List.filter_append, hsm]
      simp [hg]
    · rw [if_neg hg]
      dsimp only [Option.getD, Option.isSome]
      have hpj : p ≠ (j : Int) := fun e => hg (hp.1 e)
      have hli : (z4.reg.get r.r).isSome = true := by rw [hrg]; simp [hg]
      rw [hrs]
      (repeat refine Z ?_)
      refine XO_known false (hb := by simp [hpj]) (hk := ?_)
      (repeat refine Z ?_)
      refine XO_known false (hb := by simp) (hk := ?_)
      (repeat refine Z ?_)
      refine X_cond rfl (fun h => by simp at h) (fun _ => ?_)
      (repeat refine Z ?_)
      refine X_cond rfl (fun _ => ?_) (fun h => by cases h)
      (repeat refine Z ?_)
      refine XO_call (ar_create x z4 hA (by omega) r.r hbr.1 hbr.2.1 (.inr hli)) (hk := ?_)
      rintro _ _ ⟨b, rfl, rfl⟩
      (repeat refine Z ?_)
      refine X_cond rfl (fun h => by cases h) (fun _ => ?_)
      (repeat refine Z ?_)
      refine X_round (i + 1, z4.created r.r b, sm + ((i : Int) + 1)) ⟨by show i + 1 ≤ xs.length; omega, hA.created (by omega) (.inr hli) b, hG.create hA (by omega) r.r b, ?_, by show 0 ≤ sm + ((i : Int) + 1); omega, by show sm + ((i : Int) + 1) ≤ 100 * ((i + 1 : Nat) : Int); omega⟩ (by show xs.length - (i + 1) < xs.length - i; omega) (by exact SBs) (by ((try simp only [List.cons_append, List.nil_append]); repeat (first | exact ent_nil | exact ent_refl | refine ent_take (by repeat (first | exact Find.here | apply Find.there)) ?_ | refine ent_drop ?_)))
      show sm + ((i : Int) + 1) = (((L.take (i + 1)).filter fun r => !decide (r.r ∈ G)).map (·.s)).sum
      rw [htk, List.filter_append, hsm]
      simp [hg, hrs]
  have hi2 : i = L.length := by omega
  rw [hi2, List.take_length] at hsm
  have hmt := ar_meter x z4 hA
  have hwm : IntKind.u64.wrap (sumH Sh.obj z4 z4.reg.handles.length) = sm := by rw [sumH_M hA Sh.obj, hG.sum, ← hsm]; exact wrap_u64 (by omega) (by omega)
  unfold meterA at hmt
  rw [hwm] at hmt
  (repeat refine Z ?_)
  refine XO_call hmt (hk := ?_)
  rintro _ _ ⟨rfl, rfl⟩
  refine XO_pv (pv_fieldV (v := .int .u64 sm)) (hk := ?_)
  (repeat refine Z ?_)
  rw [show (sm == sm) = true from beq_self_eq_true _]
  (repeat refine Z ?_)
  refine XE_ret (.inl rfl) (tells_tmps rfl rfl) ⟨_, ⟨rfl, rfl⟩, by exact EN⟩
end Go.Proofs.YtamecmklcnohjaaGreat.Sep
