import Derived.Test.YtamecmklcnohjaaGreatBn15
/- The law Law18A: it answers true whatever it is given, and what was there stays. No conditions. -/
namespace Go.Proofs.YtamecmklcnohjaaGreat.Sep
open Go.RowKit
set_option linter.unusedSimpArgs false
set_option linter.unusedVariables false
theorem wf_u16a {a : Int} (h : (Lit.int .u16 a).wf = true) : 0 ≤ a ∧ a ≤ 65535 := by
  simp [Lit.wf, IntKind.min, IntKind.max, IntKind.signed, IntKind.bits] at h; exact h
structure AlZ where
  i : Nat
  z : Ar
  σ : Int → Sh
  told : List Int
  a : Option Addr
  c : Nat
structure AlJ (P : Int) (y : AlZ) : Prop where
  I : Inv y.σ y.z
  B : AB (3 * y.i) y.z
  P : y.z.P = P
  l : y.told.length ≤ y.i
  b : ∀ v ∈ y.told, 0 ≤ v ∧ v ≤ 18446744073709551615
theorem AlJ.new (p : Int) (h : 1 ≤ p ∧ p ≤ 1048576) : AlJ p ⟨0, ⟨⟨min (max p 1) 1048576, [(0, min (max p 1) 1048576)], fun _ => [], 0⟩, ⟨fun _ => 0, 0⟩, min (max p 1) 1048576, ⟨1, [], []⟩, [], ⟨2, [], []⟩, ⟨3, [], []⟩, [], []⟩, fun _ => emptySh, [], none, 0⟩ := by
  have hn : ∀ {α : Type} (k : Int) (x : Int), (⟨k, [], []⟩ : Tb α).get x = none := fun {α} k x => by
    unfold Tb.get Tb.spot Tb.usedAt
    simp
  refine ⟨⟨(fun q hq => by rcases hq with h | h <;> cases h), (fun q hq => by cases hq), fun y v e => ?_, fun y k e => ?_, fun y k y' k' e => ?_, fun y v b S e => ?_, fun y k u v e => ?_⟩, ⟨0, AOk.new p, Nat.le_refl _⟩, ?_, Nat.le_refl _, (fun v hv => by cases hv)⟩
  · rw [show (⟨2, [], []⟩ : Tb (Int × Int × Int)).get y = none from hn 2 y] at e; cases e
  · rw [show (⟨3, [], []⟩ : Tb MkT).get y = none from hn 3 y] at e; cases e
  · rw [show (⟨3, [], []⟩ : Tb MkT).get y = none from hn 3 y] at e; cases e
  · rw [show (⟨2, [], []⟩ : Tb (Int × Int × Int)).get y = none from hn 2 y] at e; cases e
  · rw [show (⟨3, [], []⟩ : Tb MkT).get y = none from hn 3 y] at e; cases e
  · show min (max p 1) 1048576 = p
    omega
set_option maxHeartbeats 8000000
attribute [local irreducible] X XE XO XD XDi XDa PV RV DV pt base Spec Sl Mp Keeps Pg Kc
attribute [local irreducible] Pgs Spc Ck XL XLi Pl Rs Rg View Tbl Tre Ros Star RgOf Arn
theorem all18 (pg : Int) (hpg : 0 ≤ pg ∧ pg ≤ 65535) (a1 : Option Addr) (c1 : Nat) (xs : List A18) (W : World) (hok : ∀ x ∈ xs, OkA18 W x) (hl1 : xs.length ≤ maxLen) (V1 : View (base W) eA18 a1 xs) :
    Calls Tryz.prog 8 #[.int .u16 pg, .slice a1 xs.length c1] W fun e w' => e = .returned (.bool true) ∧ Below W.heap.size W w' := by
  refine law_intro (args := [.int .u16 pg, .slice a1 xs.length c1]) Tryz.func8 rfl Tryz.ntmps8 (by simp) ?_
  simp only [envOf, List.zipIdx, List.map, List.cons_append, List.nil_append, Nat.zero_add, Nat.reduceAdd]
  (repeat refine Z ?_)
  refine XO_call awake18_spec (hk := ?_)
  rintro _ _ ⟨rfl, rfl⟩
  (repeat refine Z ?_)
  refine X_cond rfl (fun h => by cases h) (fun _ => ?_)
  (repeat refine Z ?_)
  refine XO_call (few_spec a1 c1 xs W hok V1 hl1) (hk := ?_)
  rintro _ _ ⟨fb, rfl, rfl, hfew⟩
  (repeat refine Z ?_)
  refine X_cond rfl (fun h => ?_) (fun h => ?_)
  · (repeat refine Z ?_)
    refine XE_ret (.inl rfl) (tells_tmps rfl rfl) ⟨_, ⟨rfl, rfl⟩, by exact EN⟩
  have hfb : fb = true := by cases fb <;> simp_all
  obtain ⟨hB1, hlen⟩ := hfew hfb
  (repeat refine Z ?_)
  refine XO_call (ar_new (pg + 65)) (hk := ?_)
  rintro _ _ ⟨x, rfl, rfl⟩
  obtain ⟨P, hP⟩ : ∃ P, pg + 65 = P := ⟨_, rfl⟩
  have hJ0 := AlJ.new (pg + 65) (by omega)
  rw [hP] at hJ0 ⊢
  generalize (⟨⟨min (max P 1) 1048576, [(0, min (max P 1) 1048576)], fun _ => [], 0⟩, ⟨fun _ => 0, 0⟩, min (max P 1) 1048576, ⟨1, [], []⟩, [], ⟨2, [], []⟩, ⟨3, [], []⟩, [], []⟩ : Ar) = z0 at hJ0 ⊢
  have hP1 : 65 ≤ P ∧ P ≤ 65600 := by omega
  have hzP := hJ0.P
  dsimp only at hzP
  (repeat refine Z ?_)
  refine XO_call (ar_store x z0) (hk := ?_)
  rintro _ _ ⟨rfl, rfl⟩
  (repeat refine Z ?_)
  refine XO_open (A := Arn x z0) (by exact FDs) Arn.open ?_
  rintro ⟨⟩ -
  dsimp only [List.cons_append, List.nil_append]
  refine XO_call (kspace_spec x.s x.sb z0.C) (hk := ?_)
  rintro _ _ ⟨rfl, rfl⟩
  (repeat refine Z ?_)
  refine XO_call (spages_spec x.sb z0.P z0.m) (hk := ?_)
  rintro _ _ ⟨rfl, rfl⟩
  rw [hzP]
  refine XO_fold (by rw [← hzP]; exact FAs) (Arn.fold (x := x) (z := z0)) ?_
  (repeat refine Z ?_)
  refine X_conv (fun _ h => SL_nilSl (eI .u64) h) ?_
  refine X_loop (ι := AlZ) (fun y => y.i ≤ xs.length ∧ AlJ P y) (fun y => [(1, .slice a1 xs.length c1), (7, .pointer (some ⟨x.a, 0, none⟩)), (8, .int .i64 P), (9, .slice y.a y.told.length y.c), (10, .int .i64 (y.i : Int))])
    (fun y => [Arn x y.z, Sl (eI .u64) y.a y.c y.told, base W]) (fun y => xs.length - y.i) ⟨0, z0, fun _ => emptySh, [], none, 0⟩ ⟨Nat.zero_le _, hJ0⟩ ?_ (by ((try simp only [List.cons_append, List.nil_append]); repeat (first | exact ent_nil | exact ent_refl | refine ent_take (by repeat (first | exact Find.here | apply Find.there)) ?_ | refine ent_drop ?_))) ?_
  · exact SBs
  clear hJ0 hzP
  rintro ⟨i, z, σ, told, ta, tc⟩ ⟨hi, hJ⟩
  dsimp only at hi hJ ⊢
  obtain ⟨hI, hB, hzP, htl, htb⟩ := hJ
  dsimp only at hI hB hzP htl htb
  (repeat refine Z ?_)
  refine X_cond rfl (fun hc => ?_) (fun hc => ?_) <;> simp only [decide_eq_true_eq, decide_eq_false_iff_not] at hc
  · have hil : i < xs.length := by omega
    obtain ⟨y, hy⟩ : ∃ y, xs[i]? = some y := ⟨_, List.getElem?_eq_getElem hil⟩
    have hym := List.mem_of_getElem? hy
    have hget : xs[(i : Int).toNat]? = some y := by rw [Int.toNat_natCast]; exact hy
    refine X_view (A := base W) (by exact FDs) V1 (by omega) ?_
    rintro vb vo rfl
    (repeat refine Z ?_)
    refine XO_call (do_spec x z hI hB (by omega) (Sl (eI .u64) ta tc told) ta tc told Sl.view (by omega) htb y (hok y hym) (hB1 y hym)) (hk := ?_)
    rintro _ _ ⟨z', σ', r, s, n, e, rfl, rfl, hd⟩
    obtain ⟨hI', hB', hMo, hr⟩ := hd.keeps hI hB (by omega) (hok y hym) (pickI_bd (hok y hym) htb)
    (repeat refine Z ?_)
    refine X_cond rfl (fun h1 => ?_) (fun h1 => ?_) <;> simp only [bne_iff_ne, ne_eq, bne_eq_false_iff_eq] at h1
    · (repeat refine Z ?_)
      refine XO_lit (E' := eI .u64) [r] (hk := ?_)
      intro lb
      (repeat refine Z ?_)
      refine XO_dv (dv_append (E' := eI .u64) (xs := told) (ys := [r]) (hv := Sl.view) (hb := by simp; omega)) (hk := ?_)
      rintro _ _ ⟨b1, d1, rfl, rfl⟩
      (repeat refine Z ?_)
      refine X_round ⟨i + 1, z', σ', told ++ [r], b1, d1⟩ ⟨by show i + 1 ≤ xs.length; omega, hI', hB'.le (by show 3 * i + 3 ≤ 3 * (i + 1); omega), hMo.P.trans hzP, by show (told ++ [r]).length ≤ i + 1; simp; omega, fun v hv => ?_⟩ (by show xs.length - (i + 1) < xs.length - i; omega) (by exact SBs) (by ((try simp only [List.cons_append, List.nil_append]); repeat (first | exact ent_nil | exact ent_refl | refine ent_take (by repeat (first | exact Find.here | apply Find.there)) ?_ | refine ent_drop ?_)))
      rcases List.mem_append.1 hv with h2 | h2
      · exact htb v h2
      · rw [List.mem_singleton.1 h2]; exact (hr h1).2
    · (repeat refine Z ?_)
      exact X_round ⟨i + 1, z', σ', told, ta, tc⟩ ⟨by show i + 1 ≤ xs.length; omega, hI', hB'.le (by show 3 * i + 3 ≤ 3 * (i + 1); omega), hMo.P.trans hzP, by show told.length ≤ i + 1; omega, htb⟩ (by show xs.length - (i + 1) < xs.length - i; omega) (by exact SBs) (by ((try simp only [List.cons_append, List.nil_append]); repeat (first | exact ent_nil | exact ent_refl | refine ent_take (by repeat (first | exact Find.here | apply Find.there)) ?_ | refine ent_drop ?_)))
  have hB : AB 150 z := hB.le (by omega)
  have hA := hB.ok (by decide)
  (repeat refine Z ?_)
  refine XO_call (ar_live x z hA) (hk := ?_)
  rintro _ _ ⟨l1, m1, l2, m2, l3, m3, rfl, rfl⟩
  have hpb : ∀ h ∈ z.reg.handles, 0 ≤ h ∧ h ≤ 18446744073709551615 := fun h hh => by obtain ⟨_, _, h2⟩ := Tb.handles_mem hA.rg hh; exact h2
  have hpl : ∀ h v, z.reg.get h = some v → h ∈ z.reg.handles := fun h v hv => (Tb.handles_iff hA.rg).2 (by rw [hv]; rfl)
  have hpn : z.reg.handles.length ≤ 150 := Nat.le_trans (Tb.handles_len _) hA.rg.len
  generalize z.reg.handles = pl at hpb hpl hpn ⊢
  (repeat refine Z ?_)
  refine X_loop (ι := Nat × Ar × (Int → Sh)) (fun y => y.1 ≤ pl.length ∧ Inv y.2.2 y.2.1 ∧ AB 150 y.2.1 ∧ y.2.1.P = P ∧ (∀ h v, y.2.1.reg.get h = some v → h ∈ pl) ∧ ∀ (j : Nat) h, j < y.1 → pl[j]? = some h → y.2.1.reg.get h = none)
    (fun y => [(7, .pointer (some ⟨x.a, 0, none⟩)), (8, .int .i64 P), (15, .slice l1 pl.length m1), (18, .int .i64 (y.1 : Int))])
    (fun y => [Arn x y.2.1, Sl (eI .u64) l1 m1 pl, base W]) (fun y => pl.length - y.1) (0, z, σ) ⟨Nat.zero_le _, hI, hB, hzP, hpl, fun j h hj => by omega⟩ ?_ (by ((try simp only [List.cons_append, List.nil_append]); repeat (first | exact ent_nil | exact ent_refl | refine ent_take (by repeat (first | exact Find.here | apply Find.there)) ?_ | refine ent_drop ?_))) ?_
  · exact SBs
  clear hI hB hzP hpl hA
  rintro ⟨i2, z2, σ2⟩ ⟨hi2, hI, hB, hzP, hpl, hdead⟩
  dsimp only at hi2 hI hB hzP hpl hdead ⊢
  have hA := hB.ok (by decide)
  (repeat refine Z ?_)
  refine X_cond rfl (fun hc2 => ?_) (fun hc2 => ?_) <;> simp only [decide_eq_true_eq, decide_eq_false_iff_not] at hc2
  · obtain ⟨h, hh⟩ : ∃ h, pl[i2]? = some h := ⟨_, List.getElem?_eq_getElem (by omega)⟩
    have hget : pl[(i2 : Int).toNat]? = some h := by rw [Int.toNat_natCast]; exact hh
    have hhb := hpb h (List.mem_of_getElem? hh)
    have hnext : ∀ {z' : Ar}, (∀ g v, z'.reg.get g = some v → z2.reg.get g = some v) → z'.reg.get h = none → (∀ g v, z'.reg.get g = some v → g ∈ pl) ∧ ∀ (j : Nat) g, j < i2 + 1 → pl[j]? = some g → z'.reg.get g = none := fun {z'} hs hn => by
      refine ⟨fun g v e => hpl g v (hs g v e), fun j g hj hg => ?_⟩
      by_cases e : j = i2
      · subst e; rw [hh] at hg; cases hg; exact hn
      · have := hdead j g (by omega) hg
        cases hc3 : z'.reg.get g with
        | none => rfl
        | some v => rw [hs g v hc3] at this; cases this
    refine X_slopen (E' := eI .u64) (a := l1) (c := m1) (xs := pl) (by exact FDs) (by omega) ?_
    rintro mb mo rfl
    rcases live_or (t := z2.reg) h with h2 | h2
    · (repeat refine Z ?_)
      refine XO_call (ar_free_no x z2 hA.w h hhb.1 hhb.2 h2) (hk := ?_)
      rintro _ _ ⟨rfl, rfl⟩
      (repeat refine Z ?_)
      obtain ⟨n1, n2⟩ := hnext (z' := z2) (fun _ _ e => e) h2
      exact X_round (i2 + 1, z2, σ2) ⟨by show i2 + 1 ≤ pl.length; omega, hI, hB, hzP, n1, n2⟩ (by show pl.length - (i2 + 1) < pl.length - i2; omega) (by exact SBs) (by ((try simp only [List.cons_append, List.nil_append]); repeat (first | exact ent_nil | exact ent_refl | refine ent_take (by repeat (first | exact Find.here | apply Find.there)) ?_ | refine ent_drop ?_)))
    · have h0 : (0 : Int) ∉ ordT z2.tr h := fun hg => by
        obtain ⟨q, hq, e⟩ := List.mem_map.1 (ordF_in ((hA.tk h).2 h2) hg)
        exact hA.T.nz q hq e
      have hls := freeR_less hA hI.trok (by decide) h2 h0 (by decide)
      have hF := freeR_FrI hA hI.trok (by decide) h2
      have hI' := InvP.free (o := 0) hI hA (by decide) h2 (fun q hq => by cases hq) (.inr rfl)
      have hB' := hB.free hI.trok (by decide) h2
      have hn : (z2.freeR h).reg.get h = none := by rw [hF.reg h hhb.1 hhb.2, if_pos (ordF_self _ _ _)]
      obtain ⟨n1, n2⟩ := hnext hls.reg hn
      (repeat refine Z ?_)
      refine XO_call (ar_freeL x z2 hA hI.trok (by decide) h hhb.1 hhb.2 h2) (hk := ?_)
      rintro _ _ ⟨rfl, rfl⟩
      (repeat refine Z ?_)
      exact X_round (i2 + 1, z2.freeR h, σ2) ⟨by show i2 + 1 ≤ pl.length; omega, hI', hB', hls.P.trans hzP, n1, n2⟩ (by show pl.length - (i2 + 1) < pl.length - i2; omega) (by exact SBs) (by ((try simp only [List.cons_append, List.nil_append]); repeat (first | exact ent_nil | exact ent_refl | refine ent_take (by repeat (first | exact Find.here | apply Find.there)) ?_ | refine ent_drop ?_)))
  have hi3 : i2 = pl.length := by omega
  have hall : ∀ h, z2.reg.get h = none := fun h => by
    cases hc3 : z2.reg.get h with
    | none => rfl
    | some v =>
      obtain ⟨j, hj⟩ := List.getElem?_of_mem (hpl h v hc3)
      have := hdead j h (by have := (List.getElem?_eq_some_iff.1 hj).1; omega) hj
      rw [hc3] at this; exact this
  have hvd := hI.void hA hall
  have hmt := meter_void hA hvd
  have hA3 := hA.trim
  have hf3 : (trimC z2.C).fr = [(0, P)] := by
    have hK := hA.R.K
    rw [hvd.M] at hK
    rw [kdone hK, hA.R.hP, hzP]
  have hP3 : ({ z2 with C := trimC z2.C } : Ar).P = P := hzP
  have hM3 : ({ z2 with C := trimC z2.C } : Ar).M = [] := hvd.M
  have hr3 : ({ z2 with C := trimC z2.C } : Ar).reg.handles = [] := hvd.r
  have ho3 : ({ z2 with C := trimC z2.C } : Ar).obj.handles = [] := hvd.o
  have hm3 : ({ z2 with C := trimC z2.C } : Ar).mar.handles = [] := hvd.m
  replace hf3 : ({ z2 with C := trimC z2.C } : Ar).C.fr = [(0, P)] := hf3
  (repeat refine Z ?_)
  refine XO_call (ar_trim x z2 hA.R.K.ci.ok) (hk := ?_)
  rintro _ _ ⟨rfl, rfl⟩
  generalize ({ z2 with C := trimC z2.C } : Ar) = z3 at hA3 hmt hP3 hM3 hr3 ho3 hm3 hf3 ⊢
  clear hI hB hpl hdead hA hall hvd
  rw [hzP] at hmt
  (repeat refine Z ?_)
  refine XO_call (ar_live x z3 hA3) (hk := ?_)
  rintro _ _ ⟨l4, m4, l5, m5, l6, m6, rfl, rfl⟩
  rw [hr3, ho3, hm3]
  (repeat refine Z ?_)
  have hmm := ar_meter x z3 hA3
  rw [hmt] at hmm
  refine XO_call hmm (hk := ?_)
  rintro _ _ ⟨rfl, rfl⟩
  (repeat refine Z ?_)
  refine XO_pv (pv_buildG [.int .i64 0, .int .i64 0, .int .i64 P, .int .i64 1, .int .u64 0, .int .u64 0, .int .u64 0, .int .u64 0]) (hk := ?_)
  (repeat refine Z ?_)
  refine XO_pv (pv_neRec [0, 0, P, 1, 0, 0, 0, 0] [0, 0, P, 1, 0, 0, 0, 0]) (hk := ?_)
  (repeat refine Z ?_)
  refine X_cond rfl (fun h => by simp at h) (fun _ => ?_)
  (repeat refine Z ?_)
  have hHb := Tb.addH_bd hA3.rg
  refine XO_call (ar_create x z3 hA3 (by omega) 0 (by omega) (by omega) (.inl rfl)) (hk := ?_)
  rintro _ _ ⟨b, rfl, rfl⟩
  have hA4 := hA3.created (by omega) (.inl rfl) b
  have hq4 : (z3.created 0 b).M[0]? = some (b, z3.reg.addH, emptySh) := by
    show (z3.M ++ [_])[0]? = _
    rw [hM3]; rfl
  have hM4 : (z3.created 0 b).M = [(b, z3.reg.addH, emptySh)] := by
    show z3.M ++ [_] = _
    rw [hM3]; rfl
  have hP4 : (z3.created 0 b).P = P := hP3
  have hf4 : (z3.created 0 b).C.fr = [(0, P)] := hf3
  generalize z3.created 0 b = z4 at hA4 hq4 hM4 hP4 hf4 ⊢
  generalize z3.reg.addH = H at hHb hq4 hM4 ⊢
  obtain ⟨C5, n5, S5, at5, e5, har⟩ := AR.ex z4.P z4.C z4.m emptySh H (P * 4096 - 32) 1
  have hR4 := hA4.R.one hq4
  dsimp only at hR4
  obtain ⟨he5, pg5, hp5, hl5⟩ : e5 = 0 ∧ ∃ pg, S5.parts = [] ∧ S5.larges = [(pg, P)] := by
    have har2 := har
    rw [hP4] at hR4 har2
    exact AR.whole hR4 hP1.1 hP1.2 hf4 har2
  subst he5
  have w1 : IntKind.u64.wrap P = P := wrap_u64 (by omega) (by omega)
  have w2 : IntKind.u64.wrap (P * 4096) = P * 4096 := wrap_u64 (by omega) (by omega)
  have w3 : IntKind.u64.wrap (P * 4096 - 32) = P * 4096 - 32 := wrap_u64 (by omega) (by omega)
  have w4 : IntKind.u64.wrap (P * 4096 - 40) = P * 4096 - 40 := wrap_u64 (by omega) (by omega)
  have hA5 := hA4.alloced (by omega) hq4 (by omega) (by decide) (by decide) har
  have hOb := Tb.addH_bd hA4.ob
  have hM5 : (z4.alloced 0 b H (P * 4096 - 32) C5 n5 S5 at5 0).M = [(b, H, S5)] := by
    show z4.M.set 0 (b, H, S5) = _
    rw [hM4]; rfl
  have ho5 : (z4.alloced 0 b H (P * 4096 - 32) C5 n5 S5 at5 0).obj.get z4.obj.addH = some (at5, P * 4096 - 32, H) := by
    show (if (0 : Int) = 0 then z4.obj.add (at5, P * 4096 - 32, H) else z4.obj).get z4.obj.addH = _
    rw [if_pos rfl, Tb.get_add hA4.ob _ hOb.1 hOb.2, if_pos rfl]
  have hP5 : (z4.alloced 0 b H (P * 4096 - 32) C5 n5 S5 at5 0).P = P := hP4
  have hal := ar_alloc x z4 hA4 (by omega) hq4 (P * 4096 - 32) 1 (by omega) (by omega) (by decide) (by decide) har
  rw [if_pos rfl] at hal
  generalize z4.alloced 0 b H (P * 4096 - 32) C5 n5 S5 at5 0 = z5 at hA5 hM5 ho5 hP5 hal
  generalize z4.obj.addH = O at hOb ho5 hal
  clear har hR4
  have hq5 : z5.M[0]? = some (b, H, S5) := by rw [hM5]; rfl
  obtain ⟨hf5, hk5⟩ : z5.C.fr = [] ∧ kall z5.C.ks 7 = [] := by
    have hK := hA5.R.K
    rw [hM5] at hK
    have e : gotM [(b, H, S5)] = [(pg5, ⟨P, 1, H, 0⟩)] := by
      unfold gotM gotR
      simp [hp5, hl5, plH]
    rw [e] at hK
    exact full_none hK (by rw [hA5.R.hP, hP5])
  obtain ⟨C6, n6, S6, at6, e6, har⟩ := AR.ex z5.P z5.C z5.m S5 H 1 1
  obtain rfl := AR.none_left hp5 hf5 hk5 har
  have hA6 := hA5.alloced (by omega) hq5 (by decide) (by decide) (by decide) har
  have ho6 : (z5.alloced 0 b H 1 C6 n6 S6 at6 4).obj.get O = some (at5, P * 4096 - 32, H) := by
    show (if (4 : Int) = 0 then z5.obj.add (at6, 1, H) else z5.obj).get O = _
    rw [if_neg (by decide)]; exact ho5
  have hal2 := ar_alloc x z5 hA5 (by omega) hq5 1 1 (by decide) (by decide) (by decide) (by decide) har
  rw [if_neg (by decide)] at hal2
  generalize z5.alloced 0 b H 1 C6 n6 S6 at6 4 = z6 at hA6 ho6 hal2
  have hrd : rdE z6 O (P * 4096 - 40) 8 = 0 := by
    have : inH z6 O (P * 4096 - 40) 8 = (at5 + (P * 4096 - 40), 0) := by
      unfold inH
      rw [ho6]
      dsimp only
      rw [if_pos (by omega)]
    unfold rdE
    rw [this]
    rfl
  (repeat refine Z ?_)
  refine XO_call hal (hk := ?_)
  rintro _ _ ⟨rfl, rfl⟩
  (repeat refine Z ?_)
  refine XO_call hal2 (hk := ?_)
  rintro _ _ ⟨rfl, rfl⟩
  (repeat refine Z ?_)
  refine XO_call (ar_read_ok x z6 hA6 O (P * 4096 - 40) 8 hOb.1 hOb.2 (by omega) (by omega) (by decide) (by decide) hrd) (hk := ?_)
  rintro _ _ ⟨ob, rfl, rfl⟩
  (repeat refine Z ?_)
  refine XE_ret (.inl rfl) (tells_tmps rfl rfl) ⟨_, ⟨rfl, rfl⟩, by exact EN⟩
end Go.Proofs.YtamecmklcnohjaaGreat.Sep
