import Derived.Test.YtmndddegnfbaaaaBn12
/- The law Law15T: it answers true whatever it is given, and what was there stays. No conditions. -/
namespace Go.Proofs.Ytmndddegnfbaaaa.Sep
open Go.RowKit
set_option linter.unusedSimpArgs false
set_option linter.unusedVariables false
/-! two regions of one store, and each alone -/
theorem two_other {P : Int} {B B2 : Nat} {o o2 : Int} {C C' : Co} {m m' : Int → Int} {Sa Sa' Sb : Sh} (h : RInv P B o C' m' Sa' (gotR o2 Sb)) (hb : RInv P B2 o2 C m Sb (gotR o Sa)) : RInv P B2 o2 C' m' Sb (gotR o Sa') :=
  ⟨h.K.perm List.perm_append_comm, h.hP, hb.S, hb.po⟩
theorem hw_reset {P : Int} {B : Nat} {o : Int} {C : Co} {m : Mm} {S : Sh} {oth : List (Int × Hd)} {H : Int} (hR : RInv P B o C m.f S oth) (hH : HW C H) : HW (putsC C S 0 0) H := by
  have hlen := hR.len
  have h1 := hw_cut S.larges [] C m H hR.k1 hR.hP (by simpa using hlen.2) hH
  obtain ⟨k1, k2⟩ := pcut_inv hR.k1 hR.hP hlen.2 0
  rw [List.drop_zero, List.take_zero] at k1
  rw [List.drop_zero] at k2
  have hK2 : KInv (cutC C S.larges) (cutM P m S.larges).f (plH 0 o 0 ([] ++ S.parts.map runP) ++ oth) := k1
  exact hw_cut (S.parts.map runP) [] _ _ H hK2 k2 (by simp; exact hlen.1) h1
structure TwoI (i : Nat) (C : Co) (m : Mm) (Sa Sb : Sh) (Cc : Co) (mc : Mm) (Sc : Sh) (Cd : Co) (md : Mm) (Sd : Sh) : Prop where
  a : RInv 6000 i 1 C m.f Sa (gotR 2 Sb)
  b : RInv 6000 i 2 C m.f Sb (gotR 1 Sa)
  c : RInv 6000 i 1 Cc mc.f Sc []
  d : RInv 6000 i 2 Cd md.f Sd []
  h : HW C (80 * (i : Int))
  hc : HW Cc (80 * (i : Int))
  hd : HW Cd (80 * (i : Int))
  ac : Sim Sa Sc
  bd : Sim Sb Sd
structure TwoS where
  C : Co
  m : Mm
  Sa : Sh
  Sb : Sh
  Cc : Co
  mc : Mm
  Sc : Sh
  Cd : Co
  md : Mm
  Sd : Sh
def TwoS.ok (z : TwoS) (i : Nat) : Prop := TwoI i z.C z.m z.Sa z.Sb z.Cc z.mc z.Sc z.Cd z.md z.Sd
theorem wr80 (i : Nat) : (80 : Int) * ((i + 1 : Nat) : Int) = 80 * (i : Int) + 80 := by omega
theorem emptyTwo {P : Int} {m : Int → Int} (h1 : 1 ≤ P) (h2 : P ≤ 1048576) (o : Int) : RInv P 0 o ⟨P, [(0, P)], fun _ => [], 0⟩ m emptySh (gotR 2 emptySh) ∧ RInv P 0 o ⟨P, [(0, P)], fun _ => [], 0⟩ m emptySh (gotR 1 emptySh) := ⟨emptyInv h1 h2 o, emptyInv h1 h2 o⟩
set_option maxHeartbeats 8000000
attribute [local irreducible] X XE XO XD XDi XDa PV RV DV pt base Spec Sl Mp Keeps Pg Kc Pgs Spc Ck XL XLi Pl Rs Rg View
theorem two15 (a0 : Option Addr) (c0 : Nat) (xs : List A15) (hok : ∀ x ∈ xs, OkA x) (hl1 : xs.length ≤ maxLen) (W : World) (V1 : View (base W) eAct a0 xs) :
    Calls Try.prog 6 #[.slice a0 xs.length c0] W fun e w' => e = .returned (.bool true) ∧ Below W.heap.size W w' := by
  refine law_intro (args := [.slice a0 xs.length c0]) Try.func6 rfl Try.ntmps6 (by simp) ?_
  simp only [envOf, List.zipIdx, List.map, List.cons_append, List.nil_append, Nat.zero_add, Nat.reduceAdd]
  repeat (first | refine Zq ?_ | refine Zs ?_ | refine ZT ?_ | refine ZF ?_ | refine Zc ?_ | refine XO_gU (hk := ?_))
  refine XO_call awake15_spec (hk := ?_)
  rintro _ _ ⟨rfl, rfl⟩
  repeat (first | refine Zq ?_ | refine Zs ?_ | refine ZT ?_ | refine ZF ?_ | refine Zc ?_ | refine XO_gU (hk := ?_))
  refine X_cond rfl (fun h => by cases h) (fun _ => ?_)
  repeat (first | refine Zq ?_ | refine Zs ?_ | refine ZT ?_ | refine ZF ?_ | refine Zc ?_ | refine XO_gU (hk := ?_))
  refine X_cond rfl (fun h3 => ?_) (fun h3 => ?_) <;> simp only [decide_eq_true_eq, decide_eq_false_iff_not] at h3
  · repeat (first | refine Zq ?_ | refine Zs ?_ | refine ZT ?_ | refine ZF ?_ | refine Zc ?_ | refine XO_gU (hk := ?_))
    refine XE_ret (.inl rfl) (tells_tmps rfl rfl) ⟨_, ⟨rfl, rfl⟩, by ((try simp only [List.cons_append, List.nil_append]); repeat (first | exact ent_refl | refine ent_take (by repeat (first | exact Find.here | apply Find.there)) ?_ | refine ent_drop ?_))⟩
  have he := emptyInv (P := 6000) (m := (⟨fun _ => 0, 0⟩ : Mm).f) (by decide) (by decide)
  have het := emptyTwo (P := 6000) (m := (⟨fun _ => 0, 0⟩ : Mm).f) (by decide) (by decide)
  have hw0 : HW ⟨6000, [(0, 6000)], fun _ => [], 0⟩ (80 * ((0 : Nat) : Int)) := hw_new 6000 _ _
  have hsim : Sim emptySh emptySh := ⟨rfl, rfl, rfl, rfl⟩
  have hI0 : TwoI 0 ⟨6000, [(0, 6000)], fun _ => [], 0⟩ ⟨fun _ => 0, 0⟩ emptySh emptySh ⟨6000, [(0, 6000)], fun _ => [], 0⟩ ⟨fun _ => 0, 0⟩ emptySh ⟨6000, [(0, 6000)], fun _ => [], 0⟩ ⟨fun _ => 0, 0⟩ emptySh :=
    ⟨(het 1).1, (het 2).2, he 1, he 2, hw0, hw0, hw0, hsim, hsim⟩
  clear he het hw0 hsim
  generalize hm0 : (⟨fun _ => 0, 0⟩ : Mm) = m0 at hI0
  repeat (first | refine Zq ?_ | refine Zs ?_ | refine ZT ?_ | refine ZF ?_ | refine Zc ?_ | refine XO_gU (hk := ?_))
  refine XO_call (knew_spec 6000) (hk := ?_)
  rintro _ _ ⟨s, sb, rfl, rfl⟩
  rw [hm0]
  repeat (first | refine Zq ?_ | refine Zs ?_ | refine ZT ?_ | refine ZF ?_ | refine Zc ?_ | refine XO_gU (hk := ?_))
  refine XO_call (rnew_spec s 1) (hk := ?_)
  rintro _ _ ⟨ra, rfl, rfl⟩
  repeat (first | refine Zq ?_ | refine Zs ?_ | refine ZT ?_ | refine ZF ?_ | refine Zc ?_ | refine XO_gU (hk := ?_))
  refine XO_call (rnew_spec s 2) (hk := ?_)
  rintro _ _ ⟨rb, rfl, rfl⟩
  repeat (first | refine Zq ?_ | refine Zs ?_ | refine ZT ?_ | refine ZF ?_ | refine Zc ?_ | refine XO_gU (hk := ?_))
  refine XO_call (knew_spec 6000) (hk := ?_)
  rintro _ _ ⟨s2, sb2, rfl, rfl⟩
  rw [hm0]
  repeat (first | refine Zq ?_ | refine Zs ?_ | refine ZT ?_ | refine ZF ?_ | refine Zc ?_ | refine XO_gU (hk := ?_))
  refine XO_call (rnew_spec s2 1) (hk := ?_)
  rintro _ _ ⟨rc, rfl, rfl⟩
  repeat (first | refine Zq ?_ | refine Zs ?_ | refine ZT ?_ | refine ZF ?_ | refine Zc ?_ | refine XO_gU (hk := ?_))
  refine XO_call (knew_spec 6000) (hk := ?_)
  rintro _ _ ⟨s3, sb3, rfl, rfl⟩
  rw [hm0]
  repeat (first | refine Zq ?_ | refine Zs ?_ | refine ZT ?_ | refine ZF ?_ | refine Zc ?_ | refine XO_gU (hk := ?_))
  refine XO_call (rnew_spec s3 2) (hk := ?_)
  rintro _ _ ⟨rd, rfl, rfl⟩
  repeat (first | refine Zq ?_ | refine Zs ?_ | refine ZT ?_ | refine ZF ?_ | refine Zc ?_ | refine XO_gU (hk := ?_))
  refine X_loop (ι := Nat × TwoS) (fun z => z.1 ≤ xs.length ∧ z.2.ok z.1)
    (fun z => [(0, .slice a0 xs.length c0), (5, .pointer (some ⟨ra, 0, none⟩)), (6, .pointer (some ⟨rb, 0, none⟩)), (7, .pointer (some ⟨rc, 0, none⟩)), (8, .pointer (some ⟨rd, 0, none⟩)), (9, .int .i64 (z.1 : Int))])
    (fun z => [Rg ra s 1 z.2.Sa, Rg rb s 2 z.2.Sb, Ck s sb z.2.C, Spc sb 6000 z.2.m, Rg rc s2 1 z.2.Sc, Ck s2 sb2 z.2.Cc, Spc sb2 6000 z.2.mc, Rg rd s3 2 z.2.Sd, Ck s3 sb3 z.2.Cd, Spc sb3 6000 z.2.md, base W]) (fun z => xs.length - z.1) (0, ⟨⟨6000, [(0, 6000)], fun _ => [], 0⟩, m0, emptySh, emptySh, ⟨6000, [(0, 6000)], fun _ => [], 0⟩, m0, emptySh, ⟨6000, [(0, 6000)], fun _ => [], 0⟩, m0, emptySh⟩) ⟨Nat.zero_le _, hI0⟩ ?_ (by ((try simp only [List.cons_append, List.nil_append]); repeat (first | exact ent_refl | refine ent_take (by repeat (first | exact Find.here | apply Find.there)) ?_ | refine ent_drop ?_))) ?_
  · (repeat (first | exact Env.sub_nil _ | refine Env.sub_cons rfl ?_))
  clear hI0
  rintro ⟨i, C, m, Sa, Sb, Cc, mc, Sc, Cd, md, Sd⟩ ⟨hi, hI⟩
  replace hI : TwoI i C m Sa Sb Cc mc Sc Cd md Sd := hI
  dsimp only at hi ⊢
  repeat (first | refine Zq ?_ | refine Zs ?_ | refine ZT ?_ | refine ZF ?_ | refine Zc ?_ | refine XO_gU (hk := ?_))
  refine X_cond rfl (fun hc => ?_) (fun hc => ?_) <;> simp only [decide_eq_true_eq, decide_eq_false_iff_not] at hc
  case refine_2.refine_2.refine_2 =>
    repeat (first | refine Zq ?_ | refine Zs ?_ | refine ZT ?_ | refine ZF ?_ | refine Zc ?_ | refine XO_gU (hk := ?_))
    refine XE_ret (.inl rfl) (tells_tmps rfl rfl) ⟨_, ⟨rfl, rfl⟩, (by simp only [List.cons_append, List.nil_append]; refine ent_take (by (repeat (first | exact Find.here | apply Find.there))) ?_; repeat (first | exact ent_refl | refine ent_drop ?_))⟩
  have hil : i < xs.length := by omega
  have hget : xs[i]? = some xs[i] := List.getElem?_eq_getElem hil
  have hx := hok xs[i] (List.getElem_mem hil)
  generalize xs[i] = x at hget hx
  have hsz := hx.sz
  have hk := hx.k
  have hab := al2_bd hk.1
  have hw8 := wr80 i
  refine X_view (A := base W) (by (repeat (first | exact Find.here | apply Find.there))) V1 (by omega) ?_
  rintro b1 o1 rfl
  repeat (first | refine Zq ?_ | refine Zs ?_ | refine ZT ?_ | refine ZF ?_ | refine Zc ?_ | refine XO_gU (hk := ?_))
  refine XO_pv (pv_shlN (b := x.k % 13) (hw := al2_shl hk.1)) (hk := ?_)
  refine XO_pv pv_assign (hk := ?_)
  refine XO_nil ?_
  refine XE_code ?_
  refine X_seq ?_
  refine X_join (ι := TwoS) (fun z => z.ok (i + 1)) (fun z => [(0, .slice (some ⟨b1, o1, none⟩) xs.length c0), (5, .pointer (some ⟨ra, 0, none⟩)), (6, .pointer (some ⟨rb, 0, none⟩)), (7, .pointer (some ⟨rc, 0, none⟩)), (8, .pointer (some ⟨rd, 0, none⟩)), (9, .int .i64 (i : Int))])
    (fun z => [Rg ra s 1 z.Sa, Rg rb s 2 z.Sb, Ck s sb z.C, Spc sb 6000 z.m, Rg rc s2 1 z.Sc, Ck s2 sb2 z.Cc, Spc sb2 6000 z.mc, Rg rd s3 2 z.Sd, Ck s3 sb3 z.Cd, Spc sb3 6000 z.md, base W]) ?_ ?_
  · repeat (first | refine Zq ?_ | refine Zs ?_ | refine ZT ?_ | refine ZF ?_ | refine Zc ?_ | refine XO_gU (hk := ?_))
    refine X_cond rfl (fun _ => ?_) (fun _ => ?_)
    · have hf0 : ∀ S : Sh, fitsS S 0 0 0 = true := fun S => by
        unfold fitsS
        rw [if_neg (by omega), if_pos rfl]
        rfl
      have hRa := rew_inv (ob := 0) (pd := 0) hI.a (hf0 Sa) (by decide) (by decide) (by decide)
      have hRc := rew_inv (ob := 0) (pd := 0) hI.c (hf0 Sc) (by decide) (by decide) (by decide)
      rw [show setTop (cutS Sa 0 0) 0 0 0 = emptySh from rfl] at hRa
      rw [show setTop (cutS Sc 0 0) 0 0 0 = emptySh from rfl] at hRc
      repeat (first | refine Zq ?_ | refine Zs ?_ | refine ZT ?_ | refine ZF ?_ | refine Zc ?_ | refine XO_gU (hk := ?_))
      refine XO_call (rreset_spec ra s sb hI.a) (hk := ?_)
      rintro _ _ ⟨rfl, rfl⟩
      repeat (first | refine Zq ?_ | refine Zs ?_ | refine ZT ?_ | refine ZF ?_ | refine Zc ?_ | refine XO_gU (hk := ?_))
      refine XO_call (rreset_spec rc s2 sb2 hI.c) (hk := ?_)
      rintro _ _ ⟨rfl, rfl⟩
      repeat (first | refine Zq ?_ | refine Zs ?_ | refine ZT ?_ | refine ZF ?_ | refine Zc ?_ | refine XO_gU (hk := ?_))
      exact X_meet ⟨putsC C Sa 0 0, rewM 6000 m Sa 0 0 0, emptySh, Sb, putsC Cc Sc 0 0, rewM 6000 mc Sc 0 0 0, emptySh, Cd, md, Sd⟩ ⟨hRa.up, (two_other hRa hI.b).up, hRc.up, hI.d.up, by rw [hw8]; exact (hw_reset hI.a hI.h).up (by omega), by rw [hw8]; exact (hw_reset hI.c hI.hc).up (by omega), by rw [hw8]; exact hI.hd.up (by omega), ⟨rfl, rfl, rfl, rfl⟩, hI.bd⟩ (by (repeat (first | exact Env.sub_nil _ | refine Env.sub_cons rfl ?_))) (by ((try simp only [List.cons_append, List.nil_append]); repeat (first | exact ent_refl | refine ent_take (by repeat (first | exact Find.here | apply Find.there)) ?_ | refine ent_drop ?_)))
    repeat (first | refine Zq ?_ | refine Zs ?_ | refine ZT ?_ | refine ZF ?_ | refine Zc ?_ | refine XO_gU (hk := ?_))
    cases hxw : x.w with
    | true =>
      refine X_cond (t := true) (by rw [← hxw]; rfl) (fun _ => ?_) (fun h => by cases h)
      obtain ⟨C2, m2, S2, at2, e2, har⟩ := AR.ex 6000 C m Sb 2 (x.sz % 300000) (al2 x.k)
      obtain ⟨C3, m3, S3, at3, e3, har3⟩ := AR.ex 6000 Cd md Sd 2 (x.sz % 300000) (al2 x.k)
      have hRb := har.inv hI.b (by decide) (by omega) (by omega) (by omega)
      have hRd := har3.inv hI.d (by decide) (by omega) (by omega) (by omega)
      obtain ⟨hee, hsim, q1, q2⟩ := AR.sim hI.b hI.d hI.bd (by omega) (by omega) (by omega) (by omega) hI.h (by omega) (by omega) hI.hd (by omega) (by omega) har har3
      repeat (first | refine Zq ?_ | refine Zs ?_ | refine ZT ?_ | refine ZF ?_ | refine Zc ?_ | refine XO_gU (hk := ?_))
      refine XO_call (ralloc_spec rb s sb hI.b (by decide) (by omega) (by omega) (by omega) (by omega) har) (hk := ?_)
      rintro _ _ ⟨rfl, rfl⟩
      repeat (first | refine Zq ?_ | refine Zs ?_ | refine ZT ?_ | refine ZF ?_ | refine Zc ?_ | refine XO_gU (hk := ?_))
      refine XO_call (ralloc_spec rd s3 sb3 hI.d (by decide) (by omega) (by omega) (by omega) (by omega) har3) (hk := ?_)
      rintro _ _ ⟨rfl, rfl⟩
      repeat (first | refine Zq ?_ | refine Zs ?_ | refine ZT ?_ | refine ZF ?_ | refine Zc ?_ | refine XO_gU (hk := ?_))
      refine X_cond rfl (fun h => absurd h (by simp [hee])) (fun _ => ?_)
      repeat (first | refine Zq ?_ | refine Zs ?_ | refine ZT ?_ | refine ZF ?_ | refine Zc ?_ | refine XO_gU (hk := ?_))
      exact X_meet ⟨C2, m2, Sa, S2, Cc, mc, Sc, C3, m3, S3⟩ ⟨(two_other hRb hI.a).up, hRb, hI.c.up, hRd, by rw [hw8]; exact q1, by rw [hw8]; exact hI.hc.up (by omega), by rw [hw8]; exact q2, hI.ac, hsim⟩ (by (repeat (first | exact Env.sub_nil _ | refine Env.sub_cons rfl ?_))) (by ((try simp only [List.cons_append, List.nil_append]); repeat (first | exact ent_refl | refine ent_take (by repeat (first | exact Find.here | apply Find.there)) ?_ | refine ent_drop ?_)))
    | false =>
      refine X_cond (t := false) (by rw [← hxw]; rfl) (fun h => by cases h) (fun _ => ?_)
      obtain ⟨C2, m2, S2, at2, e2, har⟩ := AR.ex 6000 C m Sa 1 (x.sz % 300000) (al2 x.k)
      obtain ⟨C3, m3, S3, at3, e3, har3⟩ := AR.ex 6000 Cc mc Sc 1 (x.sz % 300000) (al2 x.k)
      have hRa := har.inv hI.a (by decide) (by omega) (by omega) (by omega)
      have hRc := har3.inv hI.c (by decide) (by omega) (by omega) (by omega)
      obtain ⟨hee, hsim, q1, q2⟩ := AR.sim hI.a hI.c hI.ac (by omega) (by omega) (by omega) (by omega) hI.h (by omega) (by omega) hI.hc (by omega) (by omega) har har3
      repeat (first | refine Zq ?_ | refine Zs ?_ | refine ZT ?_ | refine ZF ?_ | refine Zc ?_ | refine XO_gU (hk := ?_))
      refine XO_call (ralloc_spec ra s sb hI.a (by decide) (by omega) (by omega) (by omega) (by omega) har) (hk := ?_)
      rintro _ _ ⟨rfl, rfl⟩
      repeat (first | refine Zq ?_ | refine Zs ?_ | refine ZT ?_ | refine ZF ?_ | refine Zc ?_ | refine XO_gU (hk := ?_))
      refine XO_call (ralloc_spec rc s2 sb2 hI.c (by decide) (by omega) (by omega) (by omega) (by omega) har3) (hk := ?_)
      rintro _ _ ⟨rfl, rfl⟩
      repeat (first | refine Zq ?_ | refine Zs ?_ | refine ZT ?_ | refine ZF ?_ | refine Zc ?_ | refine XO_gU (hk := ?_))
      refine X_cond rfl (fun h => absurd h (by simp [hee])) (fun _ => ?_)
      repeat (first | refine Zq ?_ | refine Zs ?_ | refine ZT ?_ | refine ZF ?_ | refine Zc ?_ | refine XO_gU (hk := ?_))
      exact X_meet ⟨C2, m2, S2, Sb, C3, m3, S3, Cd, md, Sd⟩ ⟨hRa, (two_other hRa hI.b).up, hRc, hI.d.up, by rw [hw8]; exact q1, by rw [hw8]; exact q2, by rw [hw8]; exact hI.hd.up (by omega), hsim, hI.bd⟩ (by (repeat (first | exact Env.sub_nil _ | refine Env.sub_cons rfl ?_))) (by ((try simp only [List.cons_append, List.nil_append]); repeat (first | exact ent_refl | refine ent_take (by repeat (first | exact Find.here | apply Find.there)) ?_ | refine ent_drop ?_)))
  clear hI
  clear C m Sa Sb Cc mc Sc Cd md Sd
  rintro ⟨C, m, Sa, Sb, Cc, mc, Sc, Cd, md, Sd⟩ hI
  have hI : TwoI (i + 1) C m Sa Sb Cc mc Sc Cd md Sd := hI
  dsimp only
  have hla := hI.a.len
  have hlb := hI.b.len
  have hlc := hI.c.len
  have hld := hI.d.len
  have hta := hI.ac.top
  have htb := hI.bd.top
  have hna := hI.ac.len
  have hnb := hI.bd.len
  repeat (first | refine Zq ?_ | refine Zs ?_ | refine ZT ?_ | refine ZF ?_ | refine Zc ?_ | refine XO_gU (hk := ?_))
  refine XO_call (rmark_spec ra s 1 Sa hla.1 hla.2) (hk := ?_)
  rintro _ _ ⟨rfl, rfl⟩
  repeat (first | refine Zq ?_ | refine Zs ?_ | refine ZT ?_ | refine ZF ?_ | refine Zc ?_ | refine XO_gU (hk := ?_))
  refine XO_dv (dv_alloc (row := [.int .i64 0, .int .i64 0, .int .u64 0, .int .u64 0, .int .u64 0])) (hk := ?_)
  rintro _ _ ⟨k1, rfl, rfl⟩
  refine XO_dv0 (dv_storeW (vs := [.int .i64 (Sa.parts.length : Int), .int .i64 (Sa.larges.length : Int), .int .u64 (topAt Sa), .int .u64 Sa.obj, .int .u64 Sa.pad])) (hk := ?_)
  rintro _ _ rfl
  repeat (first | refine Zq ?_ | refine Zs ?_ | refine ZT ?_ | refine ZF ?_ | refine Zc ?_ | refine XO_gU (hk := ?_))
  refine XO_call (rmark_spec rc s2 1 Sc hlc.1 hlc.2) (hk := ?_)
  rintro _ _ ⟨rfl, rfl⟩
  repeat (first | refine Zq ?_ | refine Zs ?_ | refine ZT ?_ | refine ZF ?_ | refine Zc ?_ | refine XO_gU (hk := ?_))
  refine XO_dv (dv_alloc (row := [.int .i64 0, .int .i64 0, .int .u64 0, .int .u64 0, .int .u64 0])) (hk := ?_)
  rintro _ _ ⟨k2, rfl, rfl⟩
  refine XO_dv0 (dv_storeW (vs := [.int .i64 (Sc.parts.length : Int), .int .i64 (Sc.larges.length : Int), .int .u64 (topAt Sc), .int .u64 Sc.obj, .int .u64 Sc.pad])) (hk := ?_)
  rintro _ _ rfl
  repeat (first | refine Zq ?_ | refine Zs ?_ | refine ZT ?_ | refine ZF ?_ | refine Zc ?_ | refine XO_gU (hk := ?_))
  refine XO_call (rmark_spec rb s 2 Sb hlb.1 hlb.2) (hk := ?_)
  rintro _ _ ⟨rfl, rfl⟩
  repeat (first | refine Zq ?_ | refine Zs ?_ | refine ZT ?_ | refine ZF ?_ | refine Zc ?_ | refine XO_gU (hk := ?_))
  refine XO_dv (dv_alloc (row := [.int .i64 0, .int .i64 0, .int .u64 0, .int .u64 0, .int .u64 0])) (hk := ?_)
  rintro _ _ ⟨k3, rfl, rfl⟩
  refine XO_dv0 (dv_storeW (vs := [.int .i64 (Sb.parts.length : Int), .int .i64 (Sb.larges.length : Int), .int .u64 (topAt Sb), .int .u64 Sb.obj, .int .u64 Sb.pad])) (hk := ?_)
  rintro _ _ rfl
  repeat (first | refine Zq ?_ | refine Zs ?_ | refine ZT ?_ | refine ZF ?_ | refine Zc ?_ | refine XO_gU (hk := ?_))
  refine XO_call (rmark_spec rd s3 2 Sd hld.1 hld.2) (hk := ?_)
  rintro _ _ ⟨rfl, rfl⟩
  repeat (first | refine Zq ?_ | refine Zs ?_ | refine ZT ?_ | refine ZF ?_ | refine Zc ?_ | refine XO_gU (hk := ?_))
  refine XO_dv (dv_alloc (row := [.int .i64 0, .int .i64 0, .int .u64 0, .int .u64 0, .int .u64 0])) (hk := ?_)
  rintro _ _ ⟨k4, rfl, rfl⟩
  refine XO_dv0 (dv_storeW (vs := [.int .i64 (Sd.parts.length : Int), .int .i64 (Sd.larges.length : Int), .int .u64 (topAt Sd), .int .u64 Sd.obj, .int .u64 Sd.pad])) (hk := ?_)
  rintro _ _ rfl
  have hb1 := top_bd hI.a.S.ok
  have hb2 := top_bd hI.b.S.ok
  have hb3 := top_bd hI.c.S.ok
  have hb4 := top_bd hI.d.S.ok
  repeat (first | refine Zq ?_ | refine Zs ?_ | refine ZT ?_ | refine ZF ?_ | refine Zc ?_ | refine XO_gU (hk := ?_))
  refine XO_call (rmeter_spec ra s 1 Sa hla.1 hla.2 hI.a.bd.1 hI.a.bd.2) (hk := ?_)
  rintro _ _ ⟨rfl, rfl⟩
  repeat (first | refine Zq ?_ | refine Zs ?_ | refine ZT ?_ | refine ZF ?_ | refine Zc ?_ | refine XO_gU (hk := ?_))
  refine XO_call (rmeter_spec rc s2 1 Sc hlc.1 hlc.2 hI.c.bd.1 hI.c.bd.2) (hk := ?_)
  rintro _ _ ⟨rfl, rfl⟩
  repeat (first | refine Zq ?_ | refine Zs ?_ | refine ZT ?_ | refine ZF ?_ | refine Zc ?_ | refine XO_gU (hk := ?_))
  refine XO_pv (pv_neRec [shPages Sa, 0, 0, 0, Sa.obj, Sa.pad, shHdr Sa, IntKind.u64.wrap (shPages Sa * 4096 - shHdr Sa - Sa.obj - Sa.pad)] [shPages Sc, 0, 0, 0, Sc.obj, Sc.pad, shHdr Sc, IntKind.u64.wrap (shPages Sc * 4096 - shHdr Sc - Sc.obj - Sc.pad)]) (hk := ?_)
  repeat (first | refine Zq ?_ | refine Zs ?_ | refine ZT ?_ | refine ZF ?_ | refine Zc ?_ | refine XO_gU (hk := ?_))
  refine XO_known false (hb := by simp [hI.ac.meter.1, hI.ac.meter.2, hI.ac.ob, hI.ac.pd]) (hk := ?_)
  repeat (first | refine Zq ?_ | refine Zs ?_ | refine ZT ?_ | refine ZF ?_ | refine Zc ?_ | refine XO_gU (hk := ?_))
  refine XO_call (rmeter_spec rb s 2 Sb hlb.1 hlb.2 hI.b.bd.1 hI.b.bd.2) (hk := ?_)
  rintro _ _ ⟨rfl, rfl⟩
  repeat (first | refine Zq ?_ | refine Zs ?_ | refine ZT ?_ | refine ZF ?_ | refine Zc ?_ | refine XO_gU (hk := ?_))
  refine XO_call (rmeter_spec rd s3 2 Sd hld.1 hld.2 hI.d.bd.1 hI.d.bd.2) (hk := ?_)
  rintro _ _ ⟨rfl, rfl⟩
  repeat (first | refine Zq ?_ | refine Zs ?_ | refine ZT ?_ | refine ZF ?_ | refine Zc ?_ | refine XO_gU (hk := ?_))
  refine XO_pv (pv_neRec [shPages Sb, 0, 0, 0, Sb.obj, Sb.pad, shHdr Sb, IntKind.u64.wrap (shPages Sb * 4096 - shHdr Sb - Sb.obj - Sb.pad)] [shPages Sd, 0, 0, 0, Sd.obj, Sd.pad, shHdr Sd, IntKind.u64.wrap (shPages Sd * 4096 - shHdr Sd - Sd.obj - Sd.pad)]) (hk := ?_)
  repeat (first | refine Zq ?_ | refine Zs ?_ | refine ZT ?_ | refine ZF ?_ | refine Zc ?_ | refine XO_gU (hk := ?_))
  refine XO_known false (hb := by simp [hI.bd.meter.1, hI.bd.meter.2, hI.bd.ob, hI.bd.pd]) (hk := ?_)
  repeat (first | refine Zq ?_ | refine Zs ?_ | refine ZT ?_ | refine ZF ?_ | refine Zc ?_ | refine XO_gU (hk := ?_))
  refine XO_known false (hb := by simp [hna.1]) (hk := ?_)
  repeat (first | refine Zq ?_ | refine Zs ?_ | refine ZT ?_ | refine ZF ?_ | refine Zc ?_ | refine XO_gU (hk := ?_))
  refine XO_known false (hb := by simp [hta]) (hk := ?_)
  repeat (first | refine Zq ?_ | refine Zs ?_ | refine ZT ?_ | refine ZF ?_ | refine Zc ?_ | refine XO_gU (hk := ?_))
  refine XO_known false (hb := by simp [hnb.2]) (hk := ?_)
  repeat (first | refine Zq ?_ | refine Zs ?_ | refine ZT ?_ | refine ZF ?_ | refine Zc ?_ | refine XO_gU (hk := ?_))
  refine X_cond rfl (fun h => absurd h (by simp [htb])) (fun _ => ?_)
  repeat (first | refine Zq ?_ | refine Zs ?_ | refine ZT ?_ | refine ZF ?_ | refine Zc ?_ | refine XO_gU (hk := ?_))
  exact X_round (i + 1, ⟨C, m, Sa, Sb, Cc, mc, Sc, Cd, md, Sd⟩) ⟨by show i + 1 ≤ xs.length; omega, hI⟩ (by show xs.length - (i + 1) < xs.length - i; omega) (by (repeat (first | exact Env.sub_nil _ | refine Env.sub_cons rfl ?_))) (by ((try simp only [List.cons_append, List.nil_append]); repeat (first | exact ent_refl | refine ent_take (by repeat (first | exact Find.here | apply Find.there)) ?_ | refine ent_drop ?_)))
end Go.Proofs.Ytmndddegnfbaaaa.Sep
