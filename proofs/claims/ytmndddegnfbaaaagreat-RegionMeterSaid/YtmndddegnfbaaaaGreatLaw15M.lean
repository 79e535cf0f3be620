import Derived.Test.YtmndddegnfbaaaaGreatBn12
/- The law Law15M: it answers true whatever it is given, and what was there stays. No conditions. -/
namespace Go.Proofs.YtmndddegnfbaaaaGreat.Sep
open Go.RowKit
set_option linter.unusedSimpArgs false
set_option linter.unusedVariables false
/-! what all pages of a region's chunks are -/
theorem tot_rev (l : List (Int × Int)) : totI l.reverse = totI l := tot_perm (List.reverse_perm l)
theorem bd_rev {l : List (Int × Int)} (h : Bd l) : Bd l.reverse := fun r hr => h r (List.mem_reverse.1 hr)
theorem tot_takeS {l : List (Int × Int)} {i : Nat} (h : i < l.length) : totI (l.take (i + 1)) = totI (l.take i) + l[i].2 := by rw [List.take_succ_eq_append_getElem h, tot_append]; simp [totI]
theorem tot_takeB {l : List (Int × Int)} (h : Bd l) (hl : l.length ≤ 1048576) (i : Nat) : 0 ≤ totI (l.take i) ∧ totI (l.take i) ≤ 1099511627776 := tot_bd0 (fun r hr => h r (List.mem_of_mem_take hr)) (by simp; omega)
set_option maxHeartbeats 8000000
attribute [local irreducible] X XE XO XD XDi XDa PV RV DV pt base Spec Sl Mp Keeps Pg Kc Pgs Spc Ck XL XLi Pl Rs Rg View
theorem meter15 (a0 : Option Addr) (c0 : Nat) (xs : List A15) (hok : ∀ x ∈ xs, OkA x) (hl1 : xs.length ≤ maxLen) (W : World) (V1 : View (base W) eAct a0 xs) :
    Calls Tryz.prog 4 #[.slice a0 xs.length c0] W fun e w' => e = .returned (.bool true) ∧ Below W.heap.size W w' := by
  refine law_intro (args := [.slice a0 xs.length c0]) Tryz.func4 rfl Tryz.ntmps4 (by simp) ?_
  simp only [envOf, List.zipIdx, List.map, List.cons_append, List.nil_append, Nat.zero_add, Nat.reduceAdd]
  repeat (first | refine Zq ?_ | refine Zs ?_ | refine ZT ?_ | refine ZF ?_ | refine Zc ?_ | refine XO_gU (hk := ?_))
  refine XO_call awake15_spec (hk := ?_)
  rintro _ _ ⟨rfl, rfl⟩
  repeat (first | refine Zq ?_ | refine Zs ?_ | refine ZT ?_ | refine ZF ?_ | refine Zc ?_ | refine XO_gU (hk := ?_))
  refine X_cond rfl (fun h => by cases h) (fun _ => ?_)
  repeat (first | refine Zq ?_ | refine Zs ?_ | refine ZT ?_ | refine ZF ?_ | refine Zc ?_ | refine XO_gU (hk := ?_))
  refine X_cond rfl (fun h3 => ?_) (fun h3 => ?_) <;> simp only [decide_eq_true_eq, decide_eq_false_iff_not] at h3
  · repeat (first | refine Zq ?_ | refine Zs ?_ | refine ZT ?_ | refine ZF ?_ | refine Zc ?_ | refine XO_gU (hk := ?_))
    refine XE_ret (.inl rfl) (tells_tmps rfl rfl) ⟨_, ⟨rfl, rfl⟩, by ((try simp only [List.cons_append, List.nil_append]); repeat (first | exact ent_refl | refine ent_take (by repeat (first | exact Find.here | apply Find.there)) ?_ | refine ent_drop ?_))⟩
  repeat (first | refine Zq ?_ | refine Zs ?_ | refine ZT ?_ | refine ZF ?_ | refine Zc ?_ | refine XO_gU (hk := ?_))
  refine XO_call (knew_spec 3000) (hk := ?_)
  rintro _ _ ⟨s, sb, rfl, rfl⟩
  have hr0 : RInv 3000 0 3 ⟨3000, [(0, 3000)], fun _ => [], 0⟩ (⟨fun _ => 0, 0⟩ : Mm).f emptySh [] := emptyInv (by decide) (by decide) 3
  generalize hm0 : (⟨fun _ => 0, 0⟩ : Mm) = m0 at hr0 ⊢
  repeat (first | refine Zq ?_ | refine Zs ?_ | refine ZT ?_ | refine ZF ?_ | refine Zc ?_ | refine XO_gU (hk := ?_))
  refine XO_call (rnew_spec s 3) (hk := ?_)
  rintro _ _ ⟨r, rfl, rfl⟩
  repeat (first | refine Zq ?_ | refine Zs ?_ | refine ZT ?_ | refine ZF ?_ | refine Zc ?_ | refine XO_gU (hk := ?_))
  refine XO_call (play_spec r s sb (base W) a0 c0 xs V1 hok (by omega) (by decide) (fun _ _ _ S => SumI S) (fun i x B C m S1 C' m' S' at_ e hx hxi hRi hgi hari => by
    have h1 := hx.sz
    have h2 := al2_bd hx.k.1
    exact hari.sum hRi (by decide) (by omega) (by omega) (by omega) hgi) hr0 (by unfold SumI; decide)) (hk := ?_)
  rintro _ _ ⟨rfl, C, m, S, hR, hsum, rfl⟩
  clear hr0
  have hlen := hR.len
  have hbd := hR.bd
  have hob := hR.S.ok.obj
  have hpd := hR.S.ok.pad
  obtain ⟨q0, q1, q2, q3⟩ := sum_slack hR hsum
  have hwr : IntKind.u64.wrap (shPages S * 4096 - shHdr S - S.obj - S.pad) = shPages S * 4096 - shHdr S - S.obj - S.pad := wrap_u64 q0 (by omega)
  have hml : (S.parts.map runP).length = S.parts.length := List.length_map ..
  have hrl : (S.parts.map runP).reverse.length = S.parts.length := by rw [List.length_reverse, hml]
  have hrl2 : S.larges.reverse.length = S.larges.length := List.length_reverse
  have hm1 := rmeter_spec r s 3 S hlen.1 hlen.2 hbd.1 hbd.2
  unfold meterV at hm1
  rw [hwr] at hm1
  repeat (first | refine Zq ?_ | refine Zs ?_ | refine ZT ?_ | refine ZF ?_ | refine Zc ?_ | refine XO_gU (hk := ?_))
  refine XO_call hm1 (hk := ?_)
  rintro _ _ ⟨rfl, rfl⟩
  repeat (first | refine Zq ?_ | refine Zs ?_ | refine ZT ?_ | refine ZF ?_ | refine Zc ?_ | refine XO_gU (hk := ?_))
  refine XO_dv (dv_alloc (row := [.int .i64 0, .int .i64 0, .int .i64 0, .int .i64 0, .int .u64 0, .int .u64 0, .int .u64 0, .int .u64 0])) (hk := ?_)
  rintro _ _ ⟨mb, rfl, rfl⟩
  refine XO_dv0 (dv_storeW (vs := [.int .i64 (shPages S), .int .i64 0, .int .i64 0, .int .i64 0, .int .u64 S.obj, .int .u64 S.pad, .int .u64 (shHdr S), .int .u64 (shPages S * 4096 - shHdr S - S.obj - S.pad)])) (hk := ?_)
  rintro _ _ rfl
  repeat (first | refine Zq ?_ | refine Zs ?_ | refine ZT ?_ | refine ZF ?_ | refine Zc ?_ | refine XO_gU (hk := ?_))
  refine XO_call (rchunks_spec r s sb hR) (hk := ?_)
  rintro _ _ ⟨ca, cc, da, dc, rfl, rfl⟩
  have hR1 := hR.walk (S.parts.map runP) S.larges
  clear hR
  generalize walkM 3000 (walkM 3000 m (S.parts.map runP)) S.larges = m1 at hR1 ⊢
  have hb1 := bd_rev hbd.1
  have hb2 := bd_rev hbd.2
  have e1 : totI (S.parts.map runP).reverse + totI S.larges.reverse = shPages S := by rw [tot_rev, tot_rev]; rfl
  generalize hla : (S.parts.map runP).reverse = la at hb1 e1 hrl ⊢
  generalize hlb : S.larges.reverse = lb at hb2 e1 hrl2 ⊢
  repeat (first | refine Zq ?_ | refine Zs ?_ | refine ZT ?_ | refine ZF ?_ | refine Zc ?_ | refine XO_gU (hk := ?_))
  refine X_loop (ι := Nat) (fun i => i ≤ la.length) (fun i => [(4, .pointer (some ⟨s, 0, none⟩)), (5, .pointer (some ⟨r, 0, none⟩)), (6, .pointer (some ⟨mb, 0, none⟩)), (7, .slice ca la.length cc), (8, .slice da lb.length dc), (9, .int .i64 (totI (la.take i))), (10, .int .i64 (i : Int))])
    (fun i => [Sl eRun ca cc la, Sl eRun da dc lb, Rg r s 3 S, Ck s sb C, Spc sb 3000 m1, pt mb (.cells [.int .i64 (shPages S), .int .i64 0, .int .i64 0, .int .i64 0, .int .u64 S.obj, .int .u64 S.pad, .int .u64 (shHdr S), .int .u64 (shPages S * 4096 - shHdr S - S.obj - S.pad)].toArray 36 (0, 0)), base W]) (fun i => la.length - i) 0 (Nat.zero_le _) ?_ (by ((try simp only [List.cons_append, List.nil_append]); repeat (first | exact ent_refl | refine ent_take (by repeat (first | exact Find.here | apply Find.there)) ?_ | refine ent_drop ?_))) ?_
  · (repeat (first | exact Env.sub_nil _ | refine Env.sub_cons rfl ?_))
  intro i hi
  dsimp only at hi ⊢
  have htb := tot_takeB hb1 (by omega) i
  repeat (first | refine Zq ?_ | refine Zs ?_ | refine ZT ?_ | refine ZF ?_ | refine Zc ?_ | refine XO_gU (hk := ?_))
  refine X_cond rfl (fun hc => ?_) (fun hc => ?_) <;> simp only [decide_eq_true_eq, decide_eq_false_iff_not] at hc
  · have hil : i < la.length := by omega
    have hget : la[i]? = some la[i] := List.getElem?_eq_getElem hil
    have hrr := hb1 la[i] (List.getElem_mem hil)
    have hts := tot_takeS hil
    generalize la[i] = q at hget hrr hts
    refine X_slopen (E' := eRun) (a := ca) (c := cc) (xs := la) (by (repeat (first | exact Find.here | apply Find.there))) (by omega) ?_
    rintro qb qo rfl
    repeat (first | refine Zq ?_ | refine Zs ?_ | refine ZT ?_ | refine ZF ?_ | refine Zc ?_ | refine XO_gU (hk := ?_))
    exact X_round (i + 1) (by show i + 1 ≤ la.length; omega) (by show la.length - (i + 1) < la.length - i; omega) (by rw [hts]; (repeat (first | exact Env.sub_nil _ | refine Env.sub_cons rfl ?_))) (by ((try simp only [List.cons_append, List.nil_append]); repeat (first | exact ent_refl | refine ent_take (by repeat (first | exact Find.here | apply Find.there)) ?_ | refine ent_drop ?_)))
  obtain rfl : i = la.length := by omega
  rw [List.take_length]
  rw [List.take_length] at htb
  repeat (first | refine Zq ?_ | refine Zs ?_ | refine ZT ?_ | refine ZF ?_ | refine Zc ?_ | refine XO_gU (hk := ?_))
  refine X_loop (ι := Nat) (fun i => i ≤ lb.length) (fun i => [(4, .pointer (some ⟨s, 0, none⟩)), (5, .pointer (some ⟨r, 0, none⟩)), (6, .pointer (some ⟨mb, 0, none⟩)), (7, .slice ca la.length cc), (8, .slice da lb.length dc), (9, .int .i64 (totI la + totI (lb.take i))), (11, .int .i64 (i : Int))])
    (fun i => [Sl eRun ca cc la, Sl eRun da dc lb, Rg r s 3 S, Ck s sb C, Spc sb 3000 m1, pt mb (.cells [.int .i64 (shPages S), .int .i64 0, .int .i64 0, .int .i64 0, .int .u64 S.obj, .int .u64 S.pad, .int .u64 (shHdr S), .int .u64 (shPages S * 4096 - shHdr S - S.obj - S.pad)].toArray 36 (0, 0)), base W]) (fun i => lb.length - i) 0 (Nat.zero_le _) ?_ (by ((try simp only [List.cons_append, List.nil_append]); repeat (first | exact ent_refl | refine ent_take (by repeat (first | exact Find.here | apply Find.there)) ?_ | refine ent_drop ?_))) ?_
  · rw [List.take_zero, show totI [] = 0 from rfl, Int.add_zero]
    (repeat (first | exact Env.sub_nil _ | refine Env.sub_cons rfl ?_))
  intro i hi
  dsimp only at hi ⊢
  have htb2 := tot_takeB hb2 (by omega) i
  repeat (first | refine Zq ?_ | refine Zs ?_ | refine ZT ?_ | refine ZF ?_ | refine Zc ?_ | refine XO_gU (hk := ?_))
  refine X_cond rfl (fun hc => ?_) (fun hc => ?_) <;> simp only [decide_eq_true_eq, decide_eq_false_iff_not] at hc
  · have hil : i < lb.length := by omega
    have hget : lb[i]? = some lb[i] := List.getElem?_eq_getElem hil
    have hrr := hb2 lb[i] (List.getElem_mem hil)
    have hts := tot_takeS hil
    generalize lb[i] = q at hget hrr hts
    refine X_slopen (E' := eRun) (a := da) (c := dc) (xs := lb) (by (repeat (first | exact Find.here | apply Find.there))) (by omega) ?_
    rintro qb qo rfl
    repeat (first | refine Zq ?_ | refine Zs ?_ | refine ZT ?_ | refine ZF ?_ | refine Zc ?_ | refine XO_gU (hk := ?_))
    exact X_round (i + 1) (by show i + 1 ≤ lb.length; omega) (by show lb.length - (i + 1) < lb.length - i; omega) (by rw [hts, ← Int.add_assoc]; (repeat (first | exact Env.sub_nil _ | refine Env.sub_cons rfl ?_))) (by ((try simp only [List.cons_append, List.nil_append]); repeat (first | exact ent_refl | refine ent_take (by repeat (first | exact Find.here | apply Find.there)) ?_ | refine ent_drop ?_)))
  obtain rfl : i = lb.length := by omega
  rw [List.take_length, e1]
  have hsh : shHdr S = 32 * (S.parts.length : Int) + 32 * (S.larges.length : Int) := by unfold shHdr; omega
  repeat (first | refine Zq ?_ | refine Zs ?_ | refine ZT ?_ | refine ZF ?_ | refine Zc ?_ | refine XO_gU (hk := ?_))
  refine XO_known false (hb := by simp) (hk := ?_)
  repeat (first | refine Zq ?_ | refine Zs ?_ | refine ZT ?_ | refine ZF ?_ | refine Zc ?_ | refine XO_gU (hk := ?_))
  refine XO_known false (hb := by simp only [bne_eq_false_iff_eq]; omega) (hk := ?_)
  repeat (first | refine Zq ?_ | refine Zs ?_ | refine ZT ?_ | refine ZF ?_ | refine Zc ?_ | refine XO_gU (hk := ?_))
  refine XO_known false (hb := by simp only [bne_eq_false_iff_eq]; omega) (hk := ?_)
  repeat (first | refine Zq ?_ | refine Zs ?_ | refine ZT ?_ | refine ZF ?_ | refine Zc ?_ | refine XO_gU (hk := ?_))
  refine X_cond rfl (fun h5 => ?_) (fun _ => ?_)
  · exfalso
    simp only [decide_eq_true_eq] at h5
    omega
  have hrs := rreset_spec r s sb hR1
  have hf0 : fitsS S 0 0 0 = true := by
    unfold fitsS
    rw [if_neg (by omega), if_pos rfl]
    rfl
  have hR2 := rew_inv (ob := 0) (pd := 0) hR1 hf0 (by decide) (by decide) (by decide)
  rw [show setTop (cutS S 0 0) 0 0 0 = emptySh from rfl] at hR2
  generalize putsC C S 0 0 = C2 at hrs hR2
  generalize rewM 3000 m1 S 0 0 0 = m2 at hrs hR2
  repeat (first | refine Zq ?_ | refine Zs ?_ | refine ZT ?_ | refine ZF ?_ | refine Zc ?_ | refine XO_gU (hk := ?_))
  refine XO_call hrs (hk := ?_)
  rintro _ _ ⟨rfl, rfl⟩
  repeat (first | refine Zq ?_ | refine Zs ?_ | refine ZT ?_ | refine ZF ?_ | refine Zc ?_ | refine XO_gU (hk := ?_))
  have hm3 := rmeter_spec r s 3 emptySh (by decide) (by decide) hR2.bd.1 hR2.bd.2
  rw [show meterV emptySh = meter0 from rfl] at hm3
  refine XO_call hm3 (hk := ?_)
  rintro _ _ ⟨rfl, rfl⟩
  repeat (first | refine Zq ?_ | refine Zs ?_ | refine ZT ?_ | refine ZF ?_ | refine Zc ?_ | refine XO_gU (hk := ?_))
  refine XO_pv (pv_neRec [0, 0, 0, 0, 0, 0, 0, 0] [0, 0, 0, 0, 0, 0, 0, 0]) (hk := ?_)
  repeat (first | refine Zq ?_ | refine Zs ?_ | refine ZT ?_ | refine ZF ?_ | refine Zc ?_ | refine XO_gU (hk := ?_))
  have hm4 := rmark_spec r s 3 emptySh (by decide) (by decide)
  rw [show markV emptySh = mark0 from rfl] at hm4
  refine XO_call hm4 (hk := ?_)
  rintro _ _ ⟨rfl, rfl⟩
  repeat (first | refine Zq ?_ | refine Zs ?_ | refine ZT ?_ | refine ZF ?_ | refine Zc ?_ | refine XO_gU (hk := ?_))
  refine XO_pv (pv_neRec [0, 0, 0, 0, 0] [0, 0, 0, 0, 0]) (hk := ?_)
  repeat (first | refine Zq ?_ | refine Zs ?_ | refine ZT ?_ | refine ZF ?_ | refine Zc ?_ | refine XO_gU (hk := ?_))
  refine X_cond rfl (fun h => by cases h) (fun _ => ?_)
  repeat (first | refine Zq ?_ | refine Zs ?_ | refine ZT ?_ | refine ZF ?_ | refine Zc ?_ | refine XO_gU (hk := ?_))
  have hK2 : KInv C2 m2.f [] := hR2.K
  refine XO_call (ctrim_spec s sb C2 hK2.ci.ok) (hk := ?_)
  rintro _ _ ⟨rfl, rfl⟩
  have hfr : (trimC C2).fr = [(0, 3000)] := by rw [kdone hK2, hR2.hP]
  have s5 := kfree_spec s sb (trimC C2) (ktrim hK2).ci.ok
  rw [hfr] at s5
  generalize trimC C2 = C3 at s5 ⊢
  repeat (first | refine Zq ?_ | refine Zs ?_ | refine ZT ?_ | refine ZF ?_ | refine Zc ?_ | refine XO_gU (hk := ?_))
  refine XO_call s5 (hk := ?_)
  rintro _ _ ⟨rfl, rfl⟩
  repeat (first | refine Zq ?_ | refine Zs ?_ | refine ZT ?_ | refine ZF ?_ | refine Zc ?_ | refine XO_gU (hk := ?_))
  refine XO_call (ralloc_nil 1 1) (hk := ?_)
  rintro _ _ ⟨rfl, rfl⟩
  repeat (first | refine Zq ?_ | refine Zs ?_ | refine ZT ?_ | refine ZF ?_ | refine Zc ?_ | refine XO_gU (hk := ?_))
  refine XO_call m0_spec (hk := ?_)
  rintro _ _ ⟨rfl, rfl⟩
  repeat (first | refine Zq ?_ | refine Zs ?_ | refine ZT ?_ | refine ZF ?_ | refine Zc ?_ | refine XO_gU (hk := ?_))
  refine XO_call rrew_nil (hk := ?_)
  rintro _ _ ⟨rfl, rfl⟩
  repeat (first | refine Zq ?_ | refine Zs ?_ | refine ZT ?_ | refine ZF ?_ | refine Zc ?_ | refine XO_gU (hk := ?_))
  refine XO_call rreset_nil (hk := ?_)
  rintro _ _ ⟨rfl, rfl⟩
  repeat (first | refine Zq ?_ | refine Zs ?_ | refine ZT ?_ | refine ZF ?_ | refine Zc ?_ | refine XO_gU (hk := ?_))
  refine XO_call rmark_nil (hk := ?_)
  rintro _ _ ⟨rfl, rfl⟩
  repeat (first | refine Zq ?_ | refine Zs ?_ | refine ZT ?_ | refine ZF ?_ | refine Zc ?_ | refine XO_gU (hk := ?_))
  refine XO_call m0_spec (hk := ?_)
  rintro _ _ ⟨rfl, rfl⟩
  repeat (first | refine Zq ?_ | refine Zs ?_ | refine ZT ?_ | refine ZF ?_ | refine Zc ?_ | refine XO_gU (hk := ?_))
  refine XO_pv (pv_eqRec [0, 0, 0, 0, 0] [0, 0, 0, 0, 0]) (hk := ?_)
  repeat (first | refine Zq ?_ | refine Zs ?_ | refine ZT ?_ | refine ZF ?_ | refine Zc ?_ | refine XO_gU (hk := ?_))
  refine XO_call rmeter_nil (hk := ?_)
  rintro _ _ ⟨rfl, rfl⟩
  repeat (first | refine Zq ?_ | refine Zs ?_ | refine ZT ?_ | refine ZF ?_ | refine Zc ?_ | refine XO_gU (hk := ?_))
  refine XO_pv (pv_eqRec [0, 0, 0, 0, 0, 0, 0, 0] [0, 0, 0, 0, 0, 0, 0, 0]) (hk := ?_)
  repeat (first | refine Zq ?_ | refine Zs ?_ | refine ZT ?_ | refine ZF ?_ | refine Zc ?_ | refine XO_gU (hk := ?_))
  refine XO_call (rfits_nil 1 1) (hk := ?_)
  rintro _ _ ⟨rfl, rfl⟩
  repeat (first | refine Zq ?_ | refine Zs ?_ | refine ZT ?_ | refine ZF ?_ | refine Zc ?_ | refine XO_gU (hk := ?_))
  refine XE_ret (.inl rfl) (tells_tmps rfl rfl) ⟨_, ⟨rfl, rfl⟩, (by simp only [List.cons_append, List.nil_append]; refine ent_take (by (repeat (first | exact Find.here | apply Find.there))) ?_; repeat (first | exact ent_refl | refine ent_drop ?_))⟩
end Go.Proofs.YtmndddegnfbaaaaGreat.Sep
