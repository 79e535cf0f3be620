import Derived.Test.YtmndddegnfbaaaaBn12
/- The law Law15L: it answers true whatever it is given, and what was there stays. No conditions. -/
namespace Go.Proofs.Ytmndddegnfbaaaa.Sep
open Go.RowKit
set_option linter.unusedSimpArgs false
set_option linter.unusedVariables false
/-! what needs more than 64 pages -/
theorem al2_first (k : Int) (h : 0 ≤ k) : 32 + (-32) % al2 k = if al2 k < 32 then 32 else al2 k := by
  have key : ∀ j : Fin 13, (32 : Int) + (-32) % ((2 ^ j.val : Nat) : Int) = if ((2 ^ j.val : Nat) : Int) < 32 then 32 else ((2 ^ j.val : Nat) : Int) := by decide
  exact key ⟨(k % 13).toNat, by omega⟩
/-- What fits is shorter than its chunk. -/
theorem fit_small {P : Int} {B : Nat} {o : Int} {C : Co} {m : Int → Int} {s : Sh} {oth : List (Int × Hd)} {size align : Int} {q : Int × Int × Int} (hR : RInv P B o C m s oth) (h0 : 0 < size) (h2 : 0 < align) (hf : fitI (topAt s) (topEnd s) size align = some q) : size < 64 * 4096 := by
  have htb := top_bd hR.S.ok
  obtain ⟨f1, f2, f3, f4, f5, f6, f7, f8⟩ := fit_some htb.1 h2 (by omega) hf
  by_cases hn : s.parts = []
  · have : topEnd s = 0 := by unfold topEnd; rw [hn]; rfl
    omega
  · obtain ⟨c1, c2, c3⟩ := hR.cur hn
    unfold PtOk at c3
    unfold RunOk runP at c2
    unfold topAt topEnd at *
    simp only at c2
    omega
theorem tot_snoc (l : List (Int × Int)) (r : Int × Int) : totI (l ++ [r]) = totI l + r.2 := by rw [tot_append]; simp [totI]
theorem large_free {C : Co} {m : Int → Int} {got : List (Int × Hd)} {n pg : Int} (h : KInv C m got) (hn : 64 < n) (hz : (getC C n).2 = (pg, 0)) : totI C.fr ≤ totI (putC (getC C n).1 (pg, n)).fr := by
  rw [put_big hn]
  have hc := class_big hn
  obtain ⟨g1, g2, g3, -⟩ := get_inv h.ci h.le (n := n) (by omega) (by rw [hc]; omega)
  obtain ⟨r1, r2, r3⟩ := g3 (by rw [hz])
  rw [hz] at r1 r2
  simp only at r1 r2
  obtain ⟨-, t2⟩ := give_inv (r := (pg, n)) g1.ok (by rw [g2]; exact r1) (fun x => by
    have a1 := r2 x
    have a2 := h.le x
    have a3 := cnt_nn x (kall (getC C n).1.ks 7)
    have a4 : cC x (getC C n).1 = cnt x (getC C n).1.fr + cnt x (kall (getC C n).1.ks 7) := rfl
    omega)
  rw [t2]
  have hks : (getC C n).1.ks = C.ks ∨ (getC C n).1.ks = fun _ => [] := by
    unfold getC
    rw [if_neg (by rw [hc]; omega)]
    split
    · split
      · right; rw [(takeC_P _ _).2]; rfl
      · right; rfl
    · left; rw [(takeC_P _ _).2]
  have hk0 : 0 ≤ totI (kall C.ks 7) := by
    have := tot_le (l := kall C.ks 7) (fun q hq => (kall_bd h.ci.ok hq).2.2)
    omega
  have hkk : totI (kall (getC C n).1.ks 7) ≤ totI (kall C.ks 7) := by
    rcases hks with e | e <;> rw [e]
    · exact Int.le_refl _
    · rw [kall_nil]; exact hk0
  unfold tC at r3
  show _ ≤ _ + n
  omega
set_option maxHeartbeats 8000000
attribute [local irreducible] X XE XO XD XDi XDa PV RV DV pt base Spec Sl Mp Keeps Pg Kc Pgs Spc Ck XL XLi Pl Rs Rg View
theorem large15 (a0 : Option Addr) (c0 : Nat) (xs : List A15) (pages k : Int) (hok : ∀ x ∈ xs, OkA x) (hl1 : xs.length ≤ maxLen) (hpg : 0 ≤ pages ∧ pages ≤ 255) (hk : 0 ≤ k ∧ k ≤ 255) (W : World) (V1 : View (base W) eAct a0 xs) :
    Calls Try.prog 10 #[.slice a0 xs.length c0, .int .u8 pages, .int .u8 k] W fun e w' => e = .returned (.bool true) ∧ Below W.heap.size W w' := by
  refine law_intro (args := [.slice a0 xs.length c0, .int .u8 pages, .int .u8 k]) Try.func10 rfl Try.ntmps10 (by simp) ?_
  simp only [envOf, List.zipIdx, List.map, List.cons_append, List.nil_append, Nat.zero_add, Nat.reduceAdd]
  repeat (first | refine Zq ?_ | refine Zs ?_ | refine ZT ?_ | refine ZF ?_ | refine Zc ?_ | refine XO_gU (hk := ?_))
  refine XO_call awake15_spec (hk := ?_)
  rintro _ _ ⟨rfl, rfl⟩
  repeat (first | refine Zq ?_ | refine Zs ?_ | refine ZT ?_ | refine ZF ?_ | refine Zc ?_ | refine XO_gU (hk := ?_))
  refine X_cond rfl (fun h => by cases h) (fun _ => ?_)
  repeat (first | refine Zq ?_ | refine Zs ?_ | refine ZT ?_ | refine ZF ?_ | refine Zc ?_ | refine XO_gU (hk := ?_))
  refine X_cond rfl (fun h3 => ?_) (fun h3 => ?_) <;> simp only [decide_eq_true_eq, decide_eq_false_iff_not] at h3
  · repeat (first | refine Zq ?_ | refine Zs ?_ | refine ZT ?_ | refine ZF ?_ | refine Zc ?_ | refine XO_gU (hk := ?_))
    refine XE_ret (.inl rfl) (tells_tmps rfl rfl) ⟨_, ⟨rfl, rfl⟩, by ((try simp only [List.cons_append, List.nil_append]); repeat (first | exact ent_refl | refine ent_take (by repeat (first | exact Find.here | apply Find.there)) ?_ | refine ent_drop ?_))⟩
  repeat (first | refine Zq ?_ | refine Zs ?_ | refine ZT ?_ | refine ZF ?_ | refine Zc ?_ | refine XO_gU (hk := ?_))
  refine XO_call (knew_spec 9000) (hk := ?_)
  rintro _ _ ⟨s, sb, rfl, rfl⟩
  have hr0 : RInv 9000 0 3 ⟨9000, [(0, 9000)], fun _ => [], 0⟩ (⟨fun _ => 0, 0⟩ : Mm).f emptySh [] := emptyInv (by decide) (by decide) 3
  generalize hm0 : (⟨fun _ => 0, 0⟩ : Mm) = m0 at hr0 ⊢
  repeat (first | refine Zq ?_ | refine Zs ?_ | refine ZT ?_ | refine ZF ?_ | refine Zc ?_ | refine XO_gU (hk := ?_))
  refine XO_call (rnew_spec s 3) (hk := ?_)
  rintro _ _ ⟨r, rfl, rfl⟩
  repeat (first | refine Zq ?_ | refine Zs ?_ | refine ZT ?_ | refine ZF ?_ | refine Zc ?_ | refine XO_gU (hk := ?_))
  refine XO_call (play_spec r s sb (base W) a0 c0 xs V1 hok (by omega) (by decide) (fun _ _ _ _ => True) (fun _ _ _ _ _ _ _ _ _ _ _ _ _ _ _ _ => trivial) hr0 trivial) (hk := ?_)
  rintro _ _ ⟨rfl, C, m, S, hR, -, rfl⟩
  clear hr0
  have hlen := hR.len
  have hPb := hR.P1
  have hbd := hR.bd
  have htb := top_bd hR.S.ok
  have hml : (S.parts.map runP).length = S.parts.length := List.length_map ..
  have ht0 := tot_bd0 hbd.1 (by omega)
  have ht1 := tot_bd0 hbd.2 hlen.2
  have hab := al2_bd hk.1
  repeat (first | refine Zq ?_ | refine Zs ?_ | refine ZT ?_ | refine ZF ?_ | refine Zc ?_ | refine XO_gU (hk := ?_))
  refine XO_call (rmark_spec r s 3 S hlen.1 hlen.2) (hk := ?_)
  rintro _ _ ⟨rfl, rfl⟩
  repeat (first | refine Zq ?_ | refine Zs ?_ | refine ZT ?_ | refine ZF ?_ | refine Zc ?_ | refine XO_gU (hk := ?_))
  refine XO_dv (dv_alloc (row := [.int .i64 0, .int .i64 0, .int .u64 0, .int .u64 0, .int .u64 0])) (hk := ?_)
  rintro _ _ ⟨kb, rfl, rfl⟩
  refine XO_dv0 (dv_storeW (vs := [.int .i64 (S.parts.length : Int), .int .i64 (S.larges.length : Int), .int .u64 (topAt S), .int .u64 S.obj, .int .u64 S.pad])) (hk := ?_)
  rintro _ _ rfl
  repeat (first | refine Zq ?_ | refine Zs ?_ | refine ZT ?_ | refine ZF ?_ | refine Zc ?_ | refine XO_gU (hk := ?_))
  refine XO_call (rmeter_spec r s 3 S hlen.1 hlen.2 hbd.1 hbd.2) (hk := ?_)
  rintro _ _ ⟨rfl, rfl⟩
  repeat (first | refine Zq ?_ | refine Zs ?_ | refine ZT ?_ | refine ZF ?_ | refine Zc ?_ | refine XO_gU (hk := ?_))
  refine XO_dv (dv_alloc (row := [.int .i64 0, .int .i64 0, .int .i64 0, .int .i64 0, .int .u64 0, .int .u64 0, .int .u64 0, .int .u64 0])) (hk := ?_)
  rintro _ _ ⟨mb, rfl, rfl⟩
  refine XO_dv0 (dv_storeW (vs := [.int .i64 (shPages S), .int .i64 0, .int .i64 0, .int .i64 0, .int .u64 S.obj, .int .u64 S.pad, .int .u64 (shHdr S), .int .u64 (IntKind.u64.wrap (shPages S * 4096 - shHdr S - S.obj - S.pad))])) (hk := ?_)
  rintro _ _ rfl
  repeat (first | refine Zq ?_ | refine Zs ?_ | refine ZT ?_ | refine ZF ?_ | refine Zc ?_ | refine XO_gU (hk := ?_))
  refine XO_call (kfree_spec s sb C hR.K.ci.ok) (hk := ?_)
  rintro _ _ ⟨rfl, rfl⟩
  repeat (first | refine Zq ?_ | refine Zs ?_ | refine ZT ?_ | refine ZF ?_ | refine Zc ?_ | refine XO_gU (hk := ?_))
  refine XO_pv (pv_shlN (b := k % 13) (hw := al2_shl hk.1)) (hk := ?_)
  repeat (first | refine Zq ?_ | refine Zs ?_ | refine ZT ?_ | refine ZF ?_ | refine Zc ?_ | refine XO_gU (hk := ?_))
  obtain ⟨C', m', S', at_, e, har⟩ := AR.ex 9000 C m S 3 ((pages + 64) * 4096) (al2 k)
  have s1 := ralloc_spec r s sb hR (by decide) (by omega) (by omega) (by omega) (by omega) har
  have hR' := har.inv hR (by decide) (by omega) (by omega) (by omega)
  have hg' := har.grow hR (by decide) (by omega) (by omega) (by omega) (Grow.refl S)
  refine XO_call s1 (hk := ?_)
  rintro _ _ ⟨rfl, rfl⟩
  cases har with
  | bad hb => exact absurd hb (al2_good hk.1 (by omega))
  | fit q hb hf =>
    exfalso
    have := fit_small hR (by omega) (by omega) hf
    omega
  | huge hb hf hc =>
    repeat (first | refine Zq ?_ | refine Zs ?_ | refine ZT ?_ | refine ZF ?_ | refine Zc ?_ | refine XO_gU (hk := ?_))
    refine X_cond rfl (fun _ => ?_) (fun h => by cases h)
    repeat (first | refine Zq ?_ | refine Zs ?_ | refine ZT ?_ | refine ZF ?_ | refine Zc ?_ | refine XO_gU (hk := ?_))
    refine XE_ret (.inl rfl) (tells_tmps rfl rfl) ⟨_, ⟨rfl, rfl⟩, by ((try simp only [List.cons_append, List.nil_append]); repeat (first | exact ent_refl | refine ent_take (by repeat (first | exact Find.here | apply Find.there)) ?_ | refine ent_drop ?_))⟩
  | full n big hb hf hc hz =>
    repeat (first | refine Zq ?_ | refine Zs ?_ | refine ZT ?_ | refine ZF ?_ | refine Zc ?_ | refine XO_gU (hk := ?_))
    refine X_cond rfl (fun _ => ?_) (fun h => by cases h)
    repeat (first | refine Zq ?_ | refine Zs ?_ | refine ZT ?_ | refine ZF ?_ | refine Zc ?_ | refine XO_gU (hk := ?_))
    refine XE_ret (.inl rfl) (tells_tmps rfl rfl) ⟨_, ⟨rfl, rfl⟩, by ((try simp only [List.cons_append, List.nil_append]); repeat (first | exact ent_refl | refine ent_take (by repeat (first | exact Find.here | apply Find.there)) ?_ | refine ent_drop ?_))⟩
  | part n pg hb hf hc hz =>
    exfalso
    obtain ⟨r1, r2, r3, r4, r5⟩ := rnd_chunk (by omega) (by omega) hc
    have hr : RunOk 9000 (pg, n) := by
      have := get_hr hR.K n 0 3 (by decide) r2 (by rw [r1, hz])
      rw [r1, hz, hR.hP] at this
      exact this
    obtain ⟨-, f2, f3, f4⟩ := chunk_fit (by omega) (by omega) (by omega) hb hc (by decide) hr
    rw [if_neg (by simp)] at f4
    omega
  | big n pg hb hf hc hz =>
    obtain ⟨r1, r2, r3, r4, r5⟩ := rnd_chunk (by omega) (by omega) hc
    have hr : RunOk 9000 (pg, n) := by
      have := get_hr hR.K n 1 3 (by decide) r3 (by rw [r1, hz])
      rw [r1, hz, hR.hP] at this
      exact this
    obtain ⟨-, f2, f3, f4⟩ := chunk_fit (by omega) (by omega) (by omega) hb hc (by decide) hr
    rw [if_pos rfl] at f4
    have hfst := al2_first k hk.1
    have hn : n = pages + 65 := by
      split at hfst <;> omega
    unfold RunOk at hr
    simp only at hr
    have hlen' := hR'.len
    have hbd' := hR'.bd
    obtain ⟨hfit, hback⟩ := grow_fits hg' hR.curOk
    have hsp : shPages ⟨S.parts, S.larges ++ [(pg, n)], IntKind.u64.wrap (S.obj + (pages + 64) * 4096), IntKind.u64.wrap (S.pad + (-32) % al2 k)⟩ = shPages S + n := by
      unfold shPages; simp only; rw [tot_snoc]; omega
    have htop : topAt ⟨S.parts, S.larges ++ [(pg, n)], IntKind.u64.wrap (S.obj + (pages + 64) * 4096), IntKind.u64.wrap (S.pad + (-32) % al2 k)⟩ = topAt S := rfl
    have hspb : 0 ≤ shPages S ∧ shPages S ≤ 2199023255552 := by unfold shPages; omega
    have hs4 := rrew_ok r s sb (ob := S.obj) (pd := S.pad) hR' hfit htb.1 htb.2.1
    have hr4 := rew_inv (ob := S.obj) (pd := S.pad) hR' hfit htb.1 hR.S.ok.obj hR.S.ok.pad
    rw [hback] at hs4 hr4
    repeat (first | refine Zq ?_ | refine Zs ?_ | refine ZT ?_ | refine ZF ?_ | refine Zc ?_ | refine XO_gU (hk := ?_))
    refine X_cond rfl (fun h => by cases h) (fun _ => ?_)
    repeat (first | refine Zq ?_ | refine Zs ?_ | refine ZT ?_ | refine ZF ?_ | refine Zc ?_ | refine XO_gU (hk := ?_))
    refine XO_call (rmark_spec r s 3 _ hlen'.1 hlen'.2) (hk := ?_)
    rintro _ _ ⟨rfl, rfl⟩
    repeat (first | refine Zq ?_ | refine Zs ?_ | refine ZT ?_ | refine ZF ?_ | refine Zc ?_ | refine XO_gU (hk := ?_))
    refine XO_dv (dv_alloc (row := [.int .i64 0, .int .i64 0, .int .u64 0, .int .u64 0, .int .u64 0])) (hk := ?_)
    rintro _ _ ⟨kb2, rfl, rfl⟩
    refine XO_dv0 (dv_storeW (vs := [.int .i64 (S.parts.length : Int), .int .i64 ((S.larges ++ [(pg, n)]).length : Int), .int .u64 (topAt S), .int .u64 (IntKind.u64.wrap (S.obj + (pages + 64) * 4096)), .int .u64 (IntKind.u64.wrap (S.pad + (-32) % al2 k))])) (hk := ?_)
    rintro _ _ rfl
    repeat (first | refine Zq ?_ | refine Zs ?_ | refine ZT ?_ | refine ZF ?_ | refine Zc ?_ | refine XO_gU (hk := ?_))
    repeat (first | refine XD_pick (h := ?_) | refine Dq ?_ | refine Ds ?_ | refine XDi_gF (h := ?_) | refine XDi_gU (h := ?_) | refine X_draws (h := ?_))
    refine XD_one (h := ?_)
    have hm2 := rmeter_spec r s 3 _ hlen'.1 hlen'.2 hbd'.1 hbd'.2
    unfold meterV at hm2
    rw [hsp] at hm2
    refine XDa_dvA (dv_call hm2) (hk := ?_)
    (rintro _ _ ⟨_, ⟨rfl, rfl⟩, rfl⟩; refine ⟨by (repeat (first | exact keeps_nil | exact keeps_fnil | refine keeps_skip (h := ?_) | refine keeps_takeQ (h := ?_))), ?_⟩)
    repeat (first | refine XD_pick (h := ?_) | refine Dq ?_ | refine Ds ?_ | refine XDi_gF (h := ?_) | refine XDi_gU (h := ?_) | refine X_draws (h := ?_))
    refine XDi_pvA (pv_fieldV (v := .int .i64 (shPages S + n))) (h := ?_)
    repeat (first | refine XD_pick (h := ?_) | refine Dq ?_ | refine Ds ?_ | refine XDi_gF (h := ?_) | refine XDi_gU (h := ?_) | refine X_draws (h := ?_))
    (refine XD_one (h := ?_); refine XDa_dvA (dv_of_rv (rv_of_pv pv_assign)) (hk := ?_); rintro _ _ ⟨rfl, rfl⟩; refine ⟨by (repeat (first | exact keeps_nil | exact keeps_fnil | refine keeps_skip (h := ?_) | refine keeps_takeQ (h := ?_))), ?_⟩)
    (refine XD_end (h := ?_); repeat (first | refine Zq ?_ | refine Zs ?_ | refine ZT ?_ | refine ZF ?_ | refine Zc ?_ | refine XO_gU (hk := ?_)))
    generalize hS2 : (⟨S.parts, S.larges ++ [(pg, n)], IntKind.u64.wrap (S.obj + (pages + 64) * 4096), IntKind.u64.wrap (S.pad + (-32) % al2 k)⟩ : Sh) = S2 at *
    have hll : ((S.larges ++ [(pg, n)]).length : Int) = (S.larges.length : Int) + 1 := by simp
    have hkey : (pg * 4096 + 32 + (-32) % al2 k) % 4096 = (if al2 k < 32 then 32 else al2 k) % 4096 := by omega
    have hputs : putsC (getC C n).1 S2 S.parts.length S.larges.length = putC (getC C n).1 (pg, n) := by
      rw [← hS2]; unfold putsC
      simp only [Int.toNat_natCast]
      rw [List.drop_left, List.drop_of_length_le (l := S.parts.map runP) (by simp)]
      rfl
    have hfr := large_free hR.K (by omega) hz
    rw [hputs] at hs4 hr4
    generalize hm1 : zzM (pushM 9000 m 1 3 (lastL 0 S.larges) pg n) (pg * 4096 + 32) (n * 4096 - 32) = m1 at *
    generalize hC4 : putC (getC C n).1 (pg, n) = C4 at *
    generalize (getC C n).1 = C1 at *
    generalize rewM 9000 m1 S2 S.parts.length S.larges.length (topAt S) = m4 at *
    generalize hq : (if al2 k < 32 then 32 else al2 k) = al at hkey
    have hbd4 := hr4.bd
    refine X_join (ι := Unit) (fun _ => True) (fun _ => [(8, .pointer (some ⟨s, 0, none⟩)), (9, .pointer (some ⟨r, 0, none⟩)), (10, .pointer (some ⟨kb, 0, none⟩)), (11, .pointer (some ⟨mb, 0, none⟩)), (12, .int .i64 (totI C.fr)), (14, .int .u64 (pages + 64)), (16, .int .u64 (pg * 4096 + 32 + (-32) % al2 k)), (17, .int .i64 0), (18, .pointer (some ⟨kb2, 0, none⟩)), (19, .int .i64 (shPages S + n - shPages S)), (20, .int .u64 al)])
      (fun _ => [Rg r s 3 S2, pt kb2 (.cells [.int .i64 (S.parts.length : Int), .int .i64 ((S.larges ++ [(pg, n)]).length : Int), .int .u64 (topAt S), .int .u64 (IntKind.u64.wrap (S.obj + (pages + 64) * 4096)), .int .u64 (IntKind.u64.wrap (S.pad + (-32) % al2 k))].toArray 59 (0, 0)), Ck s sb C1, Spc sb 9000 m1,
        pt mb (.cells [.int .i64 (shPages S), .int .i64 0, .int .i64 0, .int .i64 0, .int .u64 S.obj, .int .u64 S.pad, .int .u64 (shHdr S), .int .u64 (IntKind.u64.wrap (shPages S * 4096 - shHdr S - S.obj - S.pad))].toArray 67 (0, 0)),
        pt kb (.cells [.int .i64 (S.parts.length : Int), .int .i64 (S.larges.length : Int), .int .u64 (topAt S), .int .u64 S.obj, .int .u64 S.pad].toArray 59 (0, 0)), base W]) ?_ ?_
    · refine X_cond rfl (fun h5 => ?_) (fun h5 => ?_) <;> simp only [decide_eq_true_eq, decide_eq_false_iff_not] at h5
      · rw [if_pos h5] at hq
        subst hq
        repeat (first | refine Zq ?_ | refine Zs ?_ | refine ZT ?_ | refine ZF ?_ | refine Zc ?_ | refine XO_gU (hk := ?_))
        exact X_meet () trivial (by (repeat (first | exact Env.sub_nil _ | refine Env.sub_cons rfl ?_))) (by ((try simp only [List.cons_append, List.nil_append]); repeat (first | exact ent_refl | refine ent_take (by repeat (first | exact Find.here | apply Find.there)) ?_ | refine ent_drop ?_)))
      · rw [if_neg h5] at hq
        subst hq
        repeat (first | refine Zq ?_ | refine Zs ?_ | refine ZT ?_ | refine ZF ?_ | refine Zc ?_ | refine XO_gU (hk := ?_))
        exact X_meet () trivial (by (repeat (first | exact Env.sub_nil _ | refine Env.sub_cons rfl ?_))) (by ((try simp only [List.cons_append, List.nil_append]); repeat (first | exact ent_refl | refine ent_take (by repeat (first | exact Find.here | apply Find.there)) ?_ | refine ent_drop ?_)))
    rintro ⟨⟩ -
    have halb : 0 ≤ al := by rw [← hq]; split <;> omega
    repeat (first | refine Zq ?_ | refine Zs ?_ | refine ZT ?_ | refine ZF ?_ | refine Zc ?_ | refine XO_gU (hk := ?_))
    refine XO_known false (hb := by simp) (hk := ?_)
    repeat (first | refine Zq ?_ | refine Zs ?_ | refine ZT ?_ | refine ZF ?_ | refine Zc ?_ | refine XO_gU (hk := ?_))
    refine XO_known false (hb := by simp) (hk := ?_)
    repeat (first | refine Zq ?_ | refine Zs ?_ | refine ZT ?_ | refine ZF ?_ | refine Zc ?_ | refine XO_gU (hk := ?_))
    refine XO_known false (hb := by simp [hll]) (hk := ?_)
    repeat (first | refine Zq ?_ | refine Zs ?_ | refine ZT ?_ | refine ZF ?_ | refine Zc ?_ | refine XO_gU (hk := ?_))
    refine XO_known false (hb := by simp [hkey]) (hk := ?_)
    repeat (first | refine Zq ?_ | refine Zs ?_ | refine ZT ?_ | refine ZF ?_ | refine Zc ?_ | refine XO_gU (hk := ?_))
    refine X_cond rfl (fun h5 => ?_) (fun _ => ?_)
    · exfalso
      simp only [bne_iff_ne, ne_eq] at h5
      omega
    repeat (first | refine Zq ?_ | refine Zs ?_ | refine ZT ?_ | refine ZF ?_ | refine Zc ?_ | refine XO_gU (hk := ?_))
    repeat (first | refine XD_pick (h := ?_) | refine Dq ?_ | refine Ds ?_ | refine XDi_gF (h := ?_) | refine XDi_gU (h := ?_) | refine X_draws (h := ?_))
    refine XD_one (h := ?_)
    refine XDa_dvA (dv_call hs4) (hk := ?_)
    (rintro _ _ ⟨_, ⟨rfl, rfl⟩, rfl⟩; refine ⟨by (repeat (first | exact keeps_nil | exact keeps_fnil | refine keeps_skip (h := ?_) | refine keeps_takeQ (h := ?_))), ?_⟩)
    repeat (first | refine XD_pick (h := ?_) | refine Dq ?_ | refine Ds ?_ | refine XDi_gF (h := ?_) | refine XDi_gU (h := ?_) | refine X_draws (h := ?_))
    refine XD_one (h := ?_)
    refine XDa_dvA (dv_call (rmeter_spec r s 3 S hlen.1 hlen.2 hbd4.1 hbd4.2)) (hk := ?_)
    (rintro _ _ ⟨_, ⟨rfl, rfl⟩, rfl⟩; refine ⟨by (repeat (first | exact keeps_nil | exact keeps_fnil | refine keeps_skip (h := ?_) | refine keeps_takeQ (h := ?_))), ?_⟩)
    repeat (first | refine XD_pick (h := ?_) | refine Dq ?_ | refine Ds ?_ | refine XDi_gF (h := ?_) | refine XDi_gU (h := ?_) | refine X_draws (h := ?_))
    refine Dp (pv_neRec [shPages S, 0, 0, 0, S.obj, S.pad, shHdr S, IntKind.u64.wrap (shPages S * 4096 - shHdr S - S.obj - S.pad)] [shPages S, 0, 0, 0, S.obj, S.pad, shHdr S, IntKind.u64.wrap (shPages S * 4096 - shHdr S - S.obj - S.pad)]) ?_
    repeat (first | refine XD_pick (h := ?_) | refine Dq ?_ | refine Ds ?_ | refine XDi_gF (h := ?_) | refine XDi_gU (h := ?_) | refine X_draws (h := ?_))
    (refine XD_end (h := ?_); repeat (first | refine Zq ?_ | refine Zs ?_ | refine ZT ?_ | refine ZF ?_ | refine Zc ?_ | refine XO_gU (hk := ?_)))
    refine X_cond rfl (fun h5 => ?_) (fun _ => ?_)
    · exfalso
      simp at h5
    repeat (first | refine Zq ?_ | refine Zs ?_ | refine ZT ?_ | refine ZF ?_ | refine Zc ?_ | refine XO_gU (hk := ?_))
    refine XO_call (kfree_spec s sb C4 hr4.K.ci.ok) (hk := ?_)
    rintro _ _ ⟨rfl, rfl⟩
    repeat (first | refine Zq ?_ | refine Zs ?_ | refine ZT ?_ | refine ZF ?_ | refine Zc ?_ | refine XO_gU (hk := ?_))
    refine XE_ret (.inl rfl) (tells_tmps rfl rfl) ⟨_, ⟨?_, rfl⟩, by ((try simp only [List.cons_append, List.nil_append]); repeat (first | exact ent_refl | refine ent_take (by repeat (first | exact Find.here | apply Find.there)) ?_ | refine ent_drop ?_))⟩
    exact congrArg Value.bool (decide_eq_true hfr)
end Go.Proofs.Ytmndddegnfbaaaa.Sep
