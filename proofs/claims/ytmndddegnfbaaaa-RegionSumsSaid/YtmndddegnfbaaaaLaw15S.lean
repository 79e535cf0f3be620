import Derived.Test.YtmndddegnfbaaaaBn12
/- The law Law15S: it answers true whatever it is given, and what was there stays. No conditions. -/
namespace Go.Proofs.Ytmndddegnfbaaaa.Sep
open Go.RowKit
set_option linter.unusedSimpArgs false
set_option linter.unusedVariables false
/-! objects are the sum of sizes -/
/-- What was made, one behind the other, where there is always room. -/
structure SumS (C : Co) (S : Sh) (i : Nat) : Prop where
  hw : HW C (32 * (i : Int))
  nl : S.larges = []
theorem sum_step {C C' : Co} {m m' : Mm} {S S' : Sh} {B i : Nat} {size k at_ e : Int} (hR : RInv 4000 B 1 C m.f S []) (hi : i ≤ 40) (h0 : 1 ≤ size) (h1 : size ≤ 65536) (hk : 0 ≤ k) (hs : SumS C S i) (h : AR 4000 C m S 1 size (al2 k) C' m' S' at_ e) :
    e = 0 ∧ SumS C' S' (i + 1) ∧ S'.obj = IntKind.u64.wrap (S.obj + size) ∧ topAt S' = at_ + size ∧ 0 ≤ at_ ∧ at_ ≤ 18446744073709486079 ∧
      ((S'.parts.length = S.parts.length ∧ topAt S ≤ at_ ∧ S'.pad = IntKind.u64.wrap (S.pad + (at_ - topAt S))) ∨
       (S'.parts.length = S.parts.length + 1 ∧ ∃ l pg n, S'.parts.map runP = l ++ [(pg, n)] ∧ 0 ≤ pg ∧ pg ≤ 4000 ∧ pg * 4096 + 32 ≤ at_ ∧ S'.pad = IntKind.u64.wrap (S.pad + (at_ - (pg * 4096 + 32))))) := by
  have hab := al2_bd hk
  have hb := al2_good hk (size := size) (by omega)
  have key : ∀ n big, chunkI size (al2 k) = (n, big, true) → 1 ≤ n ∧ n ≤ 32 ∧ (getC C n).2.2 = 0 ∧ HW (getC C n).1 (32 * ((i + 1 : Nat) : Int)) ∧ big = false := fun n big hc => by
    obtain ⟨r1, r2, r3, r4, r5⟩ := rnd_chunk (by omega) (by omega) hc
    have hnb : n ≤ 32 ∧ big = false := by
      unfold chunkI at hc
      cases hn : needI size (al2 k) with
      | none => rw [hn] at hc; cases hc
      | some q =>
        rw [hn] at hc
        have hq : q ≤ 18 := by
          unfold needI at hn
          rw [if_neg (by omega)] at hn
          cases hu : upI 32 (al2 k) with
          | none => rw [hu] at hn; cases hn
          | some f =>
            obtain ⟨u1, u2, u3, u4, u5⟩ := upI_le (by decide) (by omega) hu
            rw [hu, Option.bind_some] at hn
            cases ha : addI f size with
            | none => rw [ha] at hn; cases hn
            | some s =>
              obtain ⟨rfl, a2⟩ := add_le ha
              rw [ha, Option.map_some] at hn
              obtain rfl := Option.some.inj hn
              omega
        have hq0 := (need_le (by omega) (by omega) hn).1
        simp only at hc
        rw [if_neg (by omega), if_neg (by omega)] at hc
        injection hc with hc1 hc2
        injection hc2 with hc2 hc3
        refine ⟨?_, hc2.symm⟩
        rw [← hc1]
        have h5 := (rnd_ok (p := q) (by omega) (by omega)).2.2.2.2.2 (by omega)
        have h6 : cpages (cclass q) ≤ rnd q := by unfold rnd; omega
        have h7 : cclass q ≤ 5 := by unfold cclass; repeat' split
                                     all_goals omega
        unfold cpages
        split
        · have : 2 ^ (cclass q).toNat ≤ 2 ^ 5 := Nat.pow_le_pow_right (by decide) (by omega)
          omega
        · omega
    obtain ⟨z1, z2⟩ := hw_get hR.K hs.hw (by omega) r4 (by rw [hR.hP]; omega)
    exact ⟨r4, hnb.1, z1, z2.up (by omega), hnb.2⟩
  cases h with
  | bad hb' => exact absurd hb' hb
  | fit q _ hf =>
    have htb := top_bd hR.S.ok
    obtain ⟨f1, f2, f3, f4, f5, f6, f7, f8⟩ := fit_some htb.1 (by omega) (by omega) hf
    have hn : S.parts ≠ [] := by
      intro hn
      have : topEnd S = 0 := by unfold topEnd; rw [hn]; rfl
      omega
    refine ⟨rfl, ⟨hs.hw.up (by omega), hs.nl⟩, rfl, ?_, by omega, ?_, .inl ⟨setLast_length _ _, f4, ?_⟩⟩
    · unfold topAt setTop
      simp only
      rw [lastP_setLast _ _ hn]
      exact f2
    · obtain ⟨c1, c2, c3⟩ := hR.cur hn
      unfold PtOk at c3
      unfold RunOk runP at c2
      simp only at c2
      have hte : topEnd S = (lastP S.parts).2.2.2 := rfl
      omega
    · show IntKind.u64.wrap (S.pad + q.2.2) = _
      rw [show q.2.2 = q.1 - topAt S from by omega]
  | huge _ hf hc =>
    exfalso
    unfold chunkI at hc
    cases hn : needI size (al2 k) with
    | none =>
      obtain ⟨g1, g2, g3, g4, g5⟩ := good_al (size := size) (by omega) (by omega) hb
      unfold needI at hn
      rw [if_neg (by omega)] at hn
      have e1 := Int.emod_nonneg (-32) (show al2 k ≠ 0 by omega)
      have e2 := Int.emod_lt_of_pos (-32) g3
      have hu : upI 32 (al2 k) = some (32 + (-32) % al2 k) := by unfold upI addI; rw [if_pos g2, if_pos (by omega)]
      rw [hu, Option.bind_some] at hn
      unfold addI at hn
      rw [if_pos (by omega)] at hn
      cases hn
    | some q =>
      rw [hn] at hc
      have hq : q ≤ 18 := by
        unfold needI at hn
        rw [if_neg (by omega)] at hn
        cases hu : upI 32 (al2 k) with
        | none => rw [hu] at hn; cases hn
        | some f =>
          obtain ⟨u1, u2, u3, u4, u5⟩ := upI_le (by decide) (by omega) hu
          rw [hu, Option.bind_some] at hn
          cases ha : addI f size with
          | none => rw [ha] at hn; cases hn
          | some s =>
            obtain ⟨rfl, a2⟩ := add_le ha
            rw [ha, Option.map_some] at hn
            obtain rfl := Option.some.inj hn
            omega
      simp only at hc
      rw [if_neg (by omega), if_neg (by omega)] at hc
      cases hc
  | full n big _ hf hc hz => exact absurd (key n big hc).2.2.1 hz
  | big n pg _ hf hc hz => have := (key n true hc).2.2.2.2; cases this
  | part n pg _ hf hc hz =>
    obtain ⟨k1, k2, k3, k4, -⟩ := key n false hc
    obtain ⟨r1, r2, r3, r4, r5⟩ := rnd_chunk (by omega) (by omega) hc
    have hr : RunOk 4000 (pg, n) := by
      have := get_hr hR.K n 0 1 (by decide) r2 (by rw [r1, hz])
      rw [r1, hz, hR.hP] at this
      exact this
    unfold RunOk at hr
    simp only at hr
    have e1 := Int.emod_nonneg (-32) (show al2 k ≠ 0 by omega)
    have e2 := Int.emod_lt_of_pos (-32) (show 0 < al2 k by omega)
    refine ⟨rfl, ⟨k4, hs.nl⟩, rfl, ?_, by omega, by omega, .inr ⟨by simp, S.parts.map runP, pg, n, by simp [runP], hr.1, by omega, by omega, ?_⟩⟩
    · unfold topAt; simp only; rw [lastP_append]
    · show IntKind.u64.wrap _ = _
      congr 1; omega
set_option maxHeartbeats 8000000
attribute [local irreducible] X XE XO XD XDi XDa PV RV DV pt base Spec Sl Mp Keeps Pg Kc Pgs Spc Ck XL XLi Pl Rs Rg View
theorem sums15 (a0 : Option Addr) (c0 : Nat) (xs : List Int) (a1 : Option Addr) (c1 : Nat) (ys : List Int) (h1 : ∀ x ∈ xs, (Lit.int .u16 x).wf = true) (h2 : ∀ x ∈ ys, (Lit.int .u8 x).wf = true) (hl1 : xs.length ≤ maxLen) (hl2 : ys.length ≤ maxLen) (W : World) (V1 : View (base W) (eI .u16) a0 xs) (V2 : View (base W) (eI .u8) a1 ys) :
    Calls Try.prog 8 #[.slice a0 xs.length c0, .slice a1 ys.length c1] W fun e w' => e = .returned (.bool true) ∧ Below W.heap.size W w' := by
  refine law_intro (args := [.slice a0 xs.length c0, .slice a1 ys.length c1]) Try.func8 rfl Try.ntmps8 (by simp) ?_
  simp only [envOf, List.zipIdx, List.map, List.cons_append, List.nil_append, Nat.zero_add, Nat.reduceAdd]
  repeat (first | refine Zq ?_ | refine Zs ?_ | refine ZT ?_ | refine ZF ?_ | refine Zc ?_ | refine XO_gU (hk := ?_))
  refine XO_call awake15_spec (hk := ?_)
  rintro _ _ ⟨rfl, rfl⟩
  repeat (first | refine Zq ?_ | refine Zs ?_ | refine ZT ?_ | refine ZF ?_ | refine Zc ?_ | refine XO_gU (hk := ?_))
  refine X_cond rfl (fun h => by cases h) (fun _ => ?_)
  repeat (first | refine Zq ?_ | refine Zs ?_ | refine ZT ?_ | refine ZF ?_ | refine Zc ?_ | refine XO_gU (hk := ?_))
  refine XO_either (hT := fun h3 => ?_) (hF := fun h3 => ?_) <;> simp only [decide_eq_true_eq, decide_eq_false_iff_not] at h3
  · repeat (first | refine Zq ?_ | refine Zs ?_ | refine ZT ?_ | refine ZF ?_ | refine Zc ?_ | refine XO_gU (hk := ?_))
    refine X_cond rfl (fun _ => ?_) (fun h => by cases h)
    repeat (first | refine Zq ?_ | refine Zs ?_ | refine ZT ?_ | refine ZF ?_ | refine Zc ?_ | refine XO_gU (hk := ?_))
    refine XE_ret (.inl rfl) (tells_tmps rfl rfl) ⟨_, ⟨rfl, rfl⟩, by ((try simp only [List.cons_append, List.nil_append]); repeat (first | exact ent_refl | refine ent_take (by repeat (first | exact Find.here | apply Find.there)) ?_ | refine ent_drop ?_))⟩
  repeat (first | refine Zq ?_ | refine Zs ?_ | refine ZT ?_ | refine ZF ?_ | refine Zc ?_ | refine XO_gU (hk := ?_))
  refine X_cond rfl (fun h4 => ?_) (fun h4 => ?_) <;> simp only [beq_iff_eq, beq_eq_false_iff_ne, ne_eq] at h4
  · repeat (first | refine Zq ?_ | refine Zs ?_ | refine ZT ?_ | refine ZF ?_ | refine Zc ?_ | refine XO_gU (hk := ?_))
    refine XE_ret (.inl rfl) (tells_tmps rfl rfl) ⟨_, ⟨rfl, rfl⟩, by ((try simp only [List.cons_append, List.nil_append]); repeat (first | exact ent_refl | refine ent_take (by repeat (first | exact Find.here | apply Find.there)) ?_ | refine ent_drop ?_))⟩
  repeat (first | refine Zq ?_ | refine Zs ?_ | refine ZT ?_ | refine ZF ?_ | refine Zc ?_ | refine XO_gU (hk := ?_))
  refine XO_call (knew_spec 4000) (hk := ?_)
  rintro _ _ ⟨s, sb, rfl, rfl⟩
  have hr0 : RInv 4000 0 1 ⟨4000, [(0, 4000)], fun _ => [], 0⟩ (⟨fun _ => 0, 0⟩ : Mm).f emptySh [] := emptyInv (by decide) (by decide) 1
  generalize hm0 : (⟨fun _ => 0, 0⟩ : Mm) = m0 at hr0 ⊢
  repeat (first | refine Zq ?_ | refine Zs ?_ | refine ZT ?_ | refine ZF ?_ | refine Zc ?_ | refine XO_gU (hk := ?_))
  refine XO_call (rnew_spec s 1) (hk := ?_)
  rintro _ _ ⟨r, rfl, rfl⟩
  repeat (first | refine Zq ?_ | refine Zs ?_ | refine ZT ?_ | refine ZF ?_ | refine Zc ?_ | refine XO_gU (hk := ?_))
  refine X_loop (ι := Nat × Co × Mm × Sh) (fun z => z.1 ≤ xs.length ∧ RInv 4000 z.1 1 z.2.1 z.2.2.1.f z.2.2.2 [] ∧ SumS z.2.1 z.2.2.2 z.1)
    (fun z => [(0, .slice a0 xs.length c0), (1, .slice a1 ys.length c1), (6, .pointer (some ⟨r, 0, none⟩)), (7, .int .u64 z.2.2.2.obj), (8, .int .u64 z.2.2.2.pad), (9, .int .u64 (topAt z.2.2.2)), (10, .int .i64 (z.2.2.2.parts.length : Int)), (11, .int .i64 (z.1 : Int))])
    (fun z => [Rg r s 1 z.2.2.2, Ck s sb z.2.1, Spc sb 4000 z.2.2.1, base W]) (fun z => xs.length - z.1) (0, ⟨4000, [(0, 4000)], fun _ => [], 0⟩, m0, emptySh) ⟨Nat.zero_le _, hr0, ⟨hw_new 4000 _ _, rfl⟩⟩ ?_ (by ((try simp only [List.cons_append, List.nil_append]); repeat (first | exact ent_refl | refine ent_take (by repeat (first | exact Find.here | apply Find.there)) ?_ | refine ent_drop ?_))) ?_
  · (repeat (first | exact Env.sub_nil _ | refine Env.sub_cons rfl ?_))
  clear hr0
  rintro ⟨i, C, m, S⟩ ⟨hi, hR, hS⟩
  dsimp only at hi hR hS ⊢
  have hlen := hR.len
  have hbd := hR.bd
  have hob := hR.S.ok.obj
  have hpd := hR.S.ok.pad
  have htb := top_bd hR.S.ok
  repeat (first | refine Zq ?_ | refine Zs ?_ | refine ZT ?_ | refine ZF ?_ | refine Zc ?_ | refine XO_gU (hk := ?_))
  refine X_cond rfl (fun hc => ?_) (fun hc => ?_) <;> simp only [decide_eq_true_eq, decide_eq_false_iff_not] at hc
  · have hil : i < xs.length := by omega
    have hg : xs[i]? = some xs[i] := List.getElem?_eq_getElem hil
    have hx := wf_u16 (h1 xs[i] (List.getElem_mem hil))
    generalize xs[i] = x at hg hx
    have hm1 : 0 ≤ (i : Int) % (ys.length : Int) := Int.emod_nonneg _ (by omega)
    have hm2 : (i : Int) % (ys.length : Int) < (ys.length : Int) := Int.emod_lt_of_pos _ (by omega)
    have hkl : ((i : Int) % (ys.length : Int)).toNat < ys.length := by omega
    have hgk : ys[((i : Int) % (ys.length : Int)).toNat]? = some ys[((i : Int) % (ys.length : Int)).toNat] := List.getElem?_eq_getElem hkl
    have hk := wf_u8 (h2 _ (List.getElem_mem hkl))
    generalize ys[((i : Int) % (ys.length : Int)).toNat] = k at hgk hk
    have hab := al2_bd hk.1
    obtain ⟨C', m', S', at_, e, har⟩ := AR.ex 4000 C m S 1 (x + 1) (al2 k)
    have s1 := ralloc_spec r s sb hR (by decide) (by omega) (by omega) (by omega) (by omega) har
    have hR' := har.inv hR (by decide) (by omega) (by omega) (by omega)
    obtain ⟨rfl, hS', ho', ht', ha0, ha1, hcase⟩ := sum_step hR (by omega) (by omega) (by omega) hk.1 hS har
    clear har
    have hlen' := hR'.len
    have hbd' := hR'.bd
    have hml' : (S'.parts.map runP).length = S'.parts.length := List.length_map ..
    have hrl' : (S'.parts.map runP).reverse.length = S'.parts.length := by rw [List.length_reverse, hml']
    refine X_view (A := base W) (by (repeat (first | exact Find.here | apply Find.there))) V1 (by omega) ?_
    rintro b1 o1 rfl
    refine X_view (A := base W) (by (repeat (first | exact Find.here | apply Find.there))) V2 (by omega) ?_
    rintro b2 o2 rfl
    repeat (first | refine Zq ?_ | refine Zs ?_ | refine ZT ?_ | refine ZF ?_ | refine Zc ?_ | refine XO_gU (hk := ?_))
    refine XO_pv (pv_shlN (b := k % 13) (hw := al2_shl hk.1)) (hk := ?_)
    repeat (first | refine Zq ?_ | refine Zs ?_ | refine ZT ?_ | refine ZF ?_ | refine Zc ?_ | refine XO_gU (hk := ?_))
    refine XO_call s1 (hk := ?_)
    rintro _ _ ⟨rfl, rfl⟩
    repeat (first | refine Zq ?_ | refine Zs ?_ | refine ZT ?_ | refine ZF ?_ | refine Zc ?_ | refine XO_gU (hk := ?_))
    refine X_cond rfl (fun h => by cases h) (fun _ => ?_)
    repeat (first | refine Zq ?_ | refine Zs ?_ | refine ZT ?_ | refine ZF ?_ | refine Zc ?_ | refine XO_gU (hk := ?_))
    refine XO_call (rmark_spec r s 1 S' hlen'.1 hlen'.2) (hk := ?_)
    rintro _ _ ⟨rfl, rfl⟩
    repeat (first | refine Zq ?_ | refine Zs ?_ | refine ZT ?_ | refine ZF ?_ | refine Zc ?_ | refine XO_gU (hk := ?_))
    refine XO_dv (dv_alloc (row := [.int .i64 0, .int .i64 0, .int .u64 0, .int .u64 0, .int .u64 0])) (hk := ?_)
    rintro _ _ ⟨kb, rfl, rfl⟩
    refine XO_dv0 (dv_storeW (vs := [.int .i64 (S'.parts.length : Int), .int .i64 (S'.larges.length : Int), .int .u64 (topAt S'), .int .u64 S'.obj, .int .u64 S'.pad])) (hk := ?_)
    rintro _ _ rfl
    rw [ht', ho']
    rcases hcase with ⟨hn, hle, hpad⟩ | ⟨hn, l, pg, n, hmp, hp0, hp1, hle, hpad⟩
    · repeat (first | refine Zq ?_ | refine Zs ?_ | refine ZT ?_ | refine ZF ?_ | refine Zc ?_ | refine XO_gU (hk := ?_))
      refine X_cond rfl (fun h5 => ?_) (fun _ => ?_)
      · exfalso
        simp [hn] at h5
      repeat (first | refine Zq ?_ | refine Zs ?_ | refine ZT ?_ | refine ZF ?_ | refine Zc ?_ | refine XO_gU (hk := ?_))
      refine XO_known false (hb := decide_eq_false (by omega)) (hk := ?_)
      repeat (first | refine Zq ?_ | refine Zs ?_ | refine ZT ?_ | refine ZF ?_ | refine Zc ?_ | refine XO_gU (hk := ?_))
      refine X_cond rfl (fun h5 => ?_) (fun _ => ?_)
      · exfalso
        simp at h5
      repeat (first | refine Zq ?_ | refine Zs ?_ | refine ZT ?_ | refine ZF ?_ | refine Zc ?_ | refine XO_gU (hk := ?_))
      refine XO_known false (hb := by simp) (hk := ?_)
      repeat (first | refine Zq ?_ | refine Zs ?_ | refine ZT ?_ | refine ZF ?_ | refine Zc ?_ | refine XO_gU (hk := ?_))
      refine X_cond rfl (fun h5 => ?_) (fun _ => ?_)
      · exfalso
        simp [hpad] at h5
      repeat (first | refine Zq ?_ | refine Zs ?_ | refine ZT ?_ | refine ZF ?_ | refine Zc ?_ | refine XO_gU (hk := ?_))
      exact X_round (i + 1, C', m', S') ⟨by show i + 1 ≤ xs.length; omega, hR', hS'⟩ (by show xs.length - (i + 1) < xs.length - i; omega) (by dsimp only; rw [ho', hpad, ht', hn]; (repeat (first | exact Env.sub_nil _ | refine Env.sub_cons rfl ?_))) (by ((try simp only [List.cons_append, List.nil_append]); repeat (first | exact ent_refl | refine ent_take (by repeat (first | exact Find.here | apply Find.there)) ?_ | refine ent_drop ?_)))
    · repeat (first | refine Zq ?_ | refine Zs ?_ | refine ZT ?_ | refine ZF ?_ | refine Zc ?_ | refine XO_gU (hk := ?_))
      refine X_cond rfl (fun _ => ?_) (fun h5 => ?_)
      case refine_2 =>
        exfalso
        simp only [bne_eq_false_iff_eq] at h5
        omega
      repeat (first | refine Zq ?_ | refine Zs ?_ | refine ZT ?_ | refine ZF ?_ | refine Zc ?_ | refine XO_gU (hk := ?_))
      refine XO_call (rchunks_spec r s sb hR') (hk := ?_)
      rintro _ _ ⟨ca, cc, da, dc, rfl, rfl⟩
      have hR2 := hR'.walk (S'.parts.map runP) S'.larges
      generalize walkM 4000 (walkM 4000 m' (S'.parts.map runP)) S'.larges = m2 at hR2 ⊢
      have hget : (S'.parts.map runP).reverse[0]? = some (pg, n) := by rw [hmp]; simp
      have hlp : 0 < (S'.parts.map runP).reverse.length := by omega
      repeat (first | refine Zq ?_ | refine Zs ?_ | refine ZT ?_ | refine ZF ?_ | refine Zc ?_ | refine XO_gU (hk := ?_))
      refine XO_slopen (E' := eRun) (a := ca) (c := cc) (xs := (S'.parts.map runP).reverse) (by (repeat (first | exact Find.here | apply Find.there))) hlp ?_
      rintro qb qo rfl
      repeat (first | refine Zq ?_ | refine Zs ?_ | refine ZT ?_ | refine ZF ?_ | refine Zc ?_ | refine XO_gU (hk := ?_))
      refine XO_known false (hb := decide_eq_false (by omega)) (hk := ?_)
      repeat (first | refine Zq ?_ | refine Zs ?_ | refine ZT ?_ | refine ZF ?_ | refine Zc ?_ | refine XO_gU (hk := ?_))
      refine X_cond rfl (fun h5 => ?_) (fun _ => ?_)
      · exfalso
        simp at h5
      repeat (first | refine Zq ?_ | refine Zs ?_ | refine ZT ?_ | refine ZF ?_ | refine Zc ?_ | refine XO_gU (hk := ?_))
      refine XO_known false (hb := by simp) (hk := ?_)
      repeat (first | refine Zq ?_ | refine Zs ?_ | refine ZT ?_ | refine ZF ?_ | refine Zc ?_ | refine XO_gU (hk := ?_))
      refine X_cond rfl (fun h5 => ?_) (fun _ => ?_)
      · exfalso
        simp [hpad] at h5
      repeat (first | refine Zq ?_ | refine Zs ?_ | refine ZT ?_ | refine ZF ?_ | refine Zc ?_ | refine XO_gU (hk := ?_))
      exact X_round (i + 1, C', m2, S') ⟨by show i + 1 ≤ xs.length; omega, hR2, hS'⟩ (by show xs.length - (i + 1) < xs.length - i; omega) (by dsimp only; rw [ho', hpad, ht']; (repeat (first | exact Env.sub_nil _ | refine Env.sub_cons rfl ?_))) (by ((try simp only [List.cons_append, List.nil_append]); repeat (first | exact ent_refl | refine ent_take (by repeat (first | exact Find.here | apply Find.there)) ?_ | refine ent_drop ?_)))
  have hm1 := rmeter_spec r s 1 S hlen.1 hlen.2 hbd.1 hbd.2
  repeat (first | refine Zq ?_ | refine Zs ?_ | refine ZT ?_ | refine ZF ?_ | refine Zc ?_ | refine XO_gU (hk := ?_))
  refine XO_call hm1 (hk := ?_)
  rintro _ _ ⟨rfl, rfl⟩
  refine XO_pv (pv_fieldV (v := .int .u64 S.obj)) (hk := ?_)
  repeat (first | refine Zq ?_ | refine Zs ?_ | refine ZT ?_ | refine ZF ?_ | refine Zc ?_ | refine XO_gU (hk := ?_))
  refine XO_known true (hb := by simp) (hk := ?_)
  repeat (first | refine Zq ?_ | refine Zs ?_ | refine ZT ?_ | refine ZF ?_ | refine Zc ?_ | refine XO_gU (hk := ?_))
  refine XO_call hm1 (hk := ?_)
  rintro _ _ ⟨rfl, rfl⟩
  repeat (first | refine Zq ?_ | refine Zs ?_ | refine ZT ?_ | refine ZF ?_ | refine Zc ?_ | refine XO_gU (hk := ?_))
  refine XO_pv (pv_fieldV (v := .int .u64 S.pad)) (hk := ?_)
  repeat (first | refine Zq ?_ | refine Zs ?_ | refine ZT ?_ | refine ZF ?_ | refine Zc ?_ | refine XO_gU (hk := ?_))
  refine XE_ret (.inl rfl) (tells_tmps rfl rfl) ⟨_, ⟨?_, rfl⟩, (by simp only [List.cons_append, List.nil_append]; refine ent_take (by (repeat (first | exact Find.here | apply Find.there))) ?_; repeat (first | exact ent_refl | refine ent_drop ?_))⟩
  exact congrArg Value.bool (by simp)
end Go.Proofs.Ytmndddegnfbaaaa.Sep
