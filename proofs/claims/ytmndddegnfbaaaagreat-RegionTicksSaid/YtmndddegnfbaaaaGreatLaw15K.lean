import Derived.Test.YtmndddegnfbaaaaGreatBn12
/- The law Law15K: it answers true whatever it is given, and what was there stays. No conditions. -/
namespace Go.Proofs.YtmndddegnfbaaaaGreat.Sep
open Go.RowKit
set_option linter.unusedSimpArgs false
set_option linter.unusedVariables false
/-! what is touched -/
theorem wf_u32 {a : Int} (h : (Lit.int .u32 a).wf = true) : 0 ≤ a ∧ a ≤ 4294967295 := by
  simp [Lit.wf, IntKind.min, IntKind.max, IntKind.signed, IntKind.bits] at h; exact h
theorem wrap_i64_eqT (x : Int) : IntKind.i64.wrap x = (x + 9223372036854775808) % 18446744073709551616 - 9223372036854775808 := by
  simp [IntKind.wrap, IntKind.signed, IntKind.bits, Int.bmod]
  omega
/-- What it costs to get a chunk of a store that keeps none. -/
theorem chunk_tick {P : Int} {C : Co} {m : Mm} {k o nx pg n : Int} (hks : C.ks = fun _ => []) (hn : 1 ≤ n) (hz : (getC C n).2 = (pg, 0)) (hr : 0 ≤ pg ∧ pg + n ≤ P) (hrun : C.fr.length ≤ 1048576) (hP : P ≤ 1048576) :
    IntKind.i64.wrap (IntKind.i64.wrap ((zzM (pushM P m k o nx pg n) (pg * 4096 + 32) (n * 4096 - 32)).t + (getC C n).1.t) - IntKind.i64.wrap (m.t + C.t)) = n + 4 + (C.fr.length : Int) := by
  have hC : (getC C n).1.t = tickI C.t C.fr.length := by
    unfold getC at hz ⊢
    rw [hks] at hz ⊢
    rw [if_neg (by simp)] at hz ⊢
    have hN : ¬ 0 < trimN C := by unfold trimN; rw [hks, kall_nil]; decide
    split at hz
    · rename_i h4
      have : (takeC C n).2 = (pg, 0) := by first | exact hz | (rw [if_neg hN] at hz; exact hz)
      rw [this] at h4
      cases h4
    · rename_i h4
      rw [if_neg h4]
      unfold takeC at hz ⊢
      rw [if_neg (by omega)] at hz ⊢
      cases ht : takeI C.fr n with
      | none => rw [ht] at hz; cases hz
      | some q => rfl
  rw [hC]
  have hm : (zzM (pushM P m k o nx pg n) (pg * 4096 + 32) (n * 4096 - 32)).t = IntKind.i64.wrap (IntKind.i64.wrap (IntKind.i64.wrap (IntKind.i64.wrap (m.t + 1) + 1) + 1) + n) := by
    have t1 : touchI (pg * 4096) ((hdB ⟨n, k, o, 0⟩).length : Int) = 1 := by rw [hdB_len]; exact touch_hdr pg
    have t2 : touchI (pg * 4096 + 24) ((leB 8 nx).length : Int) = 1 := by
      rw [leB_len]; unfold touchI; rw [if_neg (by decide)]; omega
    have t3 : touchI (pg * 4096 + 32) (n * 4096 - 32) = n := by
      unfold touchI; rw [if_neg (by omega)]; omega
    show IntKind.i64.wrap (IntKind.i64.wrap ((if 0 ≤ pg ∧ pg < P then IntKind.i64.wrap (IntKind.i64.wrap (m.t + touchI (pg * 4096) ((hdB ⟨n, k, o, 0⟩).length : Int)) + 1) else _) + touchI (pg * 4096 + 24) ((leB 8 nx).length : Int)) + touchI (pg * 4096 + 32) (n * 4096 - 32)) = _
    rw [if_pos (by omega), t1, t2, t3]
  rw [hm]
  unfold tickI
  simp only [wrap_i64_eqT]
  omega
theorem AR.of_fit' {P : Int} {C C' : Co} {m m' : Mm} {s s' : Sh} {o size align at_ e : Int} {q : Int × Int × Int} (h : AR P C m s o size align C' m' s' at_ e) (hb : ¬ badA size align) (hf : fitI (topAt s) (topEnd s) size align = some q) : at_ = q.1 ∧ e = 0 ∧ C' = C ∧ m' = m := by
  cases h with
  | bad hb' => exact absurd hb' hb
  | fit q' _ hf' => rw [hf'] at hf; cases hf; exact ⟨rfl, rfl, rfl, rfl⟩
  | huge _ hf' _ => rw [hf'] at hf; cases hf
  | full n big _ hf' _ _ => rw [hf'] at hf; cases hf
  | big n pg _ hf' _ _ => rw [hf'] at hf; cases hf
  | part n pg _ hf' _ _ => rw [hf'] at hf; cases hf
set_option maxHeartbeats 8000000
attribute [local irreducible] X XE XO XD XDi XDa PV RV DV pt base Spec Sl Mp Keeps Pg Kc Pgs Spc Ck XL XLi Pl Rs Rg View
theorem ticks15 (a0 : Option Addr) (c0 : Nat) (xs : List A15) (size k : Int) (hok : ∀ x ∈ xs, OkA x) (hl1 : xs.length ≤ maxLen) (hsz : 0 ≤ size ∧ size ≤ 4294967295) (hk : 0 ≤ k ∧ k ≤ 255) (W : World) (V1 : View (base W) eAct a0 xs) :
    Calls Tryz.prog 3 #[.slice a0 xs.length c0, .int .u32 size, .int .u8 k] W fun e w' => e = .returned (.bool true) ∧ Below W.heap.size W w' := by
  refine law_intro (args := [.slice a0 xs.length c0, .int .u32 size, .int .u8 k]) Tryz.func3 rfl Tryz.ntmps3 (by simp) ?_
  simp only [envOf, List.zipIdx, List.map, List.cons_append, List.nil_append, Nat.zero_add, Nat.reduceAdd]
  repeat (first | refine Zq ?_ | refine Zs ?_ | refine ZT ?_ | refine ZF ?_ | refine Zc ?_ | refine XO_gU (hk := ?_))
  refine XO_call awake15_spec (hk := ?_)
  rintro _ _ ⟨rfl, rfl⟩
  repeat (first | refine Zq ?_ | refine Zs ?_ | refine ZT ?_ | refine ZF ?_ | refine Zc ?_ | refine XO_gU (hk := ?_))
  refine X_cond rfl (fun h => by cases h) (fun _ => ?_)
  repeat (first | refine Zq ?_ | refine Zs ?_ | refine ZT ?_ | refine ZF ?_ | refine Zc ?_ | refine XO_gU (hk := ?_))
  refine X_cond rfl (fun h3 => ?_) (fun h3 => ?_) <;> simp only [decide_eq_true_eq, decide_eq_false_iff_not] at h3
  · repeat (first | refine Zq ?_ | refine Zs ?_ | refine ZT ?_ | refine ZF ?_ | refine Zc ?_ | refine XO_gU (hk := ?_))
    refine XE_ret (.inl rfl) (tells_tmps rfl rfl) ⟨_, ⟨rfl, rfl⟩, by ((try simp only [List.cons_append, List.nil_append]); repeat (first | exact ent_refl | refine ent_take (by repeat (first | exact Find.here | apply Find.there)) ?_ | refine ent_drop ?_))⟩
  repeat (first | refine Zq ?_ | refine Zs ?_ | refine ZT ?_ | refine ZF ?_ | refine Zc ?_ | refine XO_gU (hk := ?_))
  refine XO_call (knew_spec 4000) (hk := ?_)
  rintro _ _ ⟨s, sb, rfl, rfl⟩
  have hr0 : RInv 4000 0 3 ⟨4000, [(0, 4000)], fun _ => [], 0⟩ (⟨fun _ => 0, 0⟩ : Mm).f emptySh [] := emptyInv (by decide) (by decide) 3
  generalize hm0 : (⟨fun _ => 0, 0⟩ : Mm) = m0 at hr0 ⊢
  repeat (first | refine Zq ?_ | refine Zs ?_ | refine ZT ?_ | refine ZF ?_ | refine Zc ?_ | refine XO_gU (hk := ?_))
  refine XO_call (rnew_spec s 3) (hk := ?_)
  rintro _ _ ⟨r, rfl, rfl⟩
  repeat (first | refine Zq ?_ | refine Zs ?_ | refine ZT ?_ | refine ZF ?_ | refine Zc ?_ | refine XO_gU (hk := ?_))
  refine XO_call (play_spec r s sb (base W) a0 c0 xs V1 hok (by omega) (by decide) (fun _ _ _ _ => True) (fun _ _ _ _ _ _ _ _ _ _ _ _ _ _ _ _ => trivial) hr0 trivial) (hk := ?_)
  rintro _ _ ⟨rfl, C0, m, S, hR0, -, rfl⟩
  clear hr0
  repeat (first | refine Zq ?_ | refine Zs ?_ | refine ZT ?_ | refine ZF ?_ | refine Zc ?_ | refine XO_gU (hk := ?_))
  refine XO_call (ctrim_spec s sb C0 hR0.K.ci.ok) (hk := ?_)
  rintro _ _ ⟨rfl, rfl⟩
  have hR : RInv 4000 (0 + xs.length) 3 (trimC C0) m.f S [] := ⟨ktrim hR0.K, hR0.hP, hR0.S, hR0.po⟩
  have hks : (trimC C0).ks = fun _ => [] := rfl
  clear hR0
  generalize trimC C0 = C at hR hks ⊢
  have hlen := hR.len
  have hPb := hR.P1
  have hbd := hR.bd
  have htb := top_bd hR.S.ok
  have hml : (S.parts.map runP).length = S.parts.length := List.length_map ..
  have ht0 := tot_bd0 hbd.1 (by omega)
  have ht1 := tot_bd0 hbd.2 hlen.2
  have hab := al2_bd hk.1
  have hfl : C.fr.length ≤ 1048576 := rf_len' (by have := hR.K.ci.ok.p1; omega) hR.K.ci.ok.p2 hR.K.ci.ok.right
  have hspb : 0 ≤ shPages S ∧ shPages S ≤ 2199023255552 := by unfold shPages; omega
  repeat (first | refine Zq ?_ | refine Zs ?_ | refine ZT ?_ | refine ZF ?_ | refine Zc ?_ | refine XO_gU (hk := ?_))
  refine XO_pv (pv_shlN (b := k % 13) (hw := al2_shl hk.1)) (hk := ?_)
  repeat (first | refine Zq ?_ | refine Zs ?_ | refine ZT ?_ | refine ZF ?_ | refine Zc ?_ | refine XO_gU (hk := ?_))
  refine XO_call (rfits_spec r s 3 S size (al2 k) hR.S.ok hlen.1 (by omega) (by omega) (by omega) (by omega)) (hk := ?_)
  rintro _ _ ⟨rfl, rfl⟩
  repeat (first | refine Zq ?_ | refine Zs ?_ | refine ZT ?_ | refine ZF ?_ | refine Zc ?_ | refine XO_gU (hk := ?_))
  refine XO_call (kfree_spec s sb C hR.K.ci.ok) (hk := ?_)
  rintro _ _ ⟨rfl, rfl⟩
  repeat (first | refine Zq ?_ | refine Zs ?_ | refine ZT ?_ | refine ZF ?_ | refine Zc ?_ | refine XO_gU (hk := ?_))
  refine XO_call (rmeter_spec r s 3 S hlen.1 hlen.2 hbd.1 hbd.2) (hk := ?_)
  rintro _ _ ⟨rfl, rfl⟩
  refine XO_pv (pv_fieldV (v := .int .i64 (shPages S))) (hk := ?_)
  repeat (first | refine Zq ?_ | refine Zs ?_ | refine ZT ?_ | refine ZF ?_ | refine Zc ?_ | refine XO_gU (hk := ?_))
  refine XO_call (kticks_spec s sb C 4000 m) (hk := ?_)
  rintro _ _ ⟨rfl, rfl⟩
  repeat (first | refine Zq ?_ | refine Zs ?_ | refine ZT ?_ | refine ZF ?_ | refine Zc ?_ | refine XO_gU (hk := ?_))
  obtain ⟨C', m', S', at_, e, har⟩ := AR.ex 4000 C m S 3 size (al2 k)
  have hR' := har.inv hR (by decide) (by omega) (by omega) (by omega)
  have hlen' := hR'.len
  have hbd' := hR'.bd
  have hml' : (S'.parts.map runP).length = S'.parts.length := List.length_map ..
  have ht0' := tot_bd0 hbd'.1 (by omega)
  have ht1' := tot_bd0 hbd'.2 hlen'.2
  have hspb' : 0 ≤ shPages S' ∧ shPages S' ≤ 2199023255552 := by unfold shPages; omega
  have hself : ∀ x : Int, IntKind.i64.wrap (x - x) = 0 := fun x => by rw [Int.sub_self]; decide
  have hcost : ((decide (¬ badA size (al2 k)) && (fitI (topAt S) (topEnd S) size (al2 k)).isSome) = true → e = 0 ∧ IntKind.i64.wrap (IntKind.i64.wrap (m'.t + C'.t) - IntKind.i64.wrap (m.t + C.t)) = 0) ∧
      (IntKind.i64.wrap (IntKind.i64.wrap (m'.t + C'.t) - IntKind.i64.wrap (m.t + C.t)) ≤ 40 + 8 * (C.fr.length : Int) + shPages S' - shPages S) := by
    refine ⟨fun h => ?_, ?_⟩
    · simp only [Bool.and_eq_true, decide_eq_true_eq] at h
      obtain ⟨hb, hs⟩ := h
      cases hf : fitI (topAt S) (topEnd S) size (al2 k) with
      | none => rw [hf] at hs; cases hs
      | some q =>
        obtain ⟨-, he, rfl, rfl⟩ := har.of_fit' hb hf
        exact ⟨he, hself _⟩
    · cases har with
      | bad hb => rw [hself]; omega
      | fit q hb hf =>
        rw [hself]
        have : shPages (setTop S q.2.1 (IntKind.u64.wrap (S.obj + size)) (IntKind.u64.wrap (S.pad + q.2.2))) = shPages S := by
          unfold shPages setTop; simp only; rw [setLast_runP]
        rw [this]; omega
      | huge hb hf hc => rw [hself]; omega
      | full n big hb hf hc hz =>
        have : (trimC C).t = C.t := by unfold trimC; rw [hks, kall_nil]; rfl
        rw [this, hself]; omega
      | big n pg hb hf hc hz =>
        obtain ⟨r1, r2, r3, r4, r5⟩ := rnd_chunk (by omega) (by omega) hc
        have hr : RunOk 4000 (pg, n) := by
          have := get_hr hR.K n 1 3 (by decide) r3 (by rw [r1, hz])
          rw [r1, hz, hR.hP] at this
          exact this
        unfold RunOk at hr
        simp only at hr
        rw [chunk_tick hks r4 hz (by omega) hfl (by decide)]
        have : shPages ⟨S.parts, S.larges ++ [(pg, n)], IntKind.u64.wrap (S.obj + size), IntKind.u64.wrap (S.pad + (-32) % al2 k)⟩ = shPages S + n := by
          unfold shPages; simp only; rw [tot_append]; simp [totI]; omega
        rw [this]; omega
      | part n pg hb hf hc hz =>
        obtain ⟨r1, r2, r3, r4, r5⟩ := rnd_chunk (by omega) (by omega) hc
        have hr : RunOk 4000 (pg, n) := by
          have := get_hr hR.K n 0 3 (by decide) r2 (by rw [r1, hz])
          rw [r1, hz, hR.hP] at this
          exact this
        unfold RunOk at hr
        simp only at hr
        rw [chunk_tick hks r4 hz (by omega) hfl (by decide)]
        have : shPages ⟨S.parts ++ [(pg, n, pg * 4096 + 32 + (-32) % al2 k + size, (pg + n) * 4096)], S.larges, IntKind.u64.wrap (S.obj + size), IntKind.u64.wrap (S.pad + (-32) % al2 k)⟩ = shPages S + n := by
          unfold shPages; simp only [List.map_append, List.map_cons, List.map_nil, runP]; rw [tot_append]; simp [totI]; omega
        rw [this]; omega
  refine XO_call (ralloc_spec r s sb hR (by decide) (by omega) (by omega) (by omega) (by omega) har) (hk := ?_)
  rintro _ _ ⟨rfl, rfl⟩
  clear har
  repeat (first | refine Zq ?_ | refine Zs ?_ | refine ZT ?_ | refine ZF ?_ | refine Zc ?_ | refine XO_gU (hk := ?_))
  refine XO_call (kticks_spec s sb C' 4000 m') (hk := ?_)
  rintro _ _ ⟨rfl, rfl⟩
  generalize IntKind.i64.wrap (m'.t + C'.t) = t1 at hcost ⊢
  generalize IntKind.i64.wrap (m.t + C.t) = t0 at hcost ⊢
  obtain ⟨hc1, hc2⟩ := hcost
  repeat (first | refine Zq ?_ | refine Zs ?_ | refine ZT ?_ | refine ZF ?_ | refine Zc ?_ | refine XO_gU (hk := ?_))
  generalize IntKind.i64.wrap (t1 - t0) = d at hc1 hc2 ⊢
  refine X_cond rfl (fun h5 => ?_) (fun h5 => ?_)
  · obtain ⟨rfl, rfl⟩ := hc1 h5
    repeat (first | refine Zq ?_ | refine Zs ?_ | refine ZT ?_ | refine ZF ?_ | refine Zc ?_ | refine XO_gU (hk := ?_))
    refine XE_ret (.inl rfl) (tells_tmps rfl rfl) ⟨_, ⟨rfl, rfl⟩, (by simp only [List.cons_append, List.nil_append]; refine ent_take (by (repeat (first | exact Find.here | apply Find.there))) ?_; repeat (first | exact ent_refl | refine ent_drop ?_))⟩
  · repeat (first | refine Zq ?_ | refine Zs ?_ | refine ZT ?_ | refine ZF ?_ | refine Zc ?_ | refine XO_gU (hk := ?_))
    refine XO_call (rmeter_spec r s 3 S' hlen'.1 hlen'.2 hbd'.1 hbd'.2) (hk := ?_)
    rintro _ _ ⟨rfl, rfl⟩
    refine XO_pv (pv_fieldV (v := .int .i64 (shPages S'))) (hk := ?_)
    repeat (first | refine Zq ?_ | refine Zs ?_ | refine ZT ?_ | refine ZF ?_ | refine Zc ?_ | refine XO_gU (hk := ?_))
    refine XE_ret (.inl rfl) (tells_tmps rfl rfl) ⟨_, ⟨?_, rfl⟩, (by simp only [List.cons_append, List.nil_append]; refine ent_take (by (repeat (first | exact Find.here | apply Find.there))) ?_; repeat (first | exact ent_refl | refine ent_drop ?_))⟩
    exact congrArg Value.bool (decide_eq_true (by omega))
end Go.Proofs.YtmndddegnfbaaaaGreat.Sep
