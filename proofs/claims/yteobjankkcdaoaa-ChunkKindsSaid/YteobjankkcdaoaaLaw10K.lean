import Derived.Test.YteobjankkcdaoaaBn10
/- The law Law10K: it answers true whatever it is given, and what was there stays. No conditions. -/
namespace Go.Proofs.Yteobjankkcdaoaa.Sep
open Go.RowKit
set_option linter.unusedSimpArgs false
set_option linter.unusedVariables false
/-! chunks that are got, one behind the other, lie one behind the other -/
def eHd : E Hd := ⟨4, true, fun h => [.int .i64 h.pages, .int .i64 h.kind, .int .u64 h.owner, .int .u64 h.next], fun _ => rfl, fun _ _ h => by simp at h; rcases h with rfl | rfl | rfl | rfl <;> rfl, by decide, fun h => by cases h⟩
instance teq_head : TEq Try.prog 45 [.i64, .i64, .u64, .u64] := ⟨_, Try.underlying45, by kernel_rfl, by kernel_rfl, ⟨by decide, rfl, Try.underlying3, by decide, rfl, Try.underlying3, by decide, rfl, Try.underlying26, by decide, rfl, Try.underlying26, trivial⟩⟩
set_option maxHeartbeats 8000000
attribute [local irreducible] X XE XO XD XDi XDa PV RV DV pt base Spec Sl Mp Keeps Pg Kc Pgs Spc Ck XL XLi
theorem kinds10 (a1 a2 : Option Addr) (c1 c2 : Nat) (ks ps : List Int) (h1 : ∀ x ∈ ks, (Lit.int .u8 x).wf = true) (h2 : ∀ x ∈ ps, (Lit.int .u8 x).wf = true) (hl1 : ks.length ≤ maxLen) (hl2 : ps.length ≤ maxLen) (W : World) (V1 : View (base W) (eI .u8) a1 ks) (V2 : View (base W) (eI .u8) a2 ps) :
    Calls Try.prog 4 #[.slice a1 ks.length c1, .slice a2 ps.length c2] W fun e w' => e = .returned (.bool true) ∧ Below W.heap.size W w' := by
  refine law_intro (args := [.slice a1 ks.length c1, .slice a2 ps.length c2]) Try.func4 rfl Try.ntmps4 (by simp) ?_
  have hml : maxLen = 4611686018427387904 ∨ maxLen ≤ 9223372036854775807 := .inr (by decide)
  simp only [envOf, List.zipIdx, List.map, List.cons_append, List.nil_append, Nat.zero_add, Nat.reduceAdd]
  repeat (first | refine Zq ?_ | refine Zs ?_ | refine ZT ?_ | refine ZF ?_ | refine Zc ?_ | refine XO_gU (hk := ?_))
  refine XO_call awake10_spec (hk := ?_)
  rintro _ _ ⟨rfl, rfl⟩
  repeat (first | refine Zq ?_ | refine Zs ?_ | refine ZT ?_ | refine ZF ?_ | refine Zc ?_ | refine XO_gU (hk := ?_))
  refine X_cond rfl (fun h => by cases h) (fun _ => ?_)
  repeat (first | refine Zq ?_ | refine Zs ?_ | refine ZT ?_ | refine ZF ?_ | refine Zc ?_ | refine XO_gU (hk := ?_))
  refine XO_either (hT := fun h3 => ?_) (hF := fun h3 => ?_) <;> simp only [decide_eq_true_eq, decide_eq_false_iff_not] at h3
  · repeat (first | refine Zq ?_ | refine Zs ?_ | refine ZT ?_ | refine ZF ?_ | refine Zc ?_ | refine XO_gU (hk := ?_))
    refine X_cond rfl (fun _ => ?_) (fun h => by cases h)
    repeat (first | refine Zq ?_ | refine Zs ?_ | refine ZT ?_ | refine ZF ?_ | refine Zc ?_ | refine XO_gU (hk := ?_))
    refine XE_ret (.inl rfl) (tells_tmps rfl rfl) ⟨_, ⟨rfl, rfl⟩, by ((try simp only [List.cons_append, List.nil_append]); repeat (first | exact ent_refl | refine ent_take (by repeat (first | exact Find.here | apply Find.there)) ?_ | refine ent_drop ?_))⟩
  repeat (first | refine Zq ?_ | refine Zs ?_ | refine ZT ?_ | refine ZF ?_ | refine Zc ?_ | refine XO_gU (hk := ?_))
  refine X_cond rfl (fun h4 => ?_) (fun h4 => ?_)
  · repeat (first | refine Zq ?_ | refine Zs ?_ | refine ZT ?_ | refine ZF ?_ | refine Zc ?_ | refine XO_gU (hk := ?_))
    refine XE_ret (.inl rfl) (tells_tmps rfl rfl) ⟨_, ⟨rfl, rfl⟩, by ((try simp only [List.cons_append, List.nil_append]); repeat (first | exact ent_refl | refine ent_take (by repeat (first | exact Find.here | apply Find.there)) ?_ | refine ent_drop ?_))⟩
  have hpl : 0 < ps.length := by
    simp only [beq_eq_false_iff_ne] at h4
    omega
  repeat (first | refine Zq ?_ | refine Zs ?_ | refine ZT ?_ | refine ZF ?_ | refine Zc ?_ | refine XO_gU (hk := ?_))
  refine XO_call (knew_spec 3000) (hk := ?_)
  rintro _ _ ⟨s, sb, rfl, rfl⟩
  have hk0 := knew 3000 (⟨fun _ => 0, 0⟩ : Mm).f
  generalize hm0 : (⟨fun _ => 0, 0⟩ : Mm) = m0 at hk0 ⊢
  repeat (first | refine Zq ?_ | refine Zs ?_ | refine ZT ?_ | refine ZF ?_ | refine Zc ?_ | refine XO_gU (hk := ?_))
  refine X_conv (fun _ h => SL_nilSl (eI .i64) (SL_nilSl eHd h)) ?_
  refine X_loop (ι := Nat × Co × Mm × List (Int × Hd) × (Option Addr × Nat) × (Option Addr × Nat) × Int)
    (fun q => q.1 ≤ ks.length ∧ q.2.2.2.1.length = q.1 ∧ KInv q.2.1 q.2.2.1.f q.2.2.2.1 ∧ q.2.1.P = 3000 ∧ q.2.1.fr = [(q.2.2.2.2.2.2, 3000 - q.2.2.2.2.2.2)] ∧ (q.2.1.ks = fun _ => []) ∧ 0 ≤ q.2.2.2.2.2.2 ∧ q.2.2.2.2.2.2 ≤ 90 * (q.1 : Int))
    (fun q => [(0, .slice a1 ks.length c1), (1, .slice a2 ps.length c2), (6, .pointer (some ⟨s, 0, none⟩)), (7, .int .i64 q.2.2.2.2.2.2), (8, .slice q.2.2.2.2.1.1 (q.2.2.2.1.map (·.2)).length q.2.2.2.2.1.2), (9, .slice q.2.2.2.2.2.1.1 (q.2.2.2.1.map (·.1)).length q.2.2.2.2.2.1.2), (10, .int .i64 (q.1 : Int))])
    (fun q => [Ck s sb q.2.1, Spc sb 3000 q.2.2.1, Sl eHd q.2.2.2.2.1.1 q.2.2.2.2.1.2 (q.2.2.2.1.map (·.2)), Sl (eI .i64) q.2.2.2.2.2.1.1 q.2.2.2.2.2.1.2 (q.2.2.2.1.map (·.1)), base W]) (fun q => ks.length - q.1) (0, ⟨3000, [(0, 3000)], fun _ => [], 0⟩, m0, [], (none, 0), (none, 0), 0) ⟨Nat.zero_le _, rfl, hk0, rfl, rfl, rfl, Int.le_refl _, by simp⟩ ?_ (by ((try simp only [List.cons_append, List.nil_append]); repeat (first | exact ent_refl | refine ent_take (by repeat (first | exact Find.here | apply Find.there)) ?_ | refine ent_drop ?_))) ?_
  · (repeat (first | exact Env.sub_nil _ | refine Env.sub_cons rfl ?_))
  clear hk0
  rintro ⟨i, C, m, got, ⟨ah, ch⟩, ⟨af, cf⟩, at_⟩ ⟨hi, hgl, hK, hP, hf, hks, ha0, ha1⟩
  dsimp only at hi hgl hK hP hf hks ha0 ha1 ⊢
  repeat (first | refine Zq ?_ | refine Zs ?_ | refine ZT ?_ | refine ZF ?_ | refine Zc ?_ | refine XO_gU (hk := ?_))
  refine X_cond rfl (fun hc => ?_) (fun hc => ?_) <;> simp only [decide_eq_true_eq, decide_eq_false_iff_not] at hc
  · have hil : i < ks.length := by omega
    have hki := wf_u8 (h1 ks[i] (List.getElem_mem hil))
    have hgk : ks[i]? = some ks[i] := List.getElem?_eq_getElem hil
    have hr0 : 0 ≤ (i : Int) % (ps.length : Int) := Int.emod_nonneg _ (by omega)
    have hr1 : (i : Int) % (ps.length : Int) < (ps.length : Int) := Int.emod_lt_of_pos _ (by omega)
    have hpl2 : ((i : Int) % (ps.length : Int)).toNat < ps.length := by omega
    have hgp : ps[((i : Int) % (ps.length : Int)).toNat]? = some ps[((i : Int) % (ps.length : Int)).toNat] := List.getElem?_eq_getElem hpl2
    have hpi := wf_u8 (h2 _ (List.getElem_mem hpl2))
    generalize ks[i] = kd at hki hgk
    generalize ps[((i : Int) % (ps.length : Int)).toNat] = pg at hpi hgp
    refine X_view (by (repeat (first | exact Find.here | apply Find.there))) V1 (by omega) ?_
    rintro b1 o1 rfl
    refine X_view (by (repeat (first | exact Find.here | apply Find.there))) V2 hpl ?_
    rintro b2 o2 rfl
    repeat (first | refine Zq ?_ | refine Zs ?_ | refine ZT ?_ | refine ZF ?_ | refine Zc ?_ | refine XO_gU (hk := ?_))
    repeat (first | refine XD_pick (h := ?_) | refine Dq ?_ | refine Ds ?_ | refine XDi_gF (h := ?_) | refine XDi_gU (h := ?_) | refine X_draws (h := ?_))
    have hb : ¬ bad (pg % 90 + 1) kd := by unfold bad; omega
    obtain ⟨r1, r2, -, -, r5, r6⟩ := rnd_ok (p := pg % 90 + 1) (by omega) (by omega)
    have hw : 1 ≤ rnd (pg % 90 + 1) ∧ rnd (pg % 90 + 1) ≤ 90 := by
      by_cases h64 : 64 < pg % 90 + 1
      · have := r5 h64; omega
      · have := r6 (by omega); omega
    have ho : (0 : Int) ≤ (i : Int) ∧ (i : Int) < 18446744073709551616 := by omega
    obtain ⟨g1, g2, g3, -⟩ := get_line (w := rnd (pg % 90 + 1)) hf hks hw.1 (by omega)
    have hz : (getC C (rnd (pg % 90 + 1))).2.2 = 0 := by rw [g1]
    have s1 := kget_ok s sb (k := kd) (o := i) hK hP ho hb hz
    obtain ⟨hK1, hP1⟩ := kget_inv (k := kd) (o := i) hK hP ho hb hz
    rw [g1] at s1 hK1
    generalize hC1 : (getC C (rnd (pg % 90 + 1))).1 = C1 at s1 hK1 hP1 g2 g3
    generalize hwd : rnd (pg % 90 + 1) = w at s1 hK1 hw g2
    simp only at s1 hK1
    refine XD_one (h := ?_)
    refine XDa_dvA (dv_call s1) (hk := ?_)
    (rintro _ _ ⟨_, ⟨rfl, rfl⟩, rfl⟩; refine ⟨by (repeat (first | exact keeps_nil | exact keeps_fnil | refine keeps_skip (h := ?_) | refine keeps_takeQ (h := ?_))), ?_⟩)
    generalize stM _ _ _ = m1 at hK1 ⊢
    repeat (first | refine XD_pick (h := ?_) | refine Dq ?_ | refine Ds ?_ | refine XDi_gF (h := ?_) | refine XDi_gU (h := ?_) | refine X_draws (h := ?_))
    (refine XD_one (h := ?_); refine XDa_dvA (dv_of_rv (rv_of_pv pv_assign)) (hk := ?_); rintro _ _ ⟨rfl, rfl⟩; refine ⟨by (repeat (first | exact keeps_nil | exact keeps_fnil | refine keeps_skip (h := ?_) | refine keeps_takeQ (h := ?_))), ?_⟩)
    (refine XD_one (h := ?_); refine XDa_dvA (dv_of_rv (rv_of_pv pv_assign)) (hk := ?_); rintro _ _ ⟨rfl, rfl⟩; refine ⟨by (repeat (first | exact keeps_nil | exact keeps_fnil | refine keeps_skip (h := ?_) | refine keeps_takeQ (h := ?_))), ?_⟩)
    (refine XD_one (h := ?_); refine XDa_dvA (dv_of_rv (rv_of_pv pv_assign)) (hk := ?_); rintro _ _ ⟨rfl, rfl⟩; refine ⟨by (repeat (first | exact keeps_nil | exact keeps_fnil | refine keeps_skip (h := ?_) | refine keeps_takeQ (h := ?_))), ?_⟩)
    (refine XD_end (h := ?_); repeat (first | refine Zq ?_ | refine Zs ?_ | refine ZT ?_ | refine ZF ?_ | refine Zc ?_ | refine XO_gU (hk := ?_)))
    refine X_cond rfl (fun h => by simp at h) (fun _ => ?_)
    repeat (first | refine Zq ?_ | refine Zs ?_ | refine ZT ?_ | refine ZF ?_ | refine Zc ?_ | refine XO_gU (hk := ?_))
    refine XO_pv (pv_buildG [.int .i64 w, .int .i64 kd, .int .u64 i, .int .u64 0]) (hk := ?_)
    repeat (first | refine Zq ?_ | refine Zs ?_ | refine ZT ?_ | refine ZF ?_ | refine Zc ?_ | refine XO_gU (hk := ?_))
    refine XO_lit (E' := eHd) [⟨w, kd, i, 0⟩] (hk := ?_)
    intro lb
    repeat (first | refine Zq ?_ | refine Zs ?_ | refine ZT ?_ | refine ZF ?_ | refine Zc ?_ | refine XO_gU (hk := ?_))
    refine XO_dv (dv_append (E' := eHd) (xs := got.map (·.2)) (ys := [⟨w, kd, i, 0⟩]) (hv := Sl.view) (hb := by simp; omega)) (hk := ?_)
    rintro _ _ ⟨ah', ch', rfl, rfl⟩
    repeat (first | refine Zq ?_ | refine Zs ?_ | refine ZT ?_ | refine ZF ?_ | refine Zc ?_ | refine XO_gU (hk := ?_))
    refine XO_lit (E' := eI .i64) [at_] (hk := ?_)
    intro lb2
    repeat (first | refine Zq ?_ | refine Zs ?_ | refine ZT ?_ | refine ZF ?_ | refine Zc ?_ | refine XO_gU (hk := ?_))
    refine XO_dv (dv_append (E' := eI .i64) (xs := got.map (·.1)) (ys := [at_]) (hv := Sl.view) (hb := by simp; omega)) (hk := ?_)
    rintro _ _ ⟨af', cf', rfl, rfl⟩
    repeat (first | refine Zq ?_ | refine Zs ?_ | refine ZT ?_ | refine ZF ?_ | refine Zc ?_ | refine XO_gU (hk := ?_))
    have e1 : (got ++ [(at_, (⟨w, kd, i, 0⟩ : Hd))]).map (·.1) = got.map (·.1) ++ [at_] := by simp
    have e2 : (got ++ [(at_, (⟨w, kd, i, 0⟩ : Hd))]).map (·.2) = got.map (·.2) ++ [⟨w, kd, i, 0⟩] := by simp
    rw [← e1, ← e2]
    exact X_round (i + 1, C1, m1, got ++ [(at_, ⟨w, kd, i, 0⟩)], (ah', ch'), (af', cf'), at_ + w) ⟨by show i + 1 ≤ ks.length; omega, by simp [hgl], hK1, hP1, by show C1.fr = _; rw [g2, show 3000 - at_ - w = 3000 - (at_ + w) from by omega], g3, by show 0 ≤ at_ + w; omega, by show at_ + w ≤ 90 * ((i + 1 : Nat) : Int); omega⟩ (by show ks.length - (i + 1) < ks.length - i; omega) (by (repeat (first | exact Env.sub_nil _ | refine Env.sub_cons rfl ?_))) (by ((try simp only [List.cons_append, List.nil_append]); repeat (first | exact ent_refl | refine ent_take (by repeat (first | exact Find.here | apply Find.there)) ?_ | refine ent_drop ?_)))
  obtain rfl : i = ks.length := by omega
  clear hks
  repeat (first | refine Zq ?_ | refine Zs ?_ | refine ZT ?_ | refine ZF ?_ | refine Zc ?_ | refine XO_gU (hk := ?_))
  refine X_loop (ι := Nat × Mm) (fun q => q.1 ≤ got.length ∧ KInv C q.2.f got)
    (fun q => [(6, .pointer (some ⟨s, 0, none⟩)), (7, .int .i64 at_), (8, .slice ah (got.map (·.2)).length ch), (9, .slice af (got.map (·.1)).length cf), (14, .int .i64 (q.1 : Int))])
    (fun q => [Ck s sb C, Spc sb 3000 q.2, Sl eHd ah ch (got.map (·.2)), Sl (eI .i64) af cf (got.map (·.1)), base W]) (fun q => got.length - q.1) (0, m) ⟨Nat.zero_le _, hK⟩ ?_ (by ((try simp only [List.cons_append, List.nil_append]); repeat (first | exact ent_refl | refine ent_take (by repeat (first | exact Find.here | apply Find.there)) ?_ | refine ent_drop ?_))) ?_
  · (repeat (first | exact Env.sub_nil _ | refine Env.sub_cons rfl ?_))
  clear hK
  rintro ⟨j, m⟩ ⟨hj, hK⟩
  dsimp only at hj hK ⊢
  repeat (first | refine Zq ?_ | refine Zs ?_ | refine ZT ?_ | refine ZF ?_ | refine Zc ?_ | refine XO_gU (hk := ?_))
  refine X_cond rfl (fun hc2 => ?_) (fun hc2 => ?_) <;> simp only [List.length_map, decide_eq_true_eq, decide_eq_false_iff_not] at hc2
  · have hjl : j < got.length := by omega
    have hsp : got = got.take j ++ got[j] :: got.drop (j + 1) := by rw [← List.drop_eq_getElem_cons hjl, List.take_append_drop]
    have hg1 : (got.map (·.1))[j]? = some got[j].1 := by rw [List.getElem?_map, List.getElem?_eq_getElem hjl]; rfl
    have hg2 : (got.map (·.2))[j]? = some got[j].2 := by rw [List.getElem?_map, List.getElem?_eq_getElem hjl]; rfl
    generalize got[j] = q at hsp hg1 hg2
    obtain ⟨p, hd⟩ := q
    simp only at hg1 hg2
    refine X_slopen (E' := eI .i64) (a := af) (c := cf) (xs := got.map (·.1)) (by (repeat (first | exact Find.here | apply Find.there))) (by simp; omega) ?_
    rintro fb fo rfl
    refine X_slopen (E' := eHd) (a := ah) (c := ch) (xs := got.map (·.2)) (by (repeat (first | exact Find.here | apply Find.there))) (by simp; omega) ?_
    rintro hb ho rfl
    have hlt1 : (j : Int) < ((got.map (·.1)).length : Int) := by simp; omega
    have hlt2 : (j : Int) < ((got.map (·.2)).length : Int) := by simp; omega
    repeat (first | refine Zq ?_ | refine Zs ?_ | refine ZT ?_ | refine ZF ?_ | refine Zc ?_ | refine XO_gU (hk := ?_))
    repeat (first | refine XD_pick (h := ?_) | refine Dq ?_ | refine Ds ?_ | refine XDi_gF (h := ?_) | refine XDi_gU (h := ?_) | refine X_draws (h := ?_))
    refine XL_start 10 15 (fun b => pt b (.cells [.int .i64 0, .int .i64 0, .int .u64 0, .int .u64 0].toArray 45 (0, 0))) ?_
    refine XL_call (kspace_spec s sb C) ?_
    (rintro _ _ ⟨rfl, rfl⟩; refine ⟨by (repeat (first | exact keeps_nil | exact keeps_fnil | refine keeps_skip (h := ?_) | refine keeps_takeQ (h := ?_))), ?_⟩)
    (repeat (first | refine XL_pick ?_ | refine Lq ?_ | refine Ls ?_))
    refine XL_call (hread_ok sb (hsp ▸ hK) hP) ?_
    (rintro _ _ ⟨rfl, rfl⟩; refine ⟨by (repeat (first | exact keeps_nil | exact keeps_fnil | refine keeps_skip (h := ?_) | refine keeps_takeQ (h := ?_))), ?_⟩)
    (repeat (first | refine XL_pick ?_ | refine Lq ?_ | refine Ls ?_))
    refine XL_end ?_
    intro xb
    repeat (first | refine XD_pick (h := ?_) | refine Dq ?_ | refine Ds ?_ | refine XDi_gF (h := ?_) | refine XDi_gU (h := ?_) | refine X_draws (h := ?_))
    refine XD_one (h := ?_)
    refine XDa_dvk0 (dv_storeW (vs := [.int .i64 hd.pages, .int .i64 hd.kind, .int .u64 hd.owner, .int .u64 hd.next])) (K := _) (hk := ?_)
    (rintro _ _ rfl; refine ⟨by (repeat (first | exact keeps_nil | exact keeps_fnil | refine keeps_skip (h := ?_) | refine keeps_takeQ (h := ?_))), ?_⟩)
    repeat (first | refine XD_pick (h := ?_) | refine Dq ?_ | refine Ds ?_ | refine XDi_gF (h := ?_) | refine XDi_gU (h := ?_) | refine X_draws (h := ?_))
    (refine XD_one (h := ?_); refine XDa_dvA (dv_of_rv (rv_of_pv pv_assign)) (hk := ?_); rintro _ _ ⟨rfl, rfl⟩; refine ⟨by (repeat (first | exact keeps_nil | exact keeps_fnil | refine keeps_skip (h := ?_) | refine keeps_takeQ (h := ?_))), ?_⟩)
    (refine XD_end (h := ?_); repeat (first | refine Zq ?_ | refine Zs ?_ | refine ZT ?_ | refine ZF ?_ | refine Zc ?_ | refine XO_gU (hk := ?_)))
    repeat (first | refine XD_pick (h := ?_) | refine Dq ?_ | refine Ds ?_ | refine XDi_gF (h := ?_) | refine XDi_gU (h := ?_) | refine X_draws (h := ?_))
    refine Dp (pv_neRec [hd.pages, hd.kind, hd.owner, hd.next] [hd.pages, hd.kind, hd.owner, hd.next]) ?_
    repeat (first | refine XD_pick (h := ?_) | refine Dq ?_ | refine Ds ?_ | refine XDi_gF (h := ?_) | refine XDi_gU (h := ?_) | refine X_draws (h := ?_))
    (refine XD_end (h := ?_); repeat (first | refine Zq ?_ | refine Zs ?_ | refine ZT ?_ | refine ZF ?_ | refine Zc ?_ | refine XO_gU (hk := ?_)))
    refine X_cond rfl (fun h => by simp at h) (fun _ => ?_)
    repeat (first | refine Zq ?_ | refine Zs ?_ | refine ZT ?_ | refine ZF ?_ | refine Zc ?_ | refine XO_gU (hk := ?_))
    exact X_round (j + 1, hrM 3000 m p) ⟨by show j + 1 ≤ got.length; omega, hK⟩ (by show got.length - (j + 1) < got.length - j; omega) (by (repeat (first | exact Env.sub_nil _ | refine Env.sub_cons rfl ?_))) (by ((try simp only [List.cons_append, List.nil_append]); repeat (first | exact ent_refl | refine ent_take (by repeat (first | exact Find.here | apply Find.there)) ?_ | refine ent_drop ?_)))
  · obtain rfl : j = got.length := by omega
    repeat (first | refine Zq ?_ | refine Zs ?_ | refine ZT ?_ | refine ZF ?_ | refine Zc ?_ | refine XO_gU (hk := ?_))
    have hfree := kfree_spec s sb C hK.ci.ok
    rw [hf] at hfree
    refine XO_call hfree (hk := ?_)
    rintro _ _ ⟨rfl, rfl⟩
    repeat (first | refine Zq ?_ | refine Zs ?_ | refine ZT ?_ | refine ZF ?_ | refine Zc ?_ | refine XO_gU (hk := ?_))
    refine XO_known true (hb := by simp [totI]) (hk := ?_)
    repeat (first | refine Zq ?_ | refine Zs ?_ | refine ZT ?_ | refine ZF ?_ | refine Zc ?_ | refine XO_gU (hk := ?_))
    refine XE_ret (.inl rfl) (tells_tmps rfl rfl) ⟨_, ⟨?_, rfl⟩, by ((try simp only [List.cons_append, List.nil_append]); repeat (first | exact ent_refl | refine ent_take (by repeat (first | exact Find.here | apply Find.there)) ?_ | refine ent_drop ?_))⟩
    rfl
end Go.Proofs.Yteobjankkcdaoaa.Sep
