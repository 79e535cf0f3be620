import Derived.Test.YteobjankkcdaoaaBn9
import Derived.Test.YteobjankkcdaoaaBn10
import Derived.Test.YteobjankkcdaoaaBn8
/- The law Law10A: it answers true whatever it is given, and what was there stays. No conditions. -/
namespace Go.Proofs.Yteobjankkcdaoaa.Sep
open Go.RowKit
set_option linter.unusedSimpArgs false
set_option linter.unusedVariables false
/-! when all chunks are put, and trimmed, all pages are one run -/
theorem allf : ∀ P : Fin 65, 1 ≤ P.val → rnd P.val ≤ P.val ∨ bitop .and .i64 (P.val : Int) ((P.val : Int) - 1) ≠ 0 := by decide +kernel
set_option maxHeartbeats 8000000
attribute [local irreducible] X XE XO XD XDi XDa PV RV DV pt base Spec Sl Mp Keeps Pg Kc Pgs Spc Ck XL XLi
theorem all10 (pages : Int) (a : Option Addr) (c : Nat) (xs : List (List Int)) (hp : 0 ≤ pages ∧ pages ≤ 255) (hw : ∀ x ∈ xs, WfR (.u8 :: act10Ks) x) (W : World) (hV : View (base W) (eR .u8 act10Ks) a xs) :
    Calls Try.prog 6 #[.int .u8 pages, .slice a xs.length c] W fun e w' => e = .returned (.bool true) ∧ Below W.heap.size W w' := by
  refine law_intro (args := [.int .u8 pages, .slice a xs.length c]) Try.func6 rfl Try.ntmps6 (by simp) ?_
  simp only [envOf, List.zipIdx, List.map, List.cons_append, List.nil_append, Nat.zero_add, Nat.reduceAdd]
  repeat (first | refine Zq ?_ | refine Zs ?_ | refine ZT ?_ | refine ZF ?_ | refine Zc ?_ | refine XO_gU (hk := ?_))
  refine XO_call awake10_spec (hk := ?_)
  rintro _ _ ⟨rfl, rfl⟩
  repeat (first | refine Zq ?_ | refine Zs ?_ | refine ZT ?_ | refine ZF ?_ | refine Zc ?_ | refine XO_gU (hk := ?_))
  refine X_cond rfl (fun h => by cases h) (fun _ => ?_)
  repeat (first | refine Zq ?_ | refine Zs ?_ | refine ZT ?_ | refine ZF ?_ | refine Zc ?_ | refine XO_gU (hk := ?_))
  refine X_cond rfl (fun h2 => ?_) (fun h2 => ?_) <;> simp only [decide_eq_true_eq, decide_eq_false_iff_not] at h2
  · repeat (first | refine Zq ?_ | refine Zs ?_ | refine ZT ?_ | refine ZF ?_ | refine Zc ?_ | refine XO_gU (hk := ?_))
    refine XE_ret (.inl rfl) (tells_tmps rfl rfl) ⟨_, ⟨rfl, rfl⟩, by ((try simp only [List.cons_append, List.nil_append]); repeat (first | exact ent_refl | refine ent_take (by repeat (first | exact Find.here | apply Find.there)) ?_ | refine ent_drop ?_))⟩
  repeat (first | refine Zq ?_ | refine Zs ?_ | refine ZT ?_ | refine ZF ?_ | refine Zc ?_ | refine XO_gU (hk := ?_))
  refine XO_call (knew_spec pages) (hk := ?_)
  rintro _ _ ⟨s, sb, rfl, rfl⟩
  have hK0 := knew pages (⟨fun _ => 0, 0⟩ : Mm).f
  have hP0 : (⟨min (max pages 1) 1048576, [(0, min (max pages 1) 1048576)], fun _ => [], 0⟩ : Co).P = min (max pages 1) 1048576 := rfl
  have hPb : 1 ≤ min (max pages 1) 1048576 ∧ min (max pages 1) 1048576 ≤ 255 := by omega
  generalize (⟨min (max pages 1) 1048576, [(0, min (max pages 1) 1048576)], fun _ => [], 0⟩ : Co) = C0 at hK0 hP0 ⊢
  generalize (⟨fun _ => 0, 0⟩ : Mm) = m0 at hK0 ⊢
  generalize min (max pages 1) 1048576 = P at hP0 hPb ⊢
  repeat (first | refine Zq ?_ | refine Zs ?_ | refine ZT ?_ | refine ZF ?_ | refine Zc ?_ | refine XO_gU (hk := ?_))
  refine XO_call (kspace_spec s sb C0) (hk := ?_)
  rintro _ _ ⟨rfl, rfl⟩
  repeat (first | refine Zq ?_ | refine Zs ?_ | refine ZT ?_ | refine ZF ?_ | refine Zc ?_ | refine XO_gU (hk := ?_))
  refine XO_call (spages_spec sb P m0) (hk := ?_)
  rintro _ _ ⟨rfl, rfl⟩
  repeat (first | refine Zq ?_ | refine Zs ?_ | refine ZT ?_ | refine ZF ?_ | refine Zc ?_ | refine XO_gU (hk := ?_))
  refine X_conv (fun _ h => SL_nilSl (eI .i64) h) ?_
  refine X_loop (ι := Nat × Co × Mm × List (Int × Hd) × Option Addr × Nat) (fun q => q.1 ≤ xs.length ∧ KInv q.2.1 q.2.2.1.f q.2.2.2.1 ∧ q.2.1.P = P ∧ q.2.2.2.1.length ≤ q.1)
    (fun q => [(1, .slice a xs.length c), (6, .pointer (some ⟨s, 0, none⟩)), (7, .int .i64 P), (8, .slice q.2.2.2.2.1 (q.2.2.2.1.map (·.1)).length q.2.2.2.2.2), (9, .int .i64 (q.1 : Int))])
    (fun q => [Ck s sb q.2.1, Spc sb P q.2.2.1, Sl (eI .i64) q.2.2.2.2.1 q.2.2.2.2.2 (q.2.2.2.1.map (·.1)), base W]) (fun q => xs.length - q.1) (0, C0, m0, [], none, 0) ⟨Nat.zero_le _, hK0, hP0, Nat.le_refl _⟩ ?_ (by ((try simp only [List.cons_append, List.nil_append]); repeat (first | exact ent_refl | refine ent_take (by repeat (first | exact Find.here | apply Find.there)) ?_ | refine ent_drop ?_))) ?_
  · (repeat (first | exact Env.sub_nil _ | refine Env.sub_cons rfl ?_))
  clear hK0 hP0
  rintro ⟨i, C, m, got, ag, cg⟩ ⟨hi, hK, hP, hgl⟩
  dsimp only at hi hK hP hgl ⊢
  repeat (first | refine Zq ?_ | refine Zs ?_ | refine ZT ?_ | refine ZF ?_ | refine Zc ?_ | refine XO_gU (hk := ?_))
  refine X_cond rfl (fun hc => ?_) (fun hc => ?_) <;> simp only [decide_eq_true_eq, decide_eq_false_iff_not] at hc
  · have hil : i < xs.length := by omega
    obtain ⟨d, p, kd, o, w, hx, hd, ho, hw5, hpp, hkk⟩ := wf_act10 (hw xs[i] (List.getElem_mem hil))
    have hgk : xs[i]? = some [d, p, kd, o, w] := by rw [List.getElem?_eq_getElem hil, hx]
    refine X_view (by (repeat (first | exact Find.here | apply Find.there))) hV (by omega) ?_
    rintro b oo rfl
    repeat (first | refine Zq ?_ | refine Zs ?_ | refine ZT ?_ | refine ZF ?_ | refine Zc ?_ | refine XO_gU (hk := ?_))
    refine X_cond rfl (fun h3 => ?_) (fun h3 => ?_) <;> simp only [beq_iff_eq, beq_eq_false_iff_ne] at h3
    · subst h3
      obtain ⟨C', m', pg, n, e, s1, hP', hcase⟩ := kget_law s sb p kd hK hP ho
      repeat (first | refine Zq ?_ | refine Zs ?_ | refine ZT ?_ | refine ZF ?_ | refine Zc ?_ | refine XO_gU (hk := ?_))
      repeat (first | refine XD_pick (h := ?_) | refine Dq ?_ | refine Ds ?_ | refine XDi_gF (h := ?_) | refine XDi_gU (h := ?_) | refine X_draws (h := ?_))
      refine XD_one (h := ?_)
      refine XDa_dvA (dv_call s1) (hk := ?_)
      (rintro _ _ ⟨_, ⟨rfl, rfl⟩, rfl⟩; refine ⟨by (repeat (first | exact keeps_nil | exact keeps_fnil | refine keeps_skip (h := ?_) | refine keeps_takeQ (h := ?_))), ?_⟩)
      repeat (first | refine XD_pick (h := ?_) | refine Dq ?_ | refine Ds ?_ | refine XDi_gF (h := ?_) | refine XDi_gU (h := ?_) | refine X_draws (h := ?_))
      (refine XD_one (h := ?_); refine XDa_dvA (dv_of_rv (rv_of_pv pv_assign)) (hk := ?_); rintro _ _ ⟨rfl, rfl⟩; refine ⟨by (repeat (first | exact keeps_nil | exact keeps_fnil | refine keeps_skip (h := ?_) | refine keeps_takeQ (h := ?_))), ?_⟩)
      (refine XD_one (h := ?_); refine XDa_dvA (dv_of_rv (rv_of_pv pv_assign)) (hk := ?_); rintro _ _ ⟨rfl, rfl⟩; refine ⟨by (repeat (first | exact keeps_nil | exact keeps_fnil | refine keeps_skip (h := ?_) | refine keeps_takeQ (h := ?_))), ?_⟩)
      (refine XD_one (h := ?_); refine XDa_dvA (dv_of_rv (rv_of_pv pv_assign)) (hk := ?_); rintro _ _ ⟨rfl, rfl⟩; refine ⟨by (repeat (first | exact keeps_nil | exact keeps_fnil | refine keeps_skip (h := ?_) | refine keeps_takeQ (h := ?_))), ?_⟩)
      (refine XD_end (h := ?_); repeat (first | refine Zq ?_ | refine Zs ?_ | refine ZT ?_ | refine ZF ?_ | refine Zc ?_ | refine XO_gU (hk := ?_)))
      rcases hcase with ⟨rfl, hK', -⟩ | ⟨he, hK'⟩
      · refine X_cond rfl (fun _ => ?_) (fun h => by cases h)
        repeat (first | refine Zq ?_ | refine Zs ?_ | refine ZT ?_ | refine ZF ?_ | refine Zc ?_ | refine XO_gU (hk := ?_))
        refine XO_lit (E' := eI .i64) [pg] (hk := ?_)
        intro lb
        repeat (first | refine Zq ?_ | refine Zs ?_ | refine ZT ?_ | refine ZF ?_ | refine Zc ?_ | refine XO_gU (hk := ?_))
        refine XO_dv (dv_append (E' := eI .i64) (xs := got.map (·.1)) (ys := [pg]) (hv := Sl.view) (hb := by simp; omega)) (hk := ?_)
        rintro _ _ ⟨a', c', rfl, rfl⟩
        repeat (first | refine Zq ?_ | refine Zs ?_ | refine ZT ?_ | refine ZF ?_ | refine Zc ?_ | refine XO_gU (hk := ?_))
        refine X_cond rfl (fun h => by cases h) (fun _ => ?_)
        repeat (first | refine Zq ?_ | refine Zs ?_ | refine ZT ?_ | refine ZF ?_ | refine Zc ?_ | refine XO_gU (hk := ?_))
        have e1 : (got ++ [(pg, (⟨n, kd, o, 0⟩ : Hd))]).map (·.1) = got.map (·.1) ++ [pg] := by simp
        rw [← e1]
        exact X_round (i + 1, C', m', got ++ [(pg, ⟨n, kd, o, 0⟩)], a', c') ⟨by show i + 1 ≤ xs.length; omega, hK', hP', by simp; omega⟩ (by show xs.length - (i + 1) < xs.length - i; omega) (by (repeat (first | exact Env.sub_nil _ | refine Env.sub_cons rfl ?_))) (by ((try simp only [List.cons_append, List.nil_append]); repeat (first | exact ent_refl | refine ent_take (by repeat (first | exact Find.here | apply Find.there)) ?_ | refine ent_drop ?_)))
      · refine X_cond rfl (fun h => absurd (by simpa using h) he) (fun _ => ?_)
        repeat (first | refine Zq ?_ | refine Zs ?_ | refine ZT ?_ | refine ZF ?_ | refine Zc ?_ | refine XO_gU (hk := ?_))
        refine X_cond rfl (fun h => by cases h) (fun _ => ?_)
        repeat (first | refine Zq ?_ | refine Zs ?_ | refine ZT ?_ | refine ZF ?_ | refine Zc ?_ | refine XO_gU (hk := ?_))
        exact X_round (i + 1, C', m', got, ag, cg) ⟨by show i + 1 ≤ xs.length; omega, hK', hP', by show got.length ≤ i + 1; omega⟩ (by show xs.length - (i + 1) < xs.length - i; omega) (by (repeat (first | exact Env.sub_nil _ | refine Env.sub_cons rfl ?_))) (by ((try simp only [List.cons_append, List.nil_append]); repeat (first | exact ent_refl | refine ent_take (by repeat (first | exact Find.here | apply Find.there)) ?_ | refine ent_drop ?_)))
    · repeat (first | refine Zq ?_ | refine Zs ?_ | refine ZT ?_ | refine ZF ?_ | refine Zc ?_ | refine XO_gU (hk := ?_))
      have hdd : [d, p, kd, o, w].headD 0 = d := rfl
      rw [hdd]
      refine XO_either (hT := fun h4 => ?_) (hF := fun h4 => ?_) <;> simp only [beq_iff_eq, beq_eq_false_iff_ne] at h4
      · repeat (first | refine Zq ?_ | refine Zs ?_ | refine ZT ?_ | refine ZF ?_ | refine Zc ?_ | refine XO_gU (hk := ?_))
        refine X_cond rfl (fun h5 => ?_) (fun h5 => ?_) <;> simp only [List.length_map, decide_eq_true_eq, decide_eq_false_iff_not] at h5
        · rcases List.eq_nil_or_concat got with rfl | ⟨l1, ⟨pg, hd⟩, rfl⟩
          · simp at h5
          rw [List.concat_eq_append] at hK hgl h5 ⊢
          have hl1 : ((l1 ++ [(pg, hd)]).map (·.1)).length = l1.length + 1 := by simp
          have hgp : ((l1 ++ [(pg, hd)]).map (·.1))[((((l1 ++ [(pg, hd)]).map (·.1)).length : Int) - 1).toNat]? = some pg := by
            rw [hl1, show (((l1.length + 1 : Nat) : Int) - 1).toNat = l1.length from by omega]
            simp
          refine X_slopen (E' := eI .i64) (a := ag) (c := cg) (xs := (l1 ++ [(pg, hd)]).map (·.1)) (by (repeat (first | exact Find.here | apply Find.there))) (by rw [hl1]; omega) ?_
          rintro gb go rfl
          refine X_fact (A := Sl (eI .i64) (some ⟨gb, go, none⟩) cg ((l1 ++ [(pg, hd)]).map (·.1))) (by (repeat (first | exact Find.here | apply Find.there))) Sl.cap (fun hcap => ?_)
          have hl2 : l1.length + 1 ≤ i := by simpa using hgl
          repeat (first | refine Zq ?_ | refine Zs ?_ | refine ZT ?_ | refine ZF ?_ | refine Zc ?_ | refine XO_gU (hk := ?_))
          refine XO_call (kput_ok s sb hK hP) (hk := ?_)
          rintro _ _ ⟨rfl, rfl⟩
          obtain ⟨hK2, hP2⟩ := kput_inv hK hP
          rw [List.append_nil] at hK2
          repeat (first | refine Zq ?_ | refine Zs ?_ | refine ZT ?_ | refine ZF ?_ | refine Zc ?_ | refine XO_gU (hk := ?_))
          refine X_cond rfl (fun h => by cases h) (fun _ => ?_)
          repeat (first | refine Zq ?_ | refine Zs ?_ | refine ZT ?_ | refine ZF ?_ | refine Zc ?_ | refine XO_gU (hk := ?_))
          have ht : ((l1 ++ [(pg, hd)]).map (·.1)).take l1.length = l1.map (·.1) := by
            rw [List.map_append]; exact List.take_left' (by simp)
          refine XE_conv (fun _ => SL_take (E' := eI .i64) (a := some ⟨gb, go, none⟩) (c := cg) (xs := (l1 ++ [(pg, hd)]).map (·.1)) l1.length (by (repeat (first | exact Find.here | apply Find.there)))) ?_
          rw [ht]
          refine XE_reval 8 (.slice (some ⟨gb, go, none⟩) (l1.map (·.1)).length cg) ?_ (hv := by rw [hl1, show (((l1.length + 1 : Nat) : Int) - 1).toNat = l1.length from by omega, List.length_map])
          exact X_round (i + 1, putC C (pg, hd.pages), kputM P m pg, l1, some ⟨gb, go, none⟩, cg) ⟨by show i + 1 ≤ xs.length; omega, hK2, hP2, by show l1.length ≤ i + 1; simp at hgl; omega⟩ (by show xs.length - (i + 1) < xs.length - i; omega) (by (repeat (first | exact Env.sub_nil _ | refine Env.sub_cons rfl ?_))) (by ((try simp only [List.cons_append, List.nil_append]); repeat (first | exact ent_refl | refine ent_take (by repeat (first | exact Find.here | apply Find.there)) ?_ | refine ent_drop ?_)))
        · repeat (first | refine Zq ?_ | refine Zs ?_ | refine ZT ?_ | refine ZF ?_ | refine Zc ?_ | refine XO_gU (hk := ?_))
          exact X_round (i + 1, C, m, got, ag, cg) ⟨by show i + 1 ≤ xs.length; omega, hK, hP, by show got.length ≤ i + 1; omega⟩ (by show xs.length - (i + 1) < xs.length - i; omega) (by (repeat (first | exact Env.sub_nil _ | refine Env.sub_cons rfl ?_))) (by ((try simp only [List.cons_append, List.nil_append]); repeat (first | exact ent_refl | refine ent_take (by repeat (first | exact Find.here | apply Find.there)) ?_ | refine ent_drop ?_)))
      · repeat (first | refine Zq ?_ | refine Zs ?_ | refine ZT ?_ | refine ZF ?_ | refine Zc ?_ | refine XO_gU (hk := ?_))
        refine X_cond rfl (fun h => by cases h) (fun _ => ?_)
        repeat (first | refine Zq ?_ | refine Zs ?_ | refine ZT ?_ | refine ZF ?_ | refine Zc ?_ | refine XO_gU (hk := ?_))
        exact X_round (i + 1, C, m, got, ag, cg) ⟨by show i + 1 ≤ xs.length; omega, hK, hP, by show got.length ≤ i + 1; omega⟩ (by show xs.length - (i + 1) < xs.length - i; omega) (by (repeat (first | exact Env.sub_nil _ | refine Env.sub_cons rfl ?_))) (by ((try simp only [List.cons_append, List.nil_append]); repeat (first | exact ent_refl | refine ent_take (by repeat (first | exact Find.here | apply Find.there)) ?_ | refine ent_drop ?_)))
  repeat (first | refine Zq ?_ | refine Zs ?_ | refine ZT ?_ | refine ZF ?_ | refine Zc ?_ | refine XO_gU (hk := ?_))
  refine X_loop (ι := Nat × Co × Mm) (fun q => q.1 ≤ got.length ∧ KInv q.2.1 q.2.2.f (got.drop q.1) ∧ q.2.1.P = P)
    (fun q => [(6, .pointer (some ⟨s, 0, none⟩)), (7, .int .i64 P), (8, .slice ag (got.map (·.1)).length cg), (13, .int .i64 (q.1 : Int))])
    (fun q => [Ck s sb q.2.1, Spc sb P q.2.2, Sl (eI .i64) ag cg (got.map (·.1)), base W]) (fun q => got.length - q.1) (0, C, m) ⟨Nat.zero_le _, hK, hP⟩ ?_ (by ((try simp only [List.cons_append, List.nil_append]); repeat (first | exact ent_refl | refine ent_take (by repeat (first | exact Find.here | apply Find.there)) ?_ | refine ent_drop ?_))) ?_
  · (repeat (first | exact Env.sub_nil _ | refine Env.sub_cons rfl ?_))
  clear hK hP
  rintro ⟨j, C, m⟩ ⟨hj, hK, hP⟩
  dsimp only at hj hK hP ⊢
  repeat (first | refine Zq ?_ | refine Zs ?_ | refine ZT ?_ | refine ZF ?_ | refine Zc ?_ | refine XO_gU (hk := ?_))
  refine X_cond rfl (fun hc2 => ?_) (fun hc2 => ?_) <;> simp only [List.length_map, decide_eq_true_eq, decide_eq_false_iff_not] at hc2
  · have hjl : j < got.length := by omega
    have hgj : (got.map (·.1))[j]? = some got[j].1 := by rw [List.getElem?_map, List.getElem?_eq_getElem hjl]; rfl
    rw [List.drop_eq_getElem_cons hjl] at hK
    generalize got[j] = q at hgj hK
    obtain ⟨pg, hd⟩ := q
    simp only at hgj
    refine X_slopen (E' := eI .i64) (a := ag) (c := cg) (xs := got.map (·.1)) (by (repeat (first | exact Find.here | apply Find.there))) (by simp; omega) ?_
    rintro gb go rfl
    have hlt1 : (j : Int) < ((got.map (·.1)).length : Int) := by simp; omega
    repeat (first | refine Zq ?_ | refine Zs ?_ | refine ZT ?_ | refine ZF ?_ | refine Zc ?_ | refine XO_gU (hk := ?_))
    refine XO_call (kput_ok s sb (l1 := []) hK hP) (hk := ?_)
    rintro _ _ ⟨rfl, rfl⟩
    obtain ⟨hK2, hP2⟩ := kput_inv (l1 := []) hK hP
    repeat (first | refine Zq ?_ | refine Zs ?_ | refine ZT ?_ | refine ZF ?_ | refine Zc ?_ | refine XO_gU (hk := ?_))
    refine X_cond rfl (fun h => by cases h) (fun _ => ?_)
    repeat (first | refine Zq ?_ | refine Zs ?_ | refine ZT ?_ | refine ZF ?_ | refine Zc ?_ | refine XO_gU (hk := ?_))
    exact X_round (j + 1, putC C (pg, hd.pages), kputM P m pg) ⟨by show j + 1 ≤ got.length; omega, hK2, hP2⟩ (by show got.length - (j + 1) < got.length - j; omega) (by (repeat (first | exact Env.sub_nil _ | refine Env.sub_cons rfl ?_))) (by ((try simp only [List.cons_append, List.nil_append]); repeat (first | exact ent_refl | refine ent_take (by repeat (first | exact Find.here | apply Find.there)) ?_ | refine ent_drop ?_)))
  obtain rfl : j = got.length := by omega
  rw [List.drop_of_length_le (Nat.le_refl _)] at hK
  repeat (first | refine Zq ?_ | refine Zs ?_ | refine ZT ?_ | refine ZF ?_ | refine Zc ?_ | refine XO_gU (hk := ?_))
  refine XO_call (ctrim_spec s sb C hK.ci.ok) (hk := ?_)
  rintro _ _ ⟨rfl, rfl⟩
  have hfr : (trimC C).fr = [(0, P)] := by rw [kdone hK, hP]
  have hks : (trimC C).ks = fun _ => [] := rfl
  have hK2 := ktrim hK
  have hP2 : (trimC C).P = P := hP
  clear hK hP
  generalize trimC C = C2 at hfr hks hK2 hP2 ⊢
  repeat (first | refine Zq ?_ | refine Zs ?_ | refine ZT ?_ | refine ZF ?_ | refine Zc ?_ | refine XO_gU (hk := ?_))
  have s2 := kruns_spec s sb C2 (by rw [hfr]; simp)
  rw [hfr] at s2
  refine XO_call s2 (hk := ?_)
  rintro _ _ ⟨ra, rc, rfl, rfl⟩
  repeat (first | refine Zq ?_ | refine Zs ?_ | refine ZT ?_ | refine ZF ?_ | refine Zc ?_ | refine XO_gU (hk := ?_))
  refine XO_slopen (E' := eRun) (a := ra) (c := rc) (xs := [(0, P)]) (by (repeat (first | exact Find.here | apply Find.there))) (by simp) ?_
  rintro rb ro rfl
  have hg1 : ([(0, P)] : List (Int × Int)).length = 1 := rfl
  have hg0 : ([(0, P)] : List (Int × Int))[0]? = some (0, P) := rfl
  repeat (first | refine Zq ?_ | refine Zs ?_ | refine ZT ?_ | refine ZF ?_ | refine Zc ?_ | refine XO_gU (hk := ?_))
  trace_state
  refine XO_pv (pv_neRec [0, P] [0, P]) (hk := ?_)
  repeat (first | refine Zq ?_ | refine Zs ?_ | refine ZT ?_ | refine ZF ?_ | refine Zc ?_ | refine XO_gU (hk := ?_))
  refine XO_known false (hb := by simp) (hk := ?_)
  repeat (first | refine Zq ?_ | refine Zs ?_ | refine ZT ?_ | refine ZF ?_ | refine Zc ?_ | refine XO_gU (hk := ?_))
  have s3 := kcached_spec s sb C2 hK2.ci.ok
  rw [hks] at s3
  refine XO_call s3 (hk := ?_)
  rintro _ _ ⟨ra2, rc2, rfl, rfl⟩
  repeat (first | refine Zq ?_ | refine Zs ?_ | refine ZT ?_ | refine ZF ?_ | refine Zc ?_ | refine XO_gU (hk := ?_))
  refine X_cond rfl (fun h => by cases h) (fun _ => ?_)
  repeat (first | refine Zq ?_ | refine Zs ?_ | refine ZT ?_ | refine ZF ?_ | refine Zc ?_ | refine XO_gU (hk := ?_))
  have hb : ¬ bad P 1 := by unfold bad; omega
  by_cases hz : (getC C2 (rnd P)).2.2 = 0
  · refine XO_call (kget_ok s sb (o := 1) hK2 hP2 (by decide) hb hz) (hk := ?_)
    rintro _ _ ⟨rfl, rfl⟩
    obtain ⟨r1, r2, -, -, r5, -⟩ := rnd_ok (p := P) (by omega) (by omega)
    repeat (first | refine Zq ?_ | refine Zs ?_ | refine ZT ?_ | refine ZF ?_ | refine Zc ?_ | refine XO_gU (hk := ?_))
    refine X_cond rfl (fun h => ?_) (fun h => ?_) <;> simp only [decide_eq_true_eq, decide_eq_false_iff_not] at h
    · repeat (first | refine Zq ?_ | refine Zs ?_ | refine ZT ?_ | refine ZF ?_ | refine Zc ?_ | refine XO_gU (hk := ?_))
      refine XE_ret (.inl rfl) (tells_tmps rfl rfl) ⟨_, ⟨?_, rfl⟩, by ((try simp only [List.cons_append, List.nil_append]); repeat (first | exact ent_refl | refine ent_take (by repeat (first | exact Find.here | apply Find.there)) ?_ | refine ent_drop ?_))⟩
      exact congrArg Value.bool (by simp [r5 h])
    · repeat (first | refine Zq ?_ | refine Zs ?_ | refine ZT ?_ | refine ZF ?_ | refine Zc ?_ | refine XO_gU (hk := ?_))
      refine XO_known true (hb := decide_eq_true r1) (hk := ?_)
      repeat (first | refine Zq ?_ | refine Zs ?_ | refine ZT ?_ | refine ZF ?_ | refine Zc ?_ | refine XO_gU (hk := ?_))
      refine XE_ret (.inl rfl) (tells_tmps rfl rfl) ⟨_, ⟨?_, rfl⟩, by ((try simp only [List.cons_append, List.nil_append]); repeat (first | exact ent_refl | refine ent_take (by repeat (first | exact Find.here | apply Find.there)) ?_ | refine ent_drop ?_))⟩
      rfl
  · refine XO_call (kget_no s sb (o := 1) hK2.ci.ok hP2 hb hz) (hk := ?_)
    rintro _ _ ⟨rfl, rfl⟩
    obtain ⟨-, -, hn⟩ := kget_full hK2 hP2 hb hz
    have hfr3 : (trimC C2).fr = [(0, P)] := (kdone hK2).trans (by rw [hP2])
    have hn2 := hn (0, P) (by rw [hfr3]; simp)
    simp only at hn2
    repeat (first | refine Zq ?_ | refine Zs ?_ | refine ZT ?_ | refine ZF ?_ | refine Zc ?_ | refine XO_gU (hk := ?_))
    refine X_cond rfl (fun h => ?_) (fun h => ?_) <;> simp only [decide_eq_true_eq, decide_eq_false_iff_not] at h
    · exfalso
      have := (rnd_ok (p := P) (by omega) (by omega)).2.2.2.2.1 h
      omega
    · repeat (first | refine Zq ?_ | refine Zs ?_ | refine ZT ?_ | refine ZF ?_ | refine Zc ?_ | refine XO_gU (hk := ?_))
      refine XE_ret (.inl rfl) (tells_tmps rfl rfl) ⟨_, ⟨?_, rfl⟩, by ((try simp only [List.cons_append, List.nil_append]); repeat (first | exact ent_refl | refine ent_take (by repeat (first | exact Find.here | apply Find.there)) ?_ | refine ent_drop ?_))⟩
      have h7 := allf ⟨P.toNat, by omega⟩ (by show 1 ≤ P.toNat; omega)
      simp only at h7
      rw [show ((P.toNat : Nat) : Int) = P from by omega] at h7
      have h8 := h7.resolve_left (by omega)
      exact congrArg Value.bool (by simpa using h8)
end Go.Proofs.Yteobjankkcdaoaa.Sep
