import Derived.Test.YteobjankkcdaoaaBn9
import Derived.Test.YteobjankkcdaoaaBn10
import Derived.Test.YteobjankkcdaoaaBn8
/- The law Law10P: it answers true whatever it is given, and what was there stays. No conditions. -/
namespace Go.Proofs.Yteobjankkcdaoaa.Sep
open Go.RowKit
set_option linter.unusedSimpArgs false
set_option linter.unusedVariables false
/-! each page is in a free run, in a chunk that is kept, or in one that was got and not put -/
instance teq_headP : TEq Try.prog 45 [.i64, .i64, .u64, .u64] := ⟨_, Try.underlying45, by kernel_rfl, by kernel_rfl, ⟨by decide, rfl, Try.underlying3, by decide, rfl, Try.underlying3, by decide, rfl, Try.underlying26, by decide, rfl, Try.underlying26, trivial⟩⟩
abbrev ApS := Co × Mm × List (Int × Hd) × Option Addr × Nat
def apI (P : Int) (n : Nat) (q : ApS) : Prop := KInv q.1 q.2.1.f q.2.2.1 ∧ q.1.P = P ∧ q.2.2.1.length ≤ n
theorem gr_len (got : List (Int × Hd)) : (gr got).length = got.length := by simp [gr]
set_option maxHeartbeats 8000000
attribute [local irreducible] X XE XO XD XDi XDa PV RV DV pt base Spec Sl Mp Keeps Pg Kc Pgs Spc Ck XL XLi
theorem apart10 (pages : Int) (a : Option Addr) (c : Nat) (xs : List (List Int)) (hp : 0 ≤ pages ∧ pages ≤ 255) (hw : ∀ x ∈ xs, WfR (.u8 :: act10Ks) x) (W : World) (hV : View (base W) (eR .u8 act10Ks) a xs) :
    Calls Try.prog 5 #[.int .u8 pages, .slice a xs.length c] W fun e w' => e = .returned (.bool true) ∧ Below W.heap.size W w' := by
  refine law_intro (args := [.int .u8 pages, .slice a xs.length c]) Try.func5 rfl Try.ntmps5 (by simp) ?_
  simp only [envOf, List.zipIdx, List.map, List.cons_append, List.nil_append, Nat.zero_add, Nat.reduceAdd]
  repeat (first | refine Zq ?_ | refine Zs ?_ | refine ZT ?_ | refine ZF ?_ | refine Zc ?_ | refine XO_gU (hk := ?_))
  refine XO_call awake10_spec (hk := ?_)
  rintro _ _ ⟨rfl, rfl⟩
  repeat (first | refine Zq ?_ | refine Zs ?_ | refine ZT ?_ | refine ZF ?_ | refine Zc ?_ | refine XO_gU (hk := ?_))
  refine X_cond rfl (fun h => by cases h) (fun _ => ?_)
  repeat (first | refine Zq ?_ | refine Zs ?_ | refine ZT ?_ | refine ZF ?_ | refine Zc ?_ | refine XO_gU (hk := ?_))
  refine X_cond rfl (fun h2 => ?_) (fun h2 => ?_) <;> simp only [decide_eq_true_eq, decide_eq_false_iff_not] at h2
  · repeat (first | refine Zq ?_ | refine Zs ?_ | refine ZT ?_ | refine ZF ?_ | refine Zc ?_ | refine XO_gU (hk := ?_))
    refine XE_ret (.inl rfl) (tells_tmps rfl rfl) ⟨_, ⟨rfl, rfl⟩, by ((try simp only [List.cons_append, List.nil_append]); repeat (first | exact ent_refl | refine ent_take (by repeat (first | exact Find.here | apply Find.there)) ?_ | refine ent_drop ?_))⟩
  repeat (first | refine Zq ?_ | refine Zs ?_ | refine ZT ?_ | refine ZF ?_ | refine Zc ?_ | refine XO_gU (hk := ?_))
  refine XO_call (knew_spec pages) (hk := ?_)
  rintro _ _ ⟨s, sb, rfl, rfl⟩
  have hK0 := knew pages (⟨fun _ => 0, 0⟩ : Mm).f
  have hP0 : (⟨min (max pages 1) 1048576, [(0, min (max pages 1) 1048576)], fun _ => [], 0⟩ : Co).P = min (max pages 1) 1048576 := rfl
  have hPb : 1 ≤ min (max pages 1) 1048576 ∧ min (max pages 1) 1048576 ≤ 255 := by omega
  generalize (⟨min (max pages 1) 1048576, [(0, min (max pages 1) 1048576)], fun _ => [], 0⟩ : Co) = C0 at hK0 hP0 ⊢
  generalize (⟨fun _ => 0, 0⟩ : Mm) = m0 at hK0 ⊢
  generalize min (max pages 1) 1048576 = P at hP0 hPb ⊢
  repeat (first | refine Zq ?_ | refine Zs ?_ | refine ZT ?_ | refine ZF ?_ | refine Zc ?_ | refine XO_gU (hk := ?_))
  refine XO_call (kspace_spec s sb C0) (hk := ?_)
  rintro _ _ ⟨rfl, rfl⟩
  repeat (first | refine Zq ?_ | refine Zs ?_ | refine ZT ?_ | refine ZF ?_ | refine Zc ?_ | refine XO_gU (hk := ?_))
  refine XO_call (spages_spec sb P m0) (hk := ?_)
  rintro _ _ ⟨rfl, rfl⟩
  repeat (first | refine Zq ?_ | refine Zs ?_ | refine ZT ?_ | refine ZF ?_ | refine Zc ?_ | refine XO_gU (hk := ?_))
  refine X_conv (fun _ h => SL_nilSl eRun h) ?_
  refine X_loop (ι := Nat × ApS) (fun q => q.1 ≤ xs.length ∧ apI P q.1 q.2)
    (fun q => [(1, .slice a xs.length c), (6, .pointer (some ⟨s, 0, none⟩)), (7, .int .i64 P), (8, .slice q.2.2.2.2.1 (gr q.2.2.2.1).length q.2.2.2.2.2), (9, .int .i64 (q.1 : Int))])
    (fun q => [Ck s sb q.2.1, Spc sb P q.2.2.1, Sl eRun q.2.2.2.2.1 q.2.2.2.2.2 (gr q.2.2.2.1), base W]) (fun q => xs.length - q.1) (0, C0, m0, [], none, 0) ⟨Nat.zero_le _, hK0, hP0, Nat.le_refl _⟩ ?_ (by ((try simp only [List.cons_append, List.nil_append]); repeat (first | exact ent_refl | refine ent_take (by repeat (first | exact Find.here | apply Find.there)) ?_ | refine ent_drop ?_))) ?_
  · (repeat (first | exact Env.sub_nil _ | refine Env.sub_cons rfl ?_))
  clear hK0 hP0
  rintro ⟨i, C, m, got, ag, cg⟩ ⟨hi, hK, hP, hgl⟩
  dsimp only at hi hK hP hgl ⊢
  repeat (first | refine Zq ?_ | refine Zs ?_ | refine ZT ?_ | refine ZF ?_ | refine Zc ?_ | refine XO_gU (hk := ?_))
  refine X_cond rfl (fun hc => ?_) (fun hc => ?_) <;> simp only [decide_eq_true_eq, decide_eq_false_iff_not] at hc
  case refine_2 =>
    repeat (first | refine Zq ?_ | refine Zs ?_ | refine ZT ?_ | refine ZF ?_ | refine Zc ?_ | refine XO_gU (hk := ?_))
    refine XE_ret (.inl rfl) (tells_tmps rfl rfl) ⟨_, ⟨rfl, rfl⟩, by ((try simp only [List.cons_append, List.nil_append]); repeat (first | exact ent_refl | refine ent_take (by repeat (first | exact Find.here | apply Find.there)) ?_ | refine ent_drop ?_))⟩
  have hil : i < xs.length := by omega
  obtain ⟨d, p, kd, o, w, hx, hd, ho, hw5, hpp, hkk⟩ := wf_act10 (hw xs[i] (List.getElem_mem hil))
  have hgk : xs[i]? = some [d, p, kd, o, w] := by rw [List.getElem?_eq_getElem hil, hx]
  refine X_view (by (repeat (first | exact Find.here | apply Find.there))) hV (by omega) ?_
  rintro b oo rfl
  repeat (first | refine Zq ?_ | refine Zs ?_ | refine ZT ?_ | refine ZF ?_ | refine Zc ?_ | refine XO_gU (hk := ?_))
  refine XO_dv (dv_alloc (row := [.int .u8 0, .int .i64 0, .int .i64 0, .int .u64 0, .int .u8 0])) (hk := ?_)
  rintro _ _ ⟨xb, rfl, rfl⟩
  refine XO_dv0 (dv_storeW (vs := [.int .u8 d, .int .i64 p, .int .i64 kd, .int .u64 o, .int .u8 w])) (hk := ?_)
  rintro _ _ rfl
  refine XO_nil ?_
  refine XE_code ?_
  refine X_seq ?_
  refine X_join (ι := ApS) (apI P (i + 1)) (fun q => [(1, .slice (some ⟨b, oo, none⟩) xs.length c), (6, .pointer (some ⟨s, 0, none⟩)), (7, .int .i64 P), (8, .slice q.2.2.2.1 (gr q.2.2.1).length q.2.2.2.2), (9, .int .i64 (i : Int)), (10, .pointer (some ⟨xb, 0, none⟩))]) (fun q => [Ck s sb q.1, Spc sb P q.2.1, Sl eRun q.2.2.2.1 q.2.2.2.2 (gr q.2.2.1), pt xb (.cells [.int .u8 d, .int .i64 p, .int .i64 kd, .int .u64 o, .int .u8 w].toArray 28 (0, 0)), base W]) ?_ ?_
  · obtain ⟨C', m', pg, n, e, s1, hP', hcase⟩ := kget_law s sb p kd hK hP ho
    repeat (first | refine Zq ?_ | refine Zs ?_ | refine ZT ?_ | refine ZF ?_ | refine Zc ?_ | refine XO_gU (hk := ?_))
    refine X_cond rfl (fun h3 => ?_) (fun h3 => ?_)
    · repeat (first | refine Zq ?_ | refine Zs ?_ | refine ZT ?_ | refine ZF ?_ | refine Zc ?_ | refine XO_gU (hk := ?_))
      refine XO_call s1 (hk := ?_)
      rintro _ _ ⟨rfl, rfl⟩
      repeat (first | refine Zq ?_ | refine Zs ?_ | refine ZT ?_ | refine ZF ?_ | refine Zc ?_ | refine XO_gU (hk := ?_))
      rcases hcase with ⟨rfl, hK', hpn⟩ | ⟨he, hK'⟩
      · refine X_cond rfl (fun _ => ?_) (fun h => by cases h)
        repeat (first | refine Zq ?_ | refine Zs ?_ | refine ZT ?_ | refine ZF ?_ | refine Zc ?_ | refine XO_gU (hk := ?_))
        refine XO_lit (E' := eRun) [(pg, n)] (hk := ?_)
        intro lb
        repeat (first | refine Zq ?_ | refine Zs ?_ | refine ZT ?_ | refine ZF ?_ | refine Zc ?_ | refine XO_gU (hk := ?_))
        refine XO_dv (dv_append (E' := eRun) (xs := gr got) (ys := [(pg, n)]) (hv := Sl.view) (hb := by simp [gr_len]; omega)) (hk := ?_)
        rintro _ _ ⟨a', c', rfl, rfl⟩
        repeat (first | refine Zq ?_ | refine Zs ?_ | refine ZT ?_ | refine ZF ?_ | refine Zc ?_ | refine XO_gU (hk := ?_))
        refine XO_call (kspace_spec s sb C') (hk := ?_)
        rintro _ _ ⟨rfl, rfl⟩
        repeat (first | refine Zq ?_ | refine Zs ?_ | refine ZT ?_ | refine ZF ?_ | refine Zc ?_ | refine XO_gU (hk := ?_))
        refine XO_call (hread_ok sb (l2 := []) hK' hP') (hk := ?_)
        rintro _ _ ⟨rfl, rfl⟩
        repeat (first | refine Zq ?_ | refine Zs ?_ | refine ZT ?_ | refine ZF ?_ | refine Zc ?_ | refine XO_gU (hk := ?_))
        refine XO_dv (dv_alloc (row := [.int .i64 0, .int .i64 0, .int .u64 0, .int .u64 0])) (hk := ?_)
        rintro _ _ ⟨hb, rfl, rfl⟩
        refine XO_dv0 (dv_storeW (vs := [.int .i64 n, .int .i64 kd, .int .u64 o, .int .u64 0])) (hk := ?_)
        rintro _ _ rfl
        repeat (first | refine Zq ?_ | refine Zs ?_ | refine ZT ?_ | refine ZF ?_ | refine Zc ?_ | refine XO_gU (hk := ?_))
        refine XO_pv (pv_buildG [.int .i64 n, .int .i64 kd, .int .u64 o, .int .u64 0]) (hk := ?_)
        repeat (first | refine Zq ?_ | refine Zs ?_ | refine ZT ?_ | refine ZF ?_ | refine Zc ?_ | refine XO_gU (hk := ?_))
        refine XO_pv (pv_neRec [n, kd, o, 0] [n, kd, o, 0]) (hk := ?_)
        repeat (first | refine Zq ?_ | refine Zs ?_ | refine ZT ?_ | refine ZF ?_ | refine Zc ?_ | refine XO_gU (hk := ?_))
        refine XO_known false (hb := by simp) (hk := ?_)
        repeat (first | refine Zq ?_ | refine Zs ?_ | refine ZT ?_ | refine ZF ?_ | refine Zc ?_ | refine XO_gU (hk := ?_))
        refine X_cond rfl (fun h => by simp at h; omega) (fun _ => ?_)
        repeat (first | refine Zq ?_ | refine Zs ?_ | refine ZT ?_ | refine ZF ?_ | refine Zc ?_ | refine XO_gU (hk := ?_))
        have e1 : gr (got ++ [(pg, (⟨n, kd, o, 0⟩ : Hd))]) = gr got ++ [(pg, n)] := by simp [gr]
        rw [← e1]
        exact X_meet (C', hrM P m' pg, got ++ [(pg, (⟨n, kd, o, 0⟩ : Hd))], a', c') ⟨hK', hP', by simp; omega⟩ (by (repeat (first | exact Env.sub_nil _ | refine Env.sub_cons rfl ?_))) (by ((try simp only [List.cons_append, List.nil_append]); repeat (first | exact ent_refl | refine ent_take (by repeat (first | exact Find.here | apply Find.there)) ?_ | refine ent_drop ?_)))
      · refine X_cond rfl (fun h => absurd (by simpa using h) he) (fun _ => ?_)
        repeat (first | refine Zq ?_ | refine Zs ?_ | refine ZT ?_ | refine ZF ?_ | refine Zc ?_ | refine XO_gU (hk := ?_))
        exact X_meet (C', m', got, ag, cg) ⟨hK', hP', by show got.length ≤ i + 1; omega⟩ (by (repeat (first | exact Env.sub_nil _ | refine Env.sub_cons rfl ?_))) (by ((try simp only [List.cons_append, List.nil_append]); repeat (first | exact ent_refl | refine ent_take (by repeat (first | exact Find.here | apply Find.there)) ?_ | refine ent_drop ?_)))
    · repeat (first | refine Zq ?_ | refine Zs ?_ | refine ZT ?_ | refine ZF ?_ | refine Zc ?_ | refine XO_gU (hk := ?_))
      exact X_meet (C, m, got, ag, cg) ⟨hK, hP, by show got.length ≤ i + 1; omega⟩ (by (repeat (first | exact Env.sub_nil _ | refine Env.sub_cons rfl ?_))) (by ((try simp only [List.cons_append, List.nil_append]); repeat (first | exact ent_refl | refine ent_take (by repeat (first | exact Find.here | apply Find.there)) ?_ | refine ent_drop ?_)))
  clear hK hP hgl
  clear C m got ag cg
  rintro ⟨C, m, got, ag, cg⟩ ⟨hK, hP, hgl⟩
  dsimp only at hK hP hgl ⊢
  refine X_seq ?_
  refine X_join (ι := ApS) (apI P (i + 1)) (fun q => [(1, .slice (some ⟨b, oo, none⟩) xs.length c), (6, .pointer (some ⟨s, 0, none⟩)), (7, .int .i64 P), (8, .slice q.2.2.2.1 (gr q.2.2.1).length q.2.2.2.2), (9, .int .i64 (i : Int)), (10, .pointer (some ⟨xb, 0, none⟩))]) (fun q => [Ck s sb q.1, Spc sb P q.2.1, Sl eRun q.2.2.2.1 q.2.2.2.2 (gr q.2.2.1), pt xb (.cells [.int .u8 d, .int .i64 p, .int .i64 kd, .int .u64 o, .int .u8 w].toArray 28 (0, 0)), base W]) ?_ ?_
  · repeat (first | refine Zq ?_ | refine Zs ?_ | refine ZT ?_ | refine ZF ?_ | refine Zc ?_ | refine XO_gU (hk := ?_))
    refine XO_either (hT := fun h3 => ?_) (hF := fun h3 => ?_)
    · repeat (first | refine Zq ?_ | refine Zs ?_ | refine ZT ?_ | refine ZF ?_ | refine Zc ?_ | refine XO_gU (hk := ?_))
      refine X_cond rfl (fun h5 => ?_) (fun h5 => ?_) <;> simp only [gr_len, decide_eq_true_eq, decide_eq_false_iff_not] at h5
      · have hgl2 := gr_len got
        have hr0 : 0 ≤ w % ((gr got).length : Int) := Int.emod_nonneg _ (by omega)
        have hr1 : w % ((gr got).length : Int) < ((gr got).length : Int) := Int.emod_lt_of_pos _ (by omega)
        obtain ⟨k, hk⟩ : ∃ k : Nat, k = (w % ((gr got).length : Int)).toNat := ⟨_, rfl⟩
        have hkl : k < got.length := by omega
        have hgg : (gr got)[(w % ((gr got).length : Int)).toNat]? = some (got[k].1, got[k].2.pages) := by rw [← hk]; unfold gr; rw [List.getElem?_map, List.getElem?_eq_getElem hkl]; rfl
        have hsp : got = got.take k ++ got[k] :: got.drop (k + 1) := by rw [← List.drop_eq_getElem_cons hkl, List.take_append_drop]
        generalize got[k] = q at hgg hsp
        obtain ⟨pg, hdq⟩ := q
        simp only at hgg
        refine X_slopen (E' := eRun) (a := ag) (c := cg) (xs := gr got) (by (repeat (first | exact Find.here | apply Find.there))) (by omega) ?_
        rintro gb go rfl
        refine X_fact (A := Sl eRun (some ⟨gb, go, none⟩) cg (gr got)) (by (repeat (first | exact Find.here | apply Find.there))) Sl.cap (fun hcap => ?_)
        repeat (first | refine Zq ?_ | refine Zs ?_ | refine ZT ?_ | refine ZF ?_ | refine Zc ?_ | refine XO_gU (hk := ?_))
        refine XO_call (kput_ok s sb (hsp ▸ hK) hP) (hk := ?_)
        rintro _ _ ⟨rfl, rfl⟩
        obtain ⟨hK2, hP2⟩ := kput_inv (hsp ▸ hK) hP
        repeat (first | refine Zq ?_ | refine Zs ?_ | refine ZT ?_ | refine ZF ?_ | refine Zc ?_ | refine XO_gU (hk := ?_))
        refine X_cond rfl (fun h => by cases h) (fun _ => ?_)
        repeat (first | refine Zq ?_ | refine Zs ?_ | refine ZT ?_ | refine ZF ?_ | refine Zc ?_ | refine XO_gU (hk := ?_))
        refine XO_conv (fun _ h => SL_nilSl eRun h) ?_
        have e3 : ((gr got).take k).length = (w % ((gr got).length : Int)).toNat := by rw [List.length_take]; omega
        refine XO_reval 119 (.slice (some ⟨gb, go, none⟩) ((gr got).take k).length cg) (hv := by rw [e3]) (hk := ?_)
        refine XO_dv (dv_append (E' := eRun) (a := none) (c := 0) (xs := []) (ys := (gr got).take k) (A := Sl eRun (some ⟨gb, go, none⟩) cg (gr got)) (hv := Sl.view.take k) (hb := by simp; omega)) (hk := ?_)
        rintro _ _ ⟨a1, c1, rfl, rfl⟩
        rw [List.nil_append]
        repeat (first | refine Zq ?_ | refine Zs ?_ | refine ZT ?_ | refine ZF ?_ | refine Zc ?_ | refine XO_gU (hk := ?_))
        have e4 : ((gr got).drop (k + 1)).length = (gr got).length - (w % ((gr got).length : Int) + 1).toNat := by rw [List.length_drop]; omega
        have e5 : (w % ((gr got).length : Int) + 1).toNat = k + 1 := by omega
        refine XO_reval 125 (.slice (subA (some ⟨gb, go, none⟩) (k + 1) cg 2) ((gr got).drop (k + 1)).length (cg - (k + 1))) (hv := by rw [e4, e5]) (hk := ?_)
        refine XO_dv (dv_append (E' := eRun) (xs := (gr got).take k) (ys := (gr got).drop (k + 1)) (A := Sl eRun (some ⟨gb, go, none⟩) cg (gr got)) (hv := Sl.view.drop (k + 1) rfl hcap) (hb := by simp; omega)) (hk := ?_)
        rintro _ _ ⟨a2, c2, rfl, rfl⟩
        repeat (first | refine Zq ?_ | refine Zs ?_ | refine ZT ?_ | refine ZF ?_ | refine Zc ?_ | refine XO_gU (hk := ?_))
        have e6 : gr (got.take k ++ got.drop (k + 1)) = (gr got).take k ++ (gr got).drop (k + 1) := by unfold gr; rw [List.map_append, List.map_take, List.map_drop]
        rw [← e6]
        exact X_meet (putC C (pg, hdq.pages), kputM P m pg, got.take k ++ got.drop (k + 1), a2, c2) ⟨hK2, hP2, by simp; omega⟩ (by (repeat (first | exact Env.sub_nil _ | refine Env.sub_cons rfl ?_))) (by ((try simp only [List.cons_append, List.nil_append]); repeat (first | exact ent_refl | refine ent_take (by repeat (first | exact Find.here | apply Find.there)) ?_ | refine ent_drop ?_)))
      · repeat (first | refine Zq ?_ | refine Zs ?_ | refine ZT ?_ | refine ZF ?_ | refine Zc ?_ | refine XO_gU (hk := ?_))
        exact X_meet (C, m, got, ag, cg) ⟨hK, hP, hgl⟩ (by (repeat (first | exact Env.sub_nil _ | refine Env.sub_cons rfl ?_))) (by ((try simp only [List.cons_append, List.nil_append]); repeat (first | exact ent_refl | refine ent_take (by repeat (first | exact Find.here | apply Find.there)) ?_ | refine ent_drop ?_)))
    · repeat (first | refine Zq ?_ | refine Zs ?_ | refine ZT ?_ | refine ZF ?_ | refine Zc ?_ | refine XO_gU (hk := ?_))
      refine X_cond rfl (fun h => by cases h) (fun _ => ?_)
      repeat (first | refine Zq ?_ | refine Zs ?_ | refine ZT ?_ | refine ZF ?_ | refine Zc ?_ | refine XO_gU (hk := ?_))
      exact X_meet (C, m, got, ag, cg) ⟨hK, hP, hgl⟩ (by (repeat (first | exact Env.sub_nil _ | refine Env.sub_cons rfl ?_))) (by ((try simp only [List.cons_append, List.nil_append]); repeat (first | exact ent_refl | refine ent_take (by repeat (first | exact Find.here | apply Find.there)) ?_ | refine ent_drop ?_)))
  clear hK hP hgl
  clear C m got ag cg
  rintro ⟨C, m, got, ag, cg⟩ ⟨hK, hP, hgl⟩
  dsimp only at hK hP hgl ⊢
  refine X_seq ?_
  refine X_join (ι := ApS) (apI P (i + 1)) (fun q => [(1, .slice (some ⟨b, oo, none⟩) xs.length c), (6, .pointer (some ⟨s, 0, none⟩)), (7, .int .i64 P), (8, .slice q.2.2.2.1 (gr q.2.2.1).length q.2.2.2.2), (9, .int .i64 (i : Int)), (10, .pointer (some ⟨xb, 0, none⟩))]) (fun q => [Ck s sb q.1, Spc sb P q.2.1, Sl eRun q.2.2.2.1 q.2.2.2.2 (gr q.2.2.1), pt xb (.cells [.int .u8 d, .int .i64 p, .int .i64 kd, .int .u64 o, .int .u8 w].toArray 28 (0, 0)), base W]) ?_ ?_
  · repeat (first | refine Zq ?_ | refine Zs ?_ | refine ZT ?_ | refine ZF ?_ | refine Zc ?_ | refine XO_gU (hk := ?_))
    refine X_cond rfl (fun h3 => ?_) (fun h3 => ?_)
    · repeat (first | refine Zq ?_ | refine Zs ?_ | refine ZT ?_ | refine ZF ?_ | refine Zc ?_ | refine XO_gU (hk := ?_))
      refine XO_call (ctrim_spec s sb C hK.ci.ok) (hk := ?_)
      rintro _ _ ⟨rfl, rfl⟩
      repeat (first | refine Zq ?_ | refine Zs ?_ | refine ZT ?_ | refine ZF ?_ | refine Zc ?_ | refine XO_gU (hk := ?_))
      exact X_meet (trimC C, m, got, ag, cg) ⟨ktrim hK, hP, hgl⟩ (by (repeat (first | exact Env.sub_nil _ | refine Env.sub_cons rfl ?_))) (by ((try simp only [List.cons_append, List.nil_append]); repeat (first | exact ent_refl | refine ent_take (by repeat (first | exact Find.here | apply Find.there)) ?_ | refine ent_drop ?_)))
    · repeat (first | refine Zq ?_ | refine Zs ?_ | refine ZT ?_ | refine ZF ?_ | refine Zc ?_ | refine XO_gU (hk := ?_))
      exact X_meet (C, m, got, ag, cg) ⟨hK, hP, hgl⟩ (by (repeat (first | exact Env.sub_nil _ | refine Env.sub_cons rfl ?_))) (by ((try simp only [List.cons_append, List.nil_append]); repeat (first | exact ent_refl | refine ent_take (by repeat (first | exact Find.here | apply Find.there)) ?_ | refine ent_drop ?_)))
  clear hK hP hgl
  clear C m got ag cg
  rintro ⟨C, m, got, ag, cg⟩ ⟨hK, hP, hgl⟩
  dsimp only at hK hP hgl ⊢
  have hlen := allR_len hK
  have hlen2 : (allR C got).length = (gr got).length + C.fr.length + (kall C.ks 7).length := by unfold allR; rw [List.length_append, List.length_append]
  have hgl2 := gr_len got
  repeat (first | refine Zq ?_ | refine Zs ?_ | refine ZT ?_ | refine ZF ?_ | refine Zc ?_ | refine XO_gU (hk := ?_))
  refine XO_conv (fun _ h => SL_nilSl eRun h) ?_
  refine XO_dv (dv_append (E' := eRun) (a := none) (c := 0) (xs := []) (ys := gr got) (a2 := ag) (c2 := cg) (A := Sl eRun ag cg (gr got)) (hv := Sl.view) (hb := by simp; omega)) (hk := ?_)
  rintro _ _ ⟨a1, c1, rfl, rfl⟩
  rw [List.nil_append]
  repeat (first | refine Zq ?_ | refine Zs ?_ | refine ZT ?_ | refine ZF ?_ | refine Zc ?_ | refine XO_gU (hk := ?_))
  refine XO_call (kruns_spec s sb C (by omega)) (hk := ?_)
  rintro _ _ ⟨ra, rc, rfl, rfl⟩
  repeat (first | refine Zq ?_ | refine Zs ?_ | refine ZT ?_ | refine ZF ?_ | refine Zc ?_ | refine XO_gU (hk := ?_))
  refine XO_dv (dv_append (E' := eRun) (a := a1) (c := c1) (xs := gr got) (ys := C.fr) (a2 := ra) (c2 := rc) (A := Sl eRun ra rc C.fr) (hv := Sl.view) (hb := by omega)) (hk := ?_)
  rintro _ _ ⟨a2, c2, rfl, rfl⟩
  repeat (first | refine Zq ?_ | refine Zs ?_ | refine ZT ?_ | refine ZF ?_ | refine Zc ?_ | refine XO_gU (hk := ?_))
  refine XO_call (kcached_spec s sb C hK.ci.ok) (hk := ?_)
  rintro _ _ ⟨rk, ck, rfl, rfl⟩
  repeat (first | refine Zq ?_ | refine Zs ?_ | refine ZT ?_ | refine ZF ?_ | refine Zc ?_ | refine XO_gU (hk := ?_))
  refine XO_dv (dv_append (E' := eRun) (a := a2) (c := c2) (xs := gr got ++ C.fr) (ys := kall C.ks 7) (a2 := rk) (c2 := ck) (A := Sl eRun rk ck (kall C.ks 7)) (hv := Sl.view) (hb := by simp; omega)) (hk := ?_)
  rintro _ _ ⟨aa, ca, rfl, rfl⟩
  have eR : gr got ++ C.fr ++ kall C.ks 7 = allR C got := rfl
  rw [eR]
  have hcnt := allR_cnt hK
  have htot := allR_tot hK
  have hok := allR_ok hK
  rw [hP] at hcnt htot hok hlen
  generalize allR C got = R at hcnt htot hok hlen ⊢
  repeat (first | refine Zq ?_ | refine Zs ?_ | refine ZT ?_ | refine ZF ?_ | refine Zc ?_ | refine XO_gU (hk := ?_))
  refine XO_dv (dv_makeSlice (E' := eB) false) (hk := ?_)
  rintro _ _ ⟨ib, rfl, rfl⟩
  rw [← inB_zero R P.toNat]
  repeat (first | refine Zq ?_ | refine Zs ?_ | refine ZT ?_ | refine ZF ?_ | refine Zc ?_ | refine XO_gU (hk := ?_))
  refine X_loop (ι := Nat) (fun k => k ≤ R.length)
    (fun k => [(1, .slice (some ⟨b, oo, none⟩) xs.length c), (6, .pointer (some ⟨s, 0, none⟩)), (7, .int .i64 P), (8, .slice ag (gr got).length cg), (9, .int .i64 (i : Int)), (18, .slice aa R.length ca), (19, .slice (some ⟨ib, 0, none⟩) P.toNat P.toNat), (20, .int .i64 (totI (R.take k))), (21, .int .i64 (k : Int))])
    (fun k => [Ck s sb C, Spc sb P m, Sl eRun ag cg (gr got), Sl eRun aa ca R, Sl eB (some ⟨ib, 0, none⟩) P.toNat (inB R P.toNat k 0), base W]) (fun k => R.length - k) 0 (Nat.zero_le _) ?_ (by ((try simp only [List.cons_append, List.nil_append]); repeat (first | exact ent_refl | refine ent_take (by repeat (first | exact Find.here | apply Find.there)) ?_ | refine ent_drop ?_))) ?_
  · (repeat (first | exact Env.sub_nil _ | refine Env.sub_cons rfl ?_))
  intro k hk
  dsimp only at hk ⊢
  repeat (first | refine Zq ?_ | refine Zs ?_ | refine ZT ?_ | refine ZF ?_ | refine Zc ?_ | refine XO_gU (hk := ?_))
  refine X_cond rfl (fun hc2 => ?_) (fun hc2 => ?_) <;> simp only [decide_eq_true_eq, decide_eq_false_iff_not] at hc2
  case refine_2 =>
    obtain rfl : k = R.length := by omega
    rw [List.take_length, htot]
    repeat (first | refine Zq ?_ | refine Zs ?_ | refine ZT ?_ | refine ZF ?_ | refine Zc ?_ | refine XO_gU (hk := ?_))
    refine X_cond rfl (fun h => by simp at h) (fun _ => ?_)
    repeat (first | refine Zq ?_ | refine Zs ?_ | refine ZT ?_ | refine ZF ?_ | refine Zc ?_ | refine XO_gU (hk := ?_))
    exact X_round (i + 1, C, m, got, ag, cg) ⟨by show i + 1 ≤ xs.length; omega, hK, hP, hgl⟩ (by show xs.length - (i + 1) < xs.length - i; omega) (by (repeat (first | exact Env.sub_nil _ | refine Env.sub_cons rfl ?_))) (by ((try simp only [List.cons_append, List.nil_append]); repeat (first | exact ent_refl | refine ent_take (by repeat (first | exact Find.here | apply Find.there)) ?_ | refine ent_drop ?_)))
  have hkl : k < R.length := by omega
  have hgR : R[k]? = some R[k] := List.getElem?_eq_getElem hkl
  have hkr := hok R[k] (List.getElem_mem hkl)
  have htk := tot_take hkl
  have htl := tot_take_le (R := R) (fun r hr => (hok r hr).2.1) k
  have htl2 := tot_take_le (R := R) (fun r hr => (hok r hr).2.1) (k + 1)
  have hap := fun j hj hj2 => apart_at hcnt (j := j) hkl hj hj2
  have hst := fun j hj h0 => inB_set (N := P.toNat) (j := j) hkl hj h0
  have hnx := inB_next (N := P.toNat) hkl
  generalize hRk : R[k] = rk2 at hgR hkr htk hap hst hnx
  obtain ⟨rp, rn⟩ := rk2
  unfold RunOk at hkr
  simp only at hkr hap hst hnx htk
  refine X_slopen (E' := eRun) (a := aa) (c := ca) (xs := R) (by (repeat (first | exact Find.here | apply Find.there))) (by omega) ?_
  rintro ab ao rfl
  repeat (first | refine Zq ?_ | refine Zs ?_ | refine ZT ?_ | refine ZF ?_ | refine Zc ?_ | refine XO_gU (hk := ?_))
  refine X_reval 20 (.int .i64 (totI (R.take k) + ((0 : Nat) : Int))) ?_ (hv := congrArg (Value.int .i64) (by omega))
  refine X_loop (ι := Nat) (fun j => (j : Int) ≤ rn)
    (fun j => [(1, .slice (some ⟨b, oo, none⟩) xs.length c), (6, .pointer (some ⟨s, 0, none⟩)), (7, .int .i64 P), (8, .slice ag (gr got).length cg), (9, .int .i64 (i : Int)), (18, .slice (some ⟨ab, ao, none⟩) R.length ca), (19, .slice (some ⟨ib, 0, none⟩) P.toNat P.toNat), (20, .int .i64 (totI (R.take k) + (j : Int))), (21, .int .i64 (k : Int)), (22, .int .i64 (j : Int))])
    (fun j => [Ck s sb C, Spc sb P m, Sl eRun ag cg (gr got), Sl eRun (some ⟨ab, ao, none⟩) ca R, Sl eB (some ⟨ib, 0, none⟩) P.toNat (inB R P.toNat k (j : Int)), base W]) (fun j => rn.toNat - j) 0 (by show ((0 : Nat) : Int) ≤ rn; omega) ?_ (by ((try simp only [List.cons_append, List.nil_append]); repeat (first | exact ent_refl | refine ent_take (by repeat (first | exact Find.here | apply Find.there)) ?_ | refine ent_drop ?_))) ?_
  · (repeat (first | exact Env.sub_nil _ | refine Env.sub_cons rfl ?_))
  intro j hj
  dsimp only at hj ⊢
  repeat (first | refine Zq ?_ | refine Zs ?_ | refine ZT ?_ | refine ZF ?_ | refine Zc ?_ | refine XO_gU (hk := ?_))
  refine X_cond rfl (fun hc3 => ?_) (fun hc3 => ?_) <;> simp only [decide_eq_true_eq, decide_eq_false_iff_not] at hc3
  · obtain ⟨⟨x0, x1⟩, hz⟩ := hap j (by omega) hc3
    have hib : (inB R P.toNat k (j : Int))[(rp + (j : Int)).toNat]? = some false := by
      rw [inB_get (by omega), show (((rp + (j : Int)).toNat : Nat) : Int) = rp + j from by omega, hz]; rfl
    have hil2 := inB_len R P.toNat k (j : Int)
    repeat (first | refine Zq ?_ | refine Zs ?_ | refine ZT ?_ | refine ZF ?_ | refine Zc ?_ | refine XO_gU (hk := ?_))
    refine XO_known false (hb := decide_eq_false (by omega)) (hk := ?_)
    repeat (first | refine Zq ?_ | refine Zs ?_ | refine ZT ?_ | refine ZF ?_ | refine Zc ?_ | refine XO_gU (hk := ?_))
    refine X_cond rfl (fun h => by cases h) (fun _ => ?_)
    repeat (first | refine Zq ?_ | refine Zs ?_ | refine ZT ?_ | refine ZF ?_ | refine Zc ?_ | refine XO_gU (hk := ?_))
    refine XO_dv0 (dv_put1 (E' := eB) (i := (rp + (j : Int)).toNat) (x' := true) (hl := by omega)) (hk := ?_)
    rintro _ _ rfl
    rw [hst j (by omega) x0]
    repeat (first | refine Zq ?_ | refine Zs ?_ | refine ZT ?_ | refine ZF ?_ | refine Zc ?_ | refine XO_gU (hk := ?_))
    refine XE_reval 20 (.int .i64 (totI (R.take k) + ((j + 1 : Nat) : Int))) ?_ (hv := congrArg (Value.int .i64) (by omega))
    exact X_round (j + 1) (by show ((j + 1 : Nat) : Int) ≤ rn; omega) (by show rn.toNat - (j + 1) < rn.toNat - j; omega) (by (repeat (first | exact Env.sub_nil _ | refine Env.sub_cons rfl ?_))) (by ((try simp only [List.cons_append, List.nil_append]); repeat (first | exact ent_refl | refine ent_take (by repeat (first | exact Find.here | apply Find.there)) ?_ | refine ent_drop ?_)))
  · obtain rfl : (j : Int) = rn := by omega
    rw [hnx, ← htk]
    repeat (first | refine Zq ?_ | refine Zs ?_ | refine ZT ?_ | refine ZF ?_ | refine Zc ?_ | refine XO_gU (hk := ?_))
    exact X_round (k + 1) (by show k + 1 ≤ R.length; omega) (by show R.length - (k + 1) < R.length - k; omega) (by (repeat (first | exact Env.sub_nil _ | refine Env.sub_cons rfl ?_))) (by ((try simp only [List.cons_append, List.nil_append]); repeat (first | exact ent_refl | refine ent_take (by repeat (first | exact Find.here | apply Find.there)) ?_ | refine ent_drop ?_)))
end Go.Proofs.Yteobjankkcdaoaa.Sep
