import Derived.Test.YtmndddegnfbaaaaBn10
/- The law Law14T: it answers true whatever it is given, and what was there stays. No conditions. -/
namespace Go.Proofs.Ytmndddegnfbaaaa.Sep
open Go.RowKit
set_option linter.unusedSimpArgs false
set_option linter.unusedVariables false
/-! two piles of one store -/
def ePt : E Nat := ⟨1, false, fun b => [.pointer (some ⟨b, 0, none⟩)], fun _ => rfl, fun _ _ h => by simp at h; subst h; rfl, by decide, fun _ => rfl⟩
theorem rnd70' {x : Int} (h0 : 0 ≤ x) : 1 ≤ rnd (x % 70 + 1) ∧ rnd (x % 70 + 1) ≤ 70 ∧ ¬ bad (x % 70 + 1) 0 ∧ ¬ bad (x % 70 + 1) 1 := by
  obtain ⟨r1, r2, -, -, r5, r6⟩ := rnd_ok (p := x % 70 + 1) (by omega) (by omega)
  refine ⟨by omega, ?_, by unfold bad; omega, by unfold bad; omega⟩
  by_cases h64 : 64 < x % 70 + 1
  · have := r5 h64; omega
  · have := r6 (by omega); omega
/-- Two piles have no page in common. -/
theorem two_apart {C : Co} {m : Int → Int} {k o k' o' : Int} {l l' : List (Int × Int)} (h : KInv C m (plH k o 0 l ++ plH k' o' 0 l')) : ∀ r ∈ l, ∀ q ∈ l', ¬ (r.1 < q.1 + q.2 ∧ q.1 < r.1 + r.2) := fun r hr q hq hh => by
  have hr1 := pl_bd h r hr
  have hq1 := pl_bd (h.perm List.perm_append_comm) q hq
  unfold RunOk at hr1 hq1
  have h1 := h.part (max r.1 q.1)
  have h2 := part_le1 (x := max r.1 q.1) (P := C.P)
  rw [gr_app, cnt_append, plH_gr, plH_gr] at h1
  have h3 := cnt_mem (x := max r.1 q.1) hr
  have h4 := cnt_mem (x := max r.1 q.1) hq
  have h5 : ind (max r.1 q.1) r = 1 := by unfold ind; rw [if_pos]; omega
  have h6 : ind (max r.1 q.1) q = 1 := by unfold ind; rw [if_pos]; omega
  have h7 := cC_nn (max r.1 q.1) C
  omega
theorem ppush_high (p s sb : Nat) {C : Co} {m : Mm} {rs : List (Int × Int)} {oth : List (Int × Hd)} {B k o n : Int} (hb : ¬ bad n k) (hw : 1 ≤ rnd n ∧ rnd n ≤ 70) (ho : 0 ≤ o ∧ o < 18446744073709551616) (hK : KInv C m.f (plH k o 0 rs ++ oth)) (hP : C.P = 3000) (hH : HW C B) (hB0 : 0 ≤ B) (hB : B + 70 ≤ 3000) (hl : rs.length ≤ 1048576) :
    ∃ (C' : Co) (m' : Mm) (pg : Int), Spec Try.prog 14 [.pointer (some ⟨p, 0, none⟩), .int .i64 n] [Pl p s k o rs, Ck s sb C, Spc sb 3000 m]
      (fun v L => v = .tuple #[.int .i64 pg, .int .i64 (rnd n), .int .i64 0] ∧ L = [Pl p s k o (rs ++ [(pg, rnd n)]), Ck s sb C', Spc sb 3000 m']) ∧
      KInv C' m'.f (plH k o 0 (rs ++ [(pg, rnd n)]) ++ oth) ∧ C'.P = 3000 ∧ HW C' (B + 70) := by
  obtain ⟨w1, w2⟩ := hw
  obtain ⟨hz, hh⟩ := hw_get hK hH hB0 w1 (by omega)
  obtain ⟨i1, i2⟩ := ppush_inv hK hP ho hb hz
  exact ⟨_, _, _, ppush_ok p s sb hK hP ho hb hz hl, i1, i2, hh.up (by omega)⟩
set_option maxHeartbeats 8000000
attribute [local irreducible] X XE XO XD XDi XDa PV RV DV pt base Spec Sl Mp Keeps Pg Kc Pgs Spc Ck XL XLi Pl View
theorem ppop_none (p s sb : Nat) {C : Co} {m : Mm} {P k o : Int} :
    Spec Try.prog 15 [.pointer (some ⟨p, 0, none⟩)] [Pl p s k o [], Ck s sb C, Spc sb P m]
      (fun v L => v = .tuple #[.int .i64 0, .int .i64 0, .int .i64 1] ∧ L = [Pl p s k o [], Ck s sb C, Spc sb P m]) := by
  refine Spec.intro (IsEnt.out) Try.func15 rfl Try.ntmps15 (by simp) (fun w0 F => ?_)
  simp only [envOf, List.zipIdx, List.map, List.cons_append, List.nil_append, Nat.zero_add, Nat.reduceAdd]
  repeat (first | refine Zq ?_ | refine Zs ?_ | refine ZT ?_ | refine ZF ?_ | refine Zc ?_ | refine XO_gU (hk := ?_))
  refine XO_call (ptop_spec p s k o [] (by decide)) (hk := ?_)
  rintro _ _ ⟨rfl, rfl⟩
  repeat (first | refine Zq ?_ | refine Zs ?_ | refine ZT ?_ | refine ZF ?_ | refine Zc ?_ | refine XO_gU (hk := ?_))
  refine XO_dv (dv_alloc (row := [.int .i64 0, .int .i64 0])) (hk := ?_)
  rintro _ _ ⟨rb, rfl, rfl⟩
  refine XO_dv0 (dv_storeW (vs := [.int .i64 0, .int .i64 0])) (hk := ?_)
  rintro _ _ rfl
  repeat (first | refine Zq ?_ | refine Zs ?_ | refine ZT ?_ | refine ZF ?_ | refine Zc ?_ | refine XO_gU (hk := ?_))
  refine X_cond rfl (fun _ => ?_) (fun h => by cases h)
  repeat (first | refine Zq ?_ | refine Zs ?_ | refine ZT ?_ | refine ZF ?_ | refine Zc ?_ | refine XO_gU (hk := ?_))
  refine XE_ret (.inl rfl) (tells_tmps rfl rfl) ⟨_, ⟨rfl, rfl⟩, by ((try simp only [List.cons_append, List.nil_append]); repeat (first | exact ent_refl | refine ent_take (by repeat (first | exact Find.here | apply Find.there)) ?_ | refine ent_drop ?_))⟩
/-- What becomes of a pile of which one is popped, if there is one. -/
theorem ppop_high (p s sb : Nat) {C : Co} {m : Mm} {rs : List (Int × Int)} {oth : List (Int × Hd)} {B k o : Int} (hK : KInv C m.f (plH k o 0 rs ++ oth)) (hP : C.P = 3000) (hH : HW C B) (hl : rs.length ≤ 1048576) :
    ∃ (C' : Co) (m' : Mm) (rs' : List (Int × Int)) (w : Value), Spec Try.prog 15 [.pointer (some ⟨p, 0, none⟩)] [Pl p s k o rs, Ck s sb C, Spc sb 3000 m]
      (fun v L => v = w ∧ L = [Pl p s k o rs', Ck s sb C', Spc sb 3000 m']) ∧
      KInv C' m'.f (plH k o 0 rs' ++ oth) ∧ C'.P = 3000 ∧ HW C' B ∧ rs'.length ≤ rs.length := by
  rcases List.eq_nil_or_concat rs with rfl | ⟨l, r, rfl⟩
  · exact ⟨_, _, [], _, ppop_none p s sb, hK, hP, hH, Nat.le_refl _⟩
  · rw [List.concat_eq_append] at hK hl ⊢
    obtain ⟨i1, i2⟩ := ppop_inv (pg := r.1) (n := r.2) hK hP
    exact ⟨_, _, l, _, ppop_ok p s sb (pg := r.1) (n := r.2) hK hP (by simp at hl; omega), i1, i2, hw_put (p := r.1) (hd := ⟨r.2, k, o, lastL 0 l⟩) (plH_top (pg := r.1) (n := r.2) hK) hH, by simp⟩
theorem two14 (a0 : Option Addr) (c0 : Nat) (ps : List Int) (aw : Option Addr) (cw : Nat) (wh : List Bool) (h1 : ∀ x ∈ ps, (Lit.int .u8 x).wf = true) (hl1 : ps.length ≤ maxLen) (hl2 : wh.length ≤ maxLen) (W : World) (V1 : View (base W) (eI .u8) a0 ps) (V2 : View (base W) eB aw wh) :
    Calls Try.prog 4 #[.slice a0 ps.length c0, .slice aw wh.length cw] W fun e w' => e = .returned (.bool true) ∧ Below W.heap.size W w' := by
  refine law_intro (args := [.slice a0 ps.length c0, .slice aw wh.length cw]) Try.func4 rfl Try.ntmps4 (by simp) ?_
  simp only [envOf, List.zipIdx, List.map, List.cons_append, List.nil_append, Nat.zero_add, Nat.reduceAdd]
  repeat (first | refine Zq ?_ | refine Zs ?_ | refine ZT ?_ | refine ZF ?_ | refine Zc ?_ | refine XO_gU (hk := ?_))
  refine XO_call awake14_spec (hk := ?_)
  rintro _ _ ⟨rfl, rfl⟩
  repeat (first | refine Zq ?_ | refine Zs ?_ | refine ZT ?_ | refine ZF ?_ | refine Zc ?_ | refine XO_gU (hk := ?_))
  refine X_cond rfl (fun h => by cases h) (fun _ => ?_)
  repeat (first | refine Zq ?_ | refine Zs ?_ | refine ZT ?_ | refine ZF ?_ | refine Zc ?_ | refine XO_gU (hk := ?_))
  refine XO_either (hT := fun h3 => ?_) (hF := fun h3 => ?_) <;> simp only [decide_eq_true_eq, decide_eq_false_iff_not] at h3
  · repeat (first | refine Zq ?_ | refine Zs ?_ | refine ZT ?_ | refine ZF ?_ | refine Zc ?_ | refine XO_gU (hk := ?_))
    refine X_cond rfl (fun _ => ?_) (fun h => by cases h)
    repeat (first | refine Zq ?_ | refine Zs ?_ | refine ZT ?_ | refine ZF ?_ | refine Zc ?_ | refine XO_gU (hk := ?_))
    refine XE_ret (.inl rfl) (tells_tmps rfl rfl) ⟨_, ⟨rfl, rfl⟩, by ((try simp only [List.cons_append, List.nil_append]); repeat (first | exact ent_refl | refine ent_take (by repeat (first | exact Find.here | apply Find.there)) ?_ | refine ent_drop ?_))⟩
  repeat (first | refine Zq ?_ | refine Zs ?_ | refine ZT ?_ | refine ZF ?_ | refine Zc ?_ | refine XO_gU (hk := ?_))
  refine X_cond rfl (fun h4 => ?_) (fun h4 => ?_) <;> simp only [beq_iff_eq, beq_eq_false_iff_ne, ne_eq] at h4
  · repeat (first | refine Zq ?_ | refine Zs ?_ | refine ZT ?_ | refine ZF ?_ | refine Zc ?_ | refine XO_gU (hk := ?_))
    refine XE_ret (.inl rfl) (tells_tmps rfl rfl) ⟨_, ⟨rfl, rfl⟩, by ((try simp only [List.cons_append, List.nil_append]); repeat (first | exact ent_refl | refine ent_take (by repeat (first | exact Find.here | apply Find.there)) ?_ | refine ent_drop ?_))⟩
  have hwl : 0 < wh.length := by omega
  repeat (first | refine Zq ?_ | refine Zs ?_ | refine ZT ?_ | refine ZF ?_ | refine Zc ?_ | refine XO_gU (hk := ?_))
  refine XO_call (knew_spec 3000) (hk := ?_)
  rintro _ _ ⟨s, sb, rfl, rfl⟩
  have hk0 : KInv ⟨3000, [(0, 3000)], fun _ => [], 0⟩ (⟨fun _ => 0, 0⟩ : Mm).f (plH 0 1 0 [] ++ plH 1 2 0 []) := knew 3000 (⟨fun _ => 0, 0⟩ : Mm).f
  generalize hm0 : (⟨fun _ => 0, 0⟩ : Mm) = m0 at hk0 ⊢
  repeat (first | refine Zq ?_ | refine Zs ?_ | refine ZT ?_ | refine ZF ?_ | refine Zc ?_ | refine XO_gU (hk := ?_))
  refine XO_call (plnew_spec s 0 1) (hk := ?_)
  rintro _ _ ⟨p, rfl, rfl⟩
  repeat (first | refine Zq ?_ | refine Zs ?_ | refine ZT ?_ | refine ZF ?_ | refine Zc ?_ | refine XO_gU (hk := ?_))
  refine XO_call (plnew_spec s 1 2) (hk := ?_)
  rintro _ _ ⟨q, rfl, rfl⟩
  repeat (first | refine Zq ?_ | refine Zs ?_ | refine ZT ?_ | refine ZF ?_ | refine Zc ?_ | refine XO_gU (hk := ?_))
  refine XO_lit (E' := ePt) [p, q] (hk := ?_)
  intro lb
  generalize (some (⟨lb, 0, none⟩ : Addr) : Option Addr) = pa
  refine XO_slopen (E' := ePt) (a := pa) (c := [p, q].length) (xs := [p, q]) (by (repeat (first | exact Find.here | apply Find.there))) (by simp) ?_
  rintro pb po rfl
  have hgp : ([p, q] : List Nat)[0]? = some p := rfl
  have hgq : ([p, q] : List Nat)[1]? = some q := rfl
  have hgl : ([p, q] : List Nat).length = 2 := rfl
  repeat (first | refine Zq ?_ | refine Zs ?_ | refine ZT ?_ | refine ZF ?_ | refine Zc ?_ | refine XO_gU (hk := ?_))
  refine X_loop (ι := Nat × Co × Mm × List (Int × Int) × List (Int × Int)) (fun z => z.1 ≤ ps.length ∧ z.2.2.2.1.length ≤ z.1 ∧ z.2.2.2.2.length ≤ z.1 ∧ KInv z.2.1 z.2.2.1.f (plH 0 1 0 z.2.2.2.1 ++ plH 1 2 0 z.2.2.2.2) ∧ z.2.1.P = 3000 ∧ HW z.2.1 (70 * (z.1 : Int)))
    (fun z => [(0, .slice a0 ps.length c0), (1, .slice aw wh.length cw), (6, .pointer (some ⟨s, 0, none⟩)), (7, .slice (some ⟨pb, po, none⟩) [p, q].length [p, q].length), (8, .int .i64 (z.1 : Int))])
    (fun z => [Sl ePt (some ⟨pb, po, none⟩) [p, q].length [p, q], Pl p s 0 1 z.2.2.2.1, Pl q s 1 2 z.2.2.2.2, Ck s sb z.2.1, Spc sb 3000 z.2.2.1, base W]) (fun z => ps.length - z.1) (0, ⟨3000, [(0, 3000)], fun _ => [], 0⟩, m0, [], []) ⟨Nat.zero_le _, Nat.le_refl _, Nat.le_refl _, hk0, rfl, hw_new 3000 _ _⟩ ?_ (by ((try simp only [List.cons_append, List.nil_append]); repeat (first | exact ent_refl | refine ent_take (by repeat (first | exact Find.here | apply Find.there)) ?_ | refine ent_drop ?_))) ?_
  · (repeat (first | exact Env.sub_nil _ | refine Env.sub_cons rfl ?_))
  clear hk0
  rintro ⟨i, C, m, r0, r1⟩ ⟨hi, hr0, hr1, hK, hP, hH⟩
  dsimp only at hi hr0 hr1 hK hP hH ⊢
  repeat (first | refine Zq ?_ | refine Zs ?_ | refine ZT ?_ | refine ZF ?_ | refine Zc ?_ | refine XO_gU (hk := ?_))
  refine X_cond rfl (fun hc => ?_) (fun hc => ?_) <;> simp only [decide_eq_true_eq, decide_eq_false_iff_not] at hc
  · have hil : i < ps.length := by omega
    have hg : ps[i]? = some ps[i] := List.getElem?_eq_getElem hil
    have hx := wf_u8 (h1 ps[i] (List.getElem_mem hil))
    generalize ps[i] = x at hg hx
    have hm1 : 0 ≤ (i : Int) % (wh.length : Int) := Int.emod_nonneg _ (by omega)
    have hm2 : (i : Int) % (wh.length : Int) < (wh.length : Int) := Int.emod_lt_of_pos _ (by omega)
    have hgw : wh[((i : Int) % (wh.length : Int)).toNat]? = some (wh[((i : Int) % (wh.length : Int)).toNat]'(by omega)) := List.getElem?_eq_getElem _
    generalize wh[((i : Int) % (wh.length : Int)).toNat]'(by omega) = wb at hgw
    refine X_view (A := base W) (by (repeat (first | exact Find.here | apply Find.there))) V1 (by omega) ?_
    rintro b1 o1 rfl
    refine X_view (A := base W) (by (repeat (first | exact Find.here | apply Find.there))) V2 (by omega) ?_
    rintro b2 o2 rfl
    obtain ⟨w1, w2, hb0, hb1⟩ := rnd70' hx.1
    have hB : (70 : Int) * ((i + 1 : Nat) : Int) = 70 * (i : Int) + 70 := by omega
    have hK' := hK.perm List.perm_append_comm
    repeat (first | refine Zq ?_ | refine Zs ?_ | refine ZT ?_ | refine ZF ?_ | refine Zc ?_ | refine XO_gU (hk := ?_))
    cases wb
    · clear hgq
      refine X_cond rfl (fun h => by cases h) (fun _ => ?_)
      repeat (first | refine Zq ?_ | refine Zs ?_ | refine ZT ?_ | refine ZF ?_ | refine Zc ?_ | refine XO_gU (hk := ?_))
      refine X_cond rfl (fun h5 => ?_) (fun h5 => ?_)
      · obtain ⟨C1, m1, r', w, s1, hK1, hP1, hH1, hl1'⟩ := ppop_high p s sb hK hP hH (by omega)
        repeat (first | refine Zq ?_ | refine Zs ?_ | refine ZT ?_ | refine ZF ?_ | refine Zc ?_ | refine XO_gU (hk := ?_))
        refine XO_call s1 (hk := ?_)
        rintro _ _ ⟨rfl, rfl⟩
        repeat (first | refine Zq ?_ | refine Zs ?_ | refine ZT ?_ | refine ZF ?_ | refine Zc ?_ | refine XO_gU (hk := ?_))
        exact X_round (i + 1, C1, m1, r', r1) ⟨by show i + 1 ≤ ps.length; omega, by show r'.length ≤ i + 1; omega, by show r1.length ≤ i + 1; omega, hK1, hP1, by rw [hB]; exact hH1.up (by omega)⟩ (by show ps.length - (i + 1) < ps.length - i; omega) (by (repeat (first | exact Env.sub_nil _ | refine Env.sub_cons rfl ?_))) (by ((try simp only [List.cons_append, List.nil_append]); repeat (first | exact ent_refl | refine ent_take (by repeat (first | exact Find.here | apply Find.there)) ?_ | refine ent_drop ?_)))
      · obtain ⟨C1, m1, pg, s1, hK1, hP1, hH1⟩ := ppush_high p s sb hb0 ⟨w1, w2⟩ (by decide) hK hP hH (by omega) (by omega) (by omega)
        generalize rnd (x % 70 + 1) = w at w1 w2 s1 hK1
        repeat (first | refine Zq ?_ | refine Zs ?_ | refine ZT ?_ | refine ZF ?_ | refine Zc ?_ | refine XO_gU (hk := ?_))
        repeat (first | refine XD_pick (h := ?_) | refine Dq ?_ | refine Ds ?_ | refine XDi_gF (h := ?_) | refine XDi_gU (h := ?_) | refine X_draws (h := ?_))
        refine XD_one (h := ?_)
        refine XDa_dvA (dv_call s1) (hk := ?_)
        (rintro _ _ ⟨_, ⟨rfl, rfl⟩, rfl⟩; refine ⟨by (repeat (first | exact keeps_nil | exact keeps_fnil | refine keeps_skip (h := ?_) | refine keeps_takeQ (h := ?_))), ?_⟩)
        repeat (first | refine XD_pick (h := ?_) | refine Dq ?_ | refine Ds ?_ | refine XDi_gF (h := ?_) | refine XDi_gU (h := ?_) | refine X_draws (h := ?_))
        (refine XD_one (h := ?_); refine XDa_dvA (dv_of_rv (rv_of_pv pv_assign)) (hk := ?_); rintro _ _ ⟨rfl, rfl⟩; refine ⟨by (repeat (first | exact keeps_nil | exact keeps_fnil | refine keeps_skip (h := ?_) | refine keeps_takeQ (h := ?_))), ?_⟩)
        (refine XD_one (h := ?_); refine XDa_dvA (dv_of_rv (rv_of_pv pv_assign)) (hk := ?_); rintro _ _ ⟨rfl, rfl⟩; refine ⟨by (repeat (first | exact keeps_nil | exact keeps_fnil | refine keeps_skip (h := ?_) | refine keeps_takeQ (h := ?_))), ?_⟩)
        (refine XD_one (h := ?_); refine XDa_dvA (dv_of_rv (rv_of_pv pv_assign)) (hk := ?_); rintro _ _ ⟨rfl, rfl⟩; refine ⟨by (repeat (first | exact keeps_nil | exact keeps_fnil | refine keeps_skip (h := ?_) | refine keeps_takeQ (h := ?_))), ?_⟩)
        (refine XD_end (h := ?_); repeat (first | refine Zq ?_ | refine Zs ?_ | refine ZT ?_ | refine ZF ?_ | refine Zc ?_ | refine XO_gU (hk := ?_)))
        refine X_cond rfl (fun h => by cases h) (fun _ => ?_)
        repeat (first | refine Zq ?_ | refine Zs ?_ | refine ZT ?_ | refine ZF ?_ | refine Zc ?_ | refine XO_gU (hk := ?_))
        exact X_round (i + 1, C1, m1, r0 ++ [(pg, w)], r1) ⟨by show i + 1 ≤ ps.length; omega, by simp; omega, by show r1.length ≤ i + 1; omega, hK1, hP1, by rw [hB]; exact hH1⟩ (by show ps.length - (i + 1) < ps.length - i; omega) (by (repeat (first | exact Env.sub_nil _ | refine Env.sub_cons rfl ?_))) (by ((try simp only [List.cons_append, List.nil_append]); repeat (first | exact ent_refl | refine ent_take (by repeat (first | exact Find.here | apply Find.there)) ?_ | refine ent_drop ?_)))
    · clear hgp
      refine X_cond rfl (fun _ => ?_) (fun h => by cases h)
      repeat (first | refine Zq ?_ | refine Zs ?_ | refine ZT ?_ | refine ZF ?_ | refine Zc ?_ | refine XO_gU (hk := ?_))
      refine X_cond rfl (fun h5 => ?_) (fun h5 => ?_)
      · obtain ⟨C1, m1, r', w, s1, hK1, hP1, hH1, hl1'⟩ := ppop_high q s sb hK' hP hH (by omega)
        repeat (first | refine Zq ?_ | refine Zs ?_ | refine ZT ?_ | refine ZF ?_ | refine Zc ?_ | refine XO_gU (hk := ?_))
        refine XO_call s1 (hk := ?_)
        rintro _ _ ⟨rfl, rfl⟩
        repeat (first | refine Zq ?_ | refine Zs ?_ | refine ZT ?_ | refine ZF ?_ | refine Zc ?_ | refine XO_gU (hk := ?_))
        exact X_round (i + 1, C1, m1, r0, r') ⟨by show i + 1 ≤ ps.length; omega, by show r0.length ≤ i + 1; omega, by show r'.length ≤ i + 1; omega, hK1.perm List.perm_append_comm, hP1, by rw [hB]; exact hH1.up (by omega)⟩ (by show ps.length - (i + 1) < ps.length - i; omega) (by (repeat (first | exact Env.sub_nil _ | refine Env.sub_cons rfl ?_))) (by ((try simp only [List.cons_append, List.nil_append]); repeat (first | exact ent_refl | refine ent_take (by repeat (first | exact Find.here | apply Find.there)) ?_ | refine ent_drop ?_)))
      · obtain ⟨C1, m1, pg, s1, hK1, hP1, hH1⟩ := ppush_high q s sb hb1 ⟨w1, w2⟩ (by decide) hK' hP hH (by omega) (by omega) (by omega)
        generalize rnd (x % 70 + 1) = w at w1 w2 s1 hK1
        repeat (first | refine Zq ?_ | refine Zs ?_ | refine ZT ?_ | refine ZF ?_ | refine Zc ?_ | refine XO_gU (hk := ?_))
        repeat (first | refine XD_pick (h := ?_) | refine Dq ?_ | refine Ds ?_ | refine XDi_gF (h := ?_) | refine XDi_gU (h := ?_) | refine X_draws (h := ?_))
        refine XD_one (h := ?_)
        refine XDa_dvA (dv_call s1) (hk := ?_)
        (rintro _ _ ⟨_, ⟨rfl, rfl⟩, rfl⟩; refine ⟨by (repeat (first | exact keeps_nil | exact keeps_fnil | refine keeps_skip (h := ?_) | refine keeps_takeQ (h := ?_))), ?_⟩)
        repeat (first | refine XD_pick (h := ?_) | refine Dq ?_ | refine Ds ?_ | refine XDi_gF (h := ?_) | refine XDi_gU (h := ?_) | refine X_draws (h := ?_))
        (refine XD_one (h := ?_); refine XDa_dvA (dv_of_rv (rv_of_pv pv_assign)) (hk := ?_); rintro _ _ ⟨rfl, rfl⟩; refine ⟨by (repeat (first | exact keeps_nil | exact keeps_fnil | refine keeps_skip (h := ?_) | refine keeps_takeQ (h := ?_))), ?_⟩)
        (refine XD_one (h := ?_); refine XDa_dvA (dv_of_rv (rv_of_pv pv_assign)) (hk := ?_); rintro _ _ ⟨rfl, rfl⟩; refine ⟨by (repeat (first | exact keeps_nil | exact keeps_fnil | refine keeps_skip (h := ?_) | refine keeps_takeQ (h := ?_))), ?_⟩)
        (refine XD_one (h := ?_); refine XDa_dvA (dv_of_rv (rv_of_pv pv_assign)) (hk := ?_); rintro _ _ ⟨rfl, rfl⟩; refine ⟨by (repeat (first | exact keeps_nil | exact keeps_fnil | refine keeps_skip (h := ?_) | refine keeps_takeQ (h := ?_))), ?_⟩)
        (refine XD_end (h := ?_); repeat (first | refine Zq ?_ | refine Zs ?_ | refine ZT ?_ | refine ZF ?_ | refine Zc ?_ | refine XO_gU (hk := ?_)))
        refine X_cond rfl (fun h => by cases h) (fun _ => ?_)
        repeat (first | refine Zq ?_ | refine Zs ?_ | refine ZT ?_ | refine ZF ?_ | refine Zc ?_ | refine XO_gU (hk := ?_))
        exact X_round (i + 1, C1, m1, r0, r1 ++ [(pg, w)]) ⟨by show i + 1 ≤ ps.length; omega, by show r0.length ≤ i + 1; omega, by simp; omega, hK1.perm List.perm_append_comm, hP1, by rw [hB]; exact hH1⟩ (by show ps.length - (i + 1) < ps.length - i; omega) (by (repeat (first | exact Env.sub_nil _ | refine Env.sub_cons rfl ?_))) (by ((try simp only [List.cons_append, List.nil_append]); repeat (first | exact ent_refl | refine ent_take (by repeat (first | exact Find.here | apply Find.there)) ?_ | refine ent_drop ?_)))
  clear hH
  have hl0 : r0.length ≤ 20 := by omega
  have hl1' : r1.length ≤ 20 := by omega
  have hv0 : r0.reverse.length = r0.length := List.length_reverse
  have hv1 : r1.reverse.length = r1.length := List.length_reverse
  clear hgp hgq
  have hgp : ([p, q] : List Nat)[0]? = some p := rfl
  repeat (first | refine Zq ?_ | refine Zs ?_ | refine ZT ?_ | refine ZF ?_ | refine Zc ?_ | refine XO_gU (hk := ?_))
  refine XO_call (pwalk_spec p s sb hK hP (by omega)) (hk := ?_)
  rintro _ _ ⟨wa, wc, rfl, rfl⟩
  have hK2 : KInv C (walkM 3000 m r0).f (plH 1 2 0 r1 ++ plH 0 1 0 r0) := by rw [walkM_f]; exact hK.perm List.perm_append_comm
  clear hK
  generalize walkM 3000 m r0 = m2 at hK2 ⊢
  clear hgp
  have hgq : ([p, q] : List Nat)[1]? = some q := rfl
  repeat (first | refine Zq ?_ | refine Zs ?_ | refine ZT ?_ | refine ZF ?_ | refine Zc ?_ | refine XO_gU (hk := ?_))
  refine XO_call (pwalk_spec q s sb hK2 hP (by omega)) (hk := ?_)
  rintro _ _ ⟨xa, xc, rfl, rfl⟩
  have hK3 : KInv C (walkM 3000 m2 r1).f (plH 0 1 0 r0 ++ plH 1 2 0 r1) := by rw [walkM_f]; exact hK2.perm List.perm_append_comm
  clear hK2
  generalize walkM 3000 m2 r1 = m3 at hK3 ⊢
  have hap := two_apart hK3
  have hbd0 := pl_bd hK3
  have hbd1 := pl_bd (hK3.perm List.perm_append_comm)
  rw [hP] at hbd0 hbd1
  repeat (first | refine Zq ?_ | refine Zs ?_ | refine ZT ?_ | refine ZF ?_ | refine Zc ?_ | refine XO_gU (hk := ?_))
  refine X_loop (ι := Nat) (fun u => u ≤ r0.length) (fun u => [(7, .slice (some ⟨pb, po, none⟩) [p, q].length [p, q].length), (13, .slice wa r0.reverse.length wc), (14, .int .i64 0), (15, .slice xa r1.reverse.length xc), (16, .int .i64 0), (17, .int .i64 (u : Int))])
    (fun u => [Sl eRun xa xc r1.reverse, Pl q s 1 2 r1, Ck s sb C, Spc sb 3000 m3, Sl eRun wa wc r0.reverse, Pl p s 0 1 r0, Sl ePt (some ⟨pb, po, none⟩) [p, q].length [p, q], base W]) (fun u => r0.length - u) 0 (Nat.zero_le _) ?_ (by ((try simp only [List.cons_append, List.nil_append]); repeat (first | exact ent_refl | refine ent_take (by repeat (first | exact Find.here | apply Find.there)) ?_ | refine ent_drop ?_))) ?_
  · (repeat (first | exact Env.sub_nil _ | refine Env.sub_cons rfl ?_))
  intro u hu
  dsimp only at hu ⊢
  repeat (first | refine Zq ?_ | refine Zs ?_ | refine ZT ?_ | refine ZF ?_ | refine Zc ?_ | refine XO_gU (hk := ?_))
  refine X_cond rfl (fun hc2 => ?_) (fun hc2 => ?_) <;> simp only [hv0, decide_eq_true_eq, decide_eq_false_iff_not] at hc2
  · have hul : u < r0.reverse.length := by omega
    have hgu : r0.reverse[u]? = some r0.reverse[u] := List.getElem?_eq_getElem hul
    have hum := List.mem_reverse.1 (List.getElem_mem hul)
    generalize r0.reverse[u] = a at hgu hum
    have ha := hbd0 a hum
    unfold RunOk at ha
    refine X_slopen (E' := eRun) (a := wa) (c := wc) (xs := r0.reverse) (by (repeat (first | exact Find.here | apply Find.there))) (by omega) ?_
    rintro wb wo rfl
    repeat (first | refine Zq ?_ | refine Zs ?_ | refine ZT ?_ | refine ZF ?_ | refine Zc ?_ | refine XO_gU (hk := ?_))
    refine X_loop (ι := Nat) (fun v => v ≤ r1.length) (fun v => [(7, .slice (some ⟨pb, po, none⟩) [p, q].length [p, q].length), (13, .slice (some ⟨wb, wo, none⟩) r0.reverse.length wc), (14, .int .i64 0), (15, .slice xa r1.reverse.length xc), (16, .int .i64 0), (17, .int .i64 (u : Int)), (18, .int .i64 (v : Int))])
      (fun v => [Sl eRun xa xc r1.reverse, Pl q s 1 2 r1, Ck s sb C, Spc sb 3000 m3, Sl eRun (some ⟨wb, wo, none⟩) wc r0.reverse, Pl p s 0 1 r0, Sl ePt (some ⟨pb, po, none⟩) [p, q].length [p, q], base W]) (fun v => r1.length - v) 0 (Nat.zero_le _) ?_ (by ((try simp only [List.cons_append, List.nil_append]); repeat (first | exact ent_refl | refine ent_take (by repeat (first | exact Find.here | apply Find.there)) ?_ | refine ent_drop ?_))) ?_
    · (repeat (first | exact Env.sub_nil _ | refine Env.sub_cons rfl ?_))
    intro v hv
    dsimp only at hv ⊢
    repeat (first | refine Zq ?_ | refine Zs ?_ | refine ZT ?_ | refine ZF ?_ | refine Zc ?_ | refine XO_gU (hk := ?_))
    refine X_cond rfl (fun hc3 => ?_) (fun hc3 => ?_) <;> simp only [hv1, decide_eq_true_eq, decide_eq_false_iff_not] at hc3
    · have hvl : v < r1.reverse.length := by omega
      have hgv : r1.reverse[v]? = some r1.reverse[v] := List.getElem?_eq_getElem hvl
      have hvm := List.mem_reverse.1 (List.getElem_mem hvl)
      generalize r1.reverse[v] = b at hgv hvm
      have hb := hbd1 b hvm
      unfold RunOk at hb
      have hab := hap a hum b hvm
      refine X_slopen (E' := eRun) (a := xa) (c := xc) (xs := r1.reverse) (by (repeat (first | exact Find.here | apply Find.there))) (by omega) ?_
      rintro xb xo rfl
      repeat (first | refine Zq ?_ | refine Zs ?_ | refine ZT ?_ | refine ZF ?_ | refine Zc ?_ | refine XO_gU (hk := ?_))
      repeat (first | refine XD_pick (h := ?_) | refine Dq ?_ | refine Ds ?_ | refine XDi_gF (h := ?_) | refine XDi_gU (h := ?_) | refine X_draws (h := ?_))
      refine XDi_either (hT := fun h => ?_) (hF := fun h => ?_) <;> simp only [decide_eq_true_eq, decide_eq_false_iff_not] at h
      · repeat (first | refine XD_pick (h := ?_) | refine Dq ?_ | refine Ds ?_ | refine XDi_gF (h := ?_) | refine XDi_gU (h := ?_) | refine X_draws (h := ?_))
        (refine XD_end (h := ?_); repeat (first | refine Zq ?_ | refine Zs ?_ | refine ZT ?_ | refine ZF ?_ | refine Zc ?_ | refine XO_gU (hk := ?_)))
        refine X_cond rfl (fun h6 => ?_) (fun _ => ?_)
        · exfalso
          simp only [decide_eq_true_eq] at h6
          exact hab ⟨h, h6⟩
        repeat (first | refine Zq ?_ | refine Zs ?_ | refine ZT ?_ | refine ZF ?_ | refine Zc ?_ | refine XO_gU (hk := ?_))
        exact X_round (v + 1) (by show v + 1 ≤ r1.length; omega) (by show r1.length - (v + 1) < r1.length - v; omega) (by (repeat (first | exact Env.sub_nil _ | refine Env.sub_cons rfl ?_))) (by ((try simp only [List.cons_append, List.nil_append]); repeat (first | exact ent_refl | refine ent_take (by repeat (first | exact Find.here | apply Find.there)) ?_ | refine ent_drop ?_)))
      · repeat (first | refine XD_pick (h := ?_) | refine Dq ?_ | refine Ds ?_ | refine XDi_gF (h := ?_) | refine XDi_gU (h := ?_) | refine X_draws (h := ?_))
        (refine XD_end (h := ?_); repeat (first | refine Zq ?_ | refine Zs ?_ | refine ZT ?_ | refine ZF ?_ | refine Zc ?_ | refine XO_gU (hk := ?_)))
        refine X_cond rfl (fun h6 => by cases h6) (fun _ => ?_)
        repeat (first | refine Zq ?_ | refine Zs ?_ | refine ZT ?_ | refine ZF ?_ | refine Zc ?_ | refine XO_gU (hk := ?_))
        exact X_round (v + 1) (by show v + 1 ≤ r1.length; omega) (by show r1.length - (v + 1) < r1.length - v; omega) (by (repeat (first | exact Env.sub_nil _ | refine Env.sub_cons rfl ?_))) (by ((try simp only [List.cons_append, List.nil_append]); repeat (first | exact ent_refl | refine ent_take (by repeat (first | exact Find.here | apply Find.there)) ?_ | refine ent_drop ?_)))
    · repeat (first | refine Zq ?_ | refine Zs ?_ | refine ZT ?_ | refine ZF ?_ | refine Zc ?_ | refine XO_gU (hk := ?_))
      exact X_round (u + 1) (by show u + 1 ≤ r0.length; omega) (by show r0.length - (u + 1) < r0.length - u; omega) (by (repeat (first | exact Env.sub_nil _ | refine Env.sub_cons rfl ?_))) (by ((try simp only [List.cons_append, List.nil_append]); repeat (first | exact ent_refl | refine ent_take (by repeat (first | exact Find.here | apply Find.there)) ?_ | refine ent_drop ?_)))
  clear hgq
  have hgp : ([p, q] : List Nat)[0]? = some p := rfl
  repeat (first | refine Zq ?_ | refine Zs ?_ | refine ZT ?_ | refine ZF ?_ | refine Zc ?_ | refine XO_gU (hk := ?_))
  refine XO_call (pcut_spec p s sb hK3 hP (by omega) (n := 0) (by decide)) (hk := ?_)
  rintro _ _ ⟨rfl, rfl⟩
  obtain ⟨hK5, hP5⟩ := pcut_inv hK3 hP (by omega) 0
  rw [show (0 : Int).toNat = 0 from rfl]
  generalize cutM 3000 m3 (r0.drop 0) = m5 at hK5 ⊢
  generalize cutC C (r0.drop 0) = C5 at hK5 hP5 ⊢
  rw [List.take_zero] at hK5 ⊢
  clear hgp
  have hgq : ([p, q] : List Nat)[1]? = some q := rfl
  repeat (first | refine Zq ?_ | refine Zs ?_ | refine ZT ?_ | refine ZF ?_ | refine Zc ?_ | refine XO_gU (hk := ?_))
  refine XO_call (pwalk_spec q s sb (hK5.perm List.perm_append_comm) hP5 (by omega)) (hk := ?_)
  rintro _ _ ⟨ya, yc, rfl, rfl⟩
  repeat (first | refine Zq ?_ | refine Zs ?_ | refine ZT ?_ | refine ZF ?_ | refine Zc ?_ | refine XO_gU (hk := ?_))
  refine XO_call (same05_spec (Sl eRun xa xc r1.reverse) (Sl eRun ya yc r1.reverse) xa ya xc yc r1.reverse r1.reverse Sl.view Sl.view (by omega)) (hk := ?_)
  rintro _ _ ⟨rfl, rfl⟩
  rw [decide_eq_true rfl]
  clear hgq
  have hgp : ([p, q] : List Nat)[0]? = some p := rfl
  repeat (first | refine Zq ?_ | refine Zs ?_ | refine ZT ?_ | refine ZF ?_ | refine Zc ?_ | refine XO_gU (hk := ?_))
  refine XO_call (plen_spec p s 0 1 []) (hk := ?_)
  rintro _ _ ⟨rfl, rfl⟩
  clear hgp
  have hgq : ([p, q] : List Nat)[1]? = some q := rfl
  repeat (first | refine Zq ?_ | refine Zs ?_ | refine ZT ?_ | refine ZF ?_ | refine Zc ?_ | refine XO_gU (hk := ?_))
  refine XO_call (plen_spec q s 1 2 r1) (hk := ?_)
  rintro _ _ ⟨rfl, rfl⟩
  repeat (first | refine Zq ?_ | refine Zs ?_ | refine ZT ?_ | refine ZF ?_ | refine Zc ?_ | refine XO_gU (hk := ?_))
  refine XE_ret (.inl rfl) (tells_tmps rfl rfl) ⟨_, ⟨?_, rfl⟩, by ((try simp only [List.cons_append, List.nil_append]); repeat (first | exact ent_refl | refine ent_take (by repeat (first | exact Find.here | apply Find.there)) ?_ | refine ent_drop ?_))⟩
  exact congrArg Value.bool (by simp)
end Go.Proofs.Ytmndddegnfbaaaa.Sep
