import Derived.Test.YtmndddegnfbaaaaBn10
/- The law Law14W: it answers true whatever it is given, and what was there stays. No conditions. -/
namespace Go.Proofs.Ytmndddegnfbaaaa.Sep
open Go.RowKit
set_option linter.unusedSimpArgs false
set_option linter.unusedVariables false
/-! what is walked is what was pushed and not popped -/
theorem plH_at (k o : Int) : ∀ (l : List (Int × Int)) (nx : Int) (i : Nat) (h : i < l.length), ∃ l1 l2 x, plH k o nx l = l1 ++ (l[i].1, (⟨l[i].2, k, o, x⟩ : Hd)) :: l2
  | [], _, i, h => by simp at h
  | (p, n) :: l, nx, 0, h => ⟨[], _, nx, rfl⟩
  | (p, n) :: l, nx, i + 1, h => by
    obtain ⟨l1, l2, x, e⟩ := plH_at k o l (p + 1) i (by simpa using h)
    exact ⟨(p, ⟨n, k, o, nx⟩) :: l1, l2, x, by show (p, _) :: plH k o (p + 1) l = _; rw [e]; rfl⟩
set_option maxHeartbeats 8000000
attribute [local irreducible] X XE XO XD XDi XDa PV RV DV pt base Spec Sl Mp Keeps Pg Kc Pgs Spc Ck XL XLi Pl View
theorem walk14 (a0 : Option Addr) (c0 : Nat) (ps : List Int) (pops other : Int) (h1 : ∀ x ∈ ps, (Lit.int .u8 x).wf = true) (hl1 : ps.length ≤ maxLen) (hp : 0 ≤ pops ∧ pops ≤ 255) (hot : 0 ≤ other ∧ other ≤ 255) (W : World) (V1 : View (base W) (eI .u8) a0 ps) :
    Calls Try.prog 3 #[.slice a0 ps.length c0, .int .u8 pops, .int .u8 other] W fun e w' => e = .returned (.bool true) ∧ Below W.heap.size W w' := by
  refine law_intro (args := [.slice a0 ps.length c0, .int .u8 pops, .int .u8 other]) Try.func3 rfl Try.ntmps3 (by simp) ?_
  simp only [envOf, List.zipIdx, List.map, List.cons_append, List.nil_append, Nat.zero_add, Nat.reduceAdd]
  repeat (first | refine Zq ?_ | refine Zs ?_ | refine ZT ?_ | refine ZF ?_ | refine Zc ?_ | refine XO_gU (hk := ?_))
  refine XO_call awake14_spec (hk := ?_)
  rintro _ _ ⟨rfl, rfl⟩
  repeat (first | refine Zq ?_ | refine Zs ?_ | refine ZT ?_ | refine ZF ?_ | refine Zc ?_ | refine XO_gU (hk := ?_))
  refine X_cond rfl (fun h => by cases h) (fun _ => ?_)
  repeat (first | refine Zq ?_ | refine Zs ?_ | refine ZT ?_ | refine ZF ?_ | refine Zc ?_ | refine XO_gU (hk := ?_))
  refine X_cond rfl (fun h3 => ?_) (fun h3 => ?_) <;> simp only [decide_eq_true_eq, decide_eq_false_iff_not] at h3
  · repeat (first | refine Zq ?_ | refine Zs ?_ | refine ZT ?_ | refine ZF ?_ | refine Zc ?_ | refine XO_gU (hk := ?_))
    refine XE_ret (.inl rfl) (tells_tmps rfl rfl) ⟨_, ⟨rfl, rfl⟩, by ((try simp only [List.cons_append, List.nil_append]); repeat (first | exact ent_refl | refine ent_take (by repeat (first | exact Find.here | apply Find.there)) ?_ | refine ent_drop ?_))⟩
  repeat (first | refine Zq ?_ | refine Zs ?_ | refine ZT ?_ | refine ZF ?_ | refine Zc ?_ | refine XO_gU (hk := ?_))
  refine XO_call (knew_spec 2000) (hk := ?_)
  rintro _ _ ⟨s, sb, rfl, rfl⟩
  have hk0 : KInv ⟨2000, [(0, 2000)], fun _ => [], 0⟩ (⟨fun _ => 0, 0⟩ : Mm).f (plH 0 5 0 [] ++ plH 1 6 0 []) := knew 2000 (⟨fun _ => 0, 0⟩ : Mm).f
  generalize hm0 : (⟨fun _ => 0, 0⟩ : Mm) = m0 at hk0 ⊢
  repeat (first | refine Zq ?_ | refine Zs ?_ | refine ZT ?_ | refine ZF ?_ | refine Zc ?_ | refine XO_gU (hk := ?_))
  refine XO_call (plnew_spec s 0 5) (hk := ?_)
  rintro _ _ ⟨p, rfl, rfl⟩
  repeat (first | refine Zq ?_ | refine Zs ?_ | refine ZT ?_ | refine ZF ?_ | refine Zc ?_ | refine XO_gU (hk := ?_))
  refine XO_call (plnew_spec s 1 6) (hk := ?_)
  rintro _ _ ⟨q, rfl, rfl⟩
  repeat (first | refine Zq ?_ | refine Zs ?_ | refine ZT ?_ | refine ZF ?_ | refine Zc ?_ | refine XO_gU (hk := ?_))
  refine X_conv (fun _ h => SL_nilSl eRun h) ?_
  refine X_loop (ι := (Nat × Co × Mm × List (Int × Int) × List (Int × Int) × Int) × (Option Addr × Nat)) (fun z => z.1.1 ≤ ps.length ∧ z.1.2.2.2.1.length = z.1.1 ∧ z.1.2.2.2.2.1.length ≤ z.1.1 ∧ KInv z.1.2.1 z.1.2.2.1.f (plH 0 5 0 z.1.2.2.2.1 ++ plH 1 6 0 z.1.2.2.2.2.1) ∧ z.1.2.1.P = 2000 ∧ LineP z.1.2.1 z.1.2.2.2.2.2 (71 * (z.1.1 : Int)))
    (fun z => [(0, .slice a0 ps.length c0), (1, .int .u8 pops), (2, .int .u8 other), (8, .pointer (some ⟨s, 0, none⟩)), (9, .pointer (some ⟨p, 0, none⟩)), (10, .pointer (some ⟨q, 0, none⟩)), (11, .slice z.2.1 z.1.2.2.2.1.reverse.length z.2.2), (12, .int .i64 (z.1.1 : Int))])
    (fun z => [Sl eRun z.2.1 z.2.2 z.1.2.2.2.1.reverse, Pl p s 0 5 z.1.2.2.2.1, Pl q s 1 6 z.1.2.2.2.2.1, Ck s sb z.1.2.1, Spc sb 2000 z.1.2.2.1, base W]) (fun z => ps.length - z.1.1) ((0, ⟨2000, [(0, 2000)], fun _ => [], 0⟩, m0, [], [], 0), (none, 0)) ⟨Nat.zero_le _, rfl, Nat.le_refl _, hk0, rfl, line0⟩ ?_ (by ((try simp only [List.cons_append, List.nil_append]); repeat (first | exact ent_refl | refine ent_take (by repeat (first | exact Find.here | apply Find.there)) ?_ | refine ent_drop ?_))) ?_
  · (repeat (first | exact Env.sub_nil _ | refine Env.sub_cons rfl ?_))
  clear hk0
  rintro ⟨⟨i, C, m, rs, rq, at_⟩, a, c⟩ ⟨hi, hrl, hql, hK, hP, hL⟩
  dsimp only at hi hrl hql hK hP hL ⊢
  have hrv : rs.reverse.length = rs.length := List.length_reverse
  repeat (first | refine Zq ?_ | refine Zs ?_ | refine ZT ?_ | refine ZF ?_ | refine Zc ?_ | refine XO_gU (hk := ?_))
  refine X_cond rfl (fun hc => ?_) (fun hc => ?_) <;> simp only [decide_eq_true_eq, decide_eq_false_iff_not] at hc
  · have hil : i < ps.length := by omega
    have hg : ps[i]? = some ps[i] := List.getElem?_eq_getElem hil
    have hx := wf_u8 (h1 ps[i] (List.getElem_mem hil))
    generalize ps[i] = x at hg hx
    refine X_view (by (repeat (first | exact Find.here | apply Find.there))) V1 (by omega) ?_
    rintro b1 o1 rfl
    obtain ⟨w1, w2, hb0, hb1⟩ := rnd70 hx.1
    obtain ⟨C1, m1, s1, hK1, hP1, hL1⟩ := push_line p s sb (w := 70) hb0 ⟨w1, w2⟩ (by decide) hK hP hL (by omega) (by omega)
    generalize rnd (x % 70 + 1) = w at w1 w2 s1 hK1 hL1
    repeat (first | refine Zq ?_ | refine Zs ?_ | refine ZT ?_ | refine ZF ?_ | refine Zc ?_ | refine XO_gU (hk := ?_))
    refine XO_call s1 (hk := ?_)
    rintro _ _ ⟨rfl, rfl⟩
    repeat (first | refine Zq ?_ | refine Zs ?_ | refine ZT ?_ | refine ZF ?_ | refine Zc ?_ | refine XO_gU (hk := ?_))
    refine X_cond rfl (fun h => by cases h) (fun _ => ?_)
    repeat (first | refine Zq ?_ | refine Zs ?_ | refine ZT ?_ | refine ZF ?_ | refine Zc ?_ | refine XO_gU (hk := ?_))
    refine XO_lit (E' := eRun) [(at_, w)] (hk := ?_)
    intro lb
    repeat (first | refine Zq ?_ | refine Zs ?_ | refine ZT ?_ | refine ZF ?_ | refine Zc ?_ | refine XO_gU (hk := ?_))
    refine XO_dv (dv_append (E' := eRun) (xs := [(at_, w)]) (ys := rs.reverse) (A := Sl eRun a c rs.reverse) (a := some ⟨lb, 0, none⟩) (a2 := a) (c2 := c) (hv := Sl.view) (hb := by simp; omega)) (hk := ?_)
    rintro _ _ ⟨a3, c3, rfl, rfl⟩
    have e6 : [(at_, w)] ++ rs.reverse = (rs ++ [(at_, w)]).reverse := by simp
    rw [e6]
    have hK1' : KInv C1 m1.f (plH 1 6 0 rq ++ plH 0 5 0 (rs ++ [(at_, w)])) := hK1.perm List.perm_append_comm
    obtain ⟨C2, m2, s2, hK2, hP2, hL2⟩ := push_line q s sb (w := 1) (n := 1) (k := 1) (o := 6) (by decide) (by decide) (by decide) hK1' hP1 hL1 (by omega) (by omega)
    rw [show rnd 1 = 1 from by decide] at s2 hK2 hL2
    have hB : (71 : Int) * ((i + 1 : Nat) : Int) = 71 * (i : Int) + 70 + 1 := by omega
    repeat (first | refine Zq ?_ | refine Zs ?_ | refine ZT ?_ | refine ZF ?_ | refine Zc ?_ | refine XO_gU (hk := ?_))
    refine X_cond rfl (fun _ => ?_) (fun _ => ?_)
    · repeat (first | refine Zq ?_ | refine Zs ?_ | refine ZT ?_ | refine ZF ?_ | refine Zc ?_ | refine XO_gU (hk := ?_))
      refine XO_call s2 (hk := ?_)
      rintro _ _ ⟨rfl, rfl⟩
      repeat (first | refine Zq ?_ | refine Zs ?_ | refine ZT ?_ | refine ZF ?_ | refine Zc ?_ | refine XO_gU (hk := ?_))
      exact X_round ((i + 1, C2, m2, rs ++ [(at_, w)], rq ++ [(at_ + w, 1)], at_ + w + 1), (a3, c3)) ⟨by show i + 1 ≤ ps.length; omega, by simp [hrl], by simp; omega, hK2.perm List.perm_append_comm, hP2, by rw [hB]; exact hL2⟩ (by show ps.length - (i + 1) < ps.length - i; omega) (by (repeat (first | exact Env.sub_nil _ | refine Env.sub_cons rfl ?_))) (by ((try simp only [List.cons_append, List.nil_append]); repeat (first | exact ent_refl | refine ent_take (by repeat (first | exact Find.here | apply Find.there)) ?_ | refine ent_drop ?_)))
    · repeat (first | refine Zq ?_ | refine Zs ?_ | refine ZT ?_ | refine ZF ?_ | refine Zc ?_ | refine XO_gU (hk := ?_))
      exact X_round ((i + 1, C1, m1, rs ++ [(at_, w)], rq, at_ + w), (a3, c3)) ⟨by show i + 1 ≤ ps.length; omega, by simp [hrl], by show rq.length ≤ i + 1; omega, hK1, hP1, by rw [hB]; exact ⟨hL1.fr, hL1.ks, hL1.a0, by have := hL1.a1; show at_ + w ≤ _; omega⟩⟩ (by show ps.length - (i + 1) < ps.length - i; omega) (by (repeat (first | exact Env.sub_nil _ | refine Env.sub_cons rfl ?_))) (by ((try simp only [List.cons_append, List.nil_append]); repeat (first | exact ent_refl | refine ent_take (by repeat (first | exact Find.here | apply Find.there)) ?_ | refine ent_drop ?_)))
  clear hL
  have hrl2 : rs.length ≤ 20 := by omega
  refine X_fact (A := Sl eRun a c rs.reverse) (by (repeat (first | exact Find.here | apply Find.there))) Sl.cap (fun hcap => ?_)
  refine X_exit ?_
  (repeat (first | refine XE_code_exit ?_ | refine XE_pred_exit ?_))
  refine XE_block_exit ?_
  refine XE_code ?_
  refine X_seq ?_
  refine X_join (ι := (Nat × Co × Mm) × (Option Addr × Nat)) (fun z => z.1.1 ≤ rs.length ∧ View (Sl eRun a c rs.reverse) eRun z.2.1 (rs.reverse.drop z.1.1) ∧ (rs.reverse.drop z.1.1).length ≤ z.2.2 ∧ KInv z.1.2.1 z.1.2.2.f (plH 0 5 0 (rs.take (rs.length - z.1.1)) ++ plH 1 6 0 rq) ∧ z.1.2.1.P = 2000)
    (fun z => [(8, .pointer (some ⟨s, 0, none⟩)), (9, .pointer (some ⟨p, 0, none⟩)), (11, .slice z.2.1 (rs.reverse.drop z.1.1).length z.2.2)])
    (fun z => [Sl eRun a c rs.reverse, Pl p s 0 5 (rs.take (rs.length - z.1.1)), Pl q s 1 6 rq, Ck s sb z.1.2.1, Spc sb 2000 z.1.2.2, base W]) ?_ ?_
  · repeat (first | refine Zq ?_ | refine Zs ?_ | refine ZT ?_ | refine ZF ?_ | refine Zc ?_ | refine XO_gU (hk := ?_))
    refine X_loop (ι := (Nat × Co × Mm) × (Option Addr × Nat)) (fun z => z.1.1 ≤ rs.length ∧ View (Sl eRun a c rs.reverse) eRun z.2.1 (rs.reverse.drop z.1.1) ∧ (rs.reverse.drop z.1.1).length ≤ z.2.2 ∧ KInv z.1.2.1 z.1.2.2.f (plH 0 5 0 (rs.take (rs.length - z.1.1)) ++ plH 1 6 0 rq) ∧ z.1.2.1.P = 2000)
      (fun z => [(1, .int .u8 pops), (8, .pointer (some ⟨s, 0, none⟩)), (9, .pointer (some ⟨p, 0, none⟩)), (11, .slice z.2.1 (rs.reverse.drop z.1.1).length z.2.2), (16, .int .i64 (z.1.1 : Int))])
      (fun z => [Sl eRun a c rs.reverse, Pl p s 0 5 (rs.take (rs.length - z.1.1)), Pl q s 1 6 rq, Ck s sb z.1.2.1, Spc sb 2000 z.1.2.2, base W]) (fun z => rs.length - z.1.1) ((0, C, m), (a, c)) ⟨Nat.zero_le _, by rw [List.drop_zero]; exact Sl.view, by rw [List.drop_zero]; exact hcap, by simp only [Nat.sub_zero, List.take_length]; exact hK, hP⟩ ?_ (by simp only [Nat.sub_zero, List.take_length]; ((try simp only [List.cons_append, List.nil_append]); repeat (first | exact ent_refl | refine ent_take (by repeat (first | exact Find.here | apply Find.there)) ?_ | refine ent_drop ?_))) ?_
    · dsimp only
      rw [List.drop_zero]
      (repeat (first | exact Env.sub_nil _ | refine Env.sub_cons rfl ?_))
    clear hK hP hcap C m
    rintro ⟨⟨j, C, m⟩, a', c'⟩ ⟨hj, hV, hcap, hK, hP⟩
    dsimp only at hj hV hcap hK hP ⊢
    have hdl : (rs.reverse.drop j).length = rs.length - j := by simp
    repeat (first | refine Zq ?_ | refine Zs ?_ | refine ZT ?_ | refine ZF ?_ | refine Zc ?_ | refine XO_gU (hk := ?_))
    refine XO_either (hT := fun h5 => ?_) (hF := fun h5 => ?_) <;> simp only [decide_eq_true_eq, decide_eq_false_iff_not] at h5
    · repeat (first | refine Zq ?_ | refine Zs ?_ | refine ZT ?_ | refine ZF ?_ | refine Zc ?_ | refine XO_gU (hk := ?_))
      refine X_cond rfl (fun h6 => ?_) (fun h6 => ?_) <;> simp only [hdl, decide_eq_true_eq, decide_eq_false_iff_not] at h6
      · have hkl : rs.length - j - 1 < rs.length := by omega
        have e1 : rs.take (rs.length - j) = rs.take (rs.length - j - 1) ++ [rs[rs.length - j - 1]] := by
          have := List.take_succ_eq_append_getElem hkl
          rw [show rs.length - j - 1 + 1 = rs.length - j from by omega] at this
          exact this
        have hget : (rs.reverse.drop j)[0]? = some rs[rs.length - j - 1] := by
          rw [List.getElem?_drop, Nat.add_zero, List.getElem?_reverse (by omega)]
          rw [show rs.length - 1 - j = rs.length - j - 1 from by omega]
          exact List.getElem?_eq_getElem hkl
        rw [e1] at hK ⊢
        generalize hr : rs[rs.length - j - 1] = r at e1 hget hK ⊢
        have e2 : rs.take (rs.length - j - 1) = rs.take (rs.length - (j + 1)) := by rw [show rs.length - j - 1 = rs.length - (j + 1) from by omega]
        rw [e2] at hK ⊢
        have hp := ppop_ok p s sb (pg := r.1) (n := r.2) hK hP (by simp; omega)
        obtain ⟨hK1, hP1⟩ := ppop_inv (pg := r.1) (n := r.2) hK hP
        generalize putC C (r.1, r.2) = C1 at hp hK1 hP1
        generalize popM 2000 m r.1 = m1 at hp hK1
        refine X_view (A := Sl eRun a c rs.reverse) (by (repeat (first | exact Find.here | apply Find.there))) hV (by omega) ?_
        rintro b1 o1 rfl
        repeat (first | refine Zq ?_ | refine Zs ?_ | refine ZT ?_ | refine ZF ?_ | refine Zc ?_ | refine XO_gU (hk := ?_))
        refine XO_call hp (hk := ?_)
        rintro _ _ ⟨rfl, rfl⟩
        repeat (first | refine Zq ?_ | refine Zs ?_ | refine ZT ?_ | refine ZF ?_ | refine Zc ?_ | refine XO_gU (hk := ?_))
        refine XO_known false (hb := by simp) (hk := ?_)
        repeat (first | refine Zq ?_ | refine Zs ?_ | refine ZT ?_ | refine ZF ?_ | refine Zc ?_ | refine XO_gU (hk := ?_))
        refine X_cond rfl (fun h => absurd h (by simp)) (fun _ => ?_)
        repeat (first | refine Zq ?_ | refine Zs ?_ | refine ZT ?_ | refine ZF ?_ | refine Zc ?_ | refine XO_gU (hk := ?_))
        have hV2 := View.drop (E' := eRun) (s := 2) 1 rfl hcap hV
        rw [List.drop_drop] at hV2
        have hln : (rs.reverse.drop j).length - 1 = (rs.reverse.drop (j + 1)).length := by simp; omega
        exact X_round ((j + 1, C1, m1), (subA (some ⟨b1, o1, none⟩) 1 c' 2, c' - 1)) ⟨by show j + 1 ≤ rs.length; omega, hV2, by rw [← hln]; dsimp only; omega, hK1, hP1⟩ (by show rs.length - (j + 1) < rs.length - j; omega) (by dsimp only; rw [← hln]; (repeat (first | exact Env.sub_nil _ | refine Env.sub_cons rfl ?_))) (by ((try simp only [List.cons_append, List.nil_append]); repeat (first | exact ent_refl | refine ent_take (by repeat (first | exact Find.here | apply Find.there)) ?_ | refine ent_drop ?_)))
      · repeat (first | refine Zq ?_ | refine Zs ?_ | refine ZT ?_ | refine ZF ?_ | refine Zc ?_ | refine XO_gU (hk := ?_))
        exact X_meet ((j, C, m), (a', c')) ⟨hj, hV, hcap, hK, hP⟩ (by (repeat (first | exact Env.sub_nil _ | refine Env.sub_cons rfl ?_))) (by ((try simp only [List.cons_append, List.nil_append]); repeat (first | exact ent_refl | refine ent_take (by repeat (first | exact Find.here | apply Find.there)) ?_ | refine ent_drop ?_)))
    · repeat (first | refine Zq ?_ | refine Zs ?_ | refine ZT ?_ | refine ZF ?_ | refine Zc ?_ | refine XO_gU (hk := ?_))
      refine X_cond rfl (fun h => by cases h) (fun _ => ?_)
      repeat (first | refine Zq ?_ | refine Zs ?_ | refine ZT ?_ | refine ZF ?_ | refine Zc ?_ | refine XO_gU (hk := ?_))
      exact X_meet ((j, C, m), (a', c')) ⟨hj, hV, hcap, hK, hP⟩ (by (repeat (first | exact Env.sub_nil _ | refine Env.sub_cons rfl ?_))) (by ((try simp only [List.cons_append, List.nil_append]); repeat (first | exact ent_refl | refine ent_take (by repeat (first | exact Find.here | apply Find.there)) ?_ | refine ent_drop ?_)))
  clear hK hP hcap C m
  rintro ⟨⟨j, C, m⟩, a', c'⟩ ⟨hj, hV, hcap, hK, hP⟩
  dsimp only at hj hV hcap hK hP ⊢
  have hrj : (rs.take (rs.length - j)).reverse = rs.reverse.drop j := by
    rw [List.reverse_take, show rs.length - (rs.length - j) = j from by omega]
  generalize hrk : rs.take (rs.length - j) = rk at hK hrj ⊢
  have hkl : rk.length ≤ 20 := by rw [← hrk]; simp; omega
  rw [← hrj] at hV hcap ⊢
  have hkv : rk.reverse.length = rk.length := List.length_reverse
  repeat (first | refine Zq ?_ | refine Zs ?_ | refine ZT ?_ | refine ZF ?_ | refine Zc ?_ | refine XO_gU (hk := ?_))
  refine XO_call (pwalk_spec p s sb hK hP (by omega)) (hk := ?_)
  rintro _ _ ⟨wa, wc, rfl, rfl⟩
  have hK2 : KInv C (walkM 2000 m rk).f (plH 0 5 0 rk ++ plH 1 6 0 rq) := by rw [walkM_f]; exact hK
  clear hK
  generalize walkM 2000 m rk = m2 at hK2 ⊢
  repeat (first | refine Zq ?_ | refine Zs ?_ | refine ZT ?_ | refine ZF ?_ | refine Zc ?_ | refine XO_gU (hk := ?_))
  refine XO_call (same05_spec (Sl eRun wa wc rk.reverse) (Sl eRun a c rs.reverse) wa a' wc c' rk.reverse rk.reverse Sl.view hV (by omega)) (hk := ?_)
  rintro _ _ ⟨rfl, rfl⟩
  rw [decide_eq_true rfl]
  repeat (first | refine Zq ?_ | refine Zs ?_ | refine ZT ?_ | refine ZF ?_ | refine Zc ?_ | refine XO_gU (hk := ?_))
  refine XO_call (plen_spec p s 0 5 rk) (hk := ?_)
  rintro _ _ ⟨rfl, rfl⟩
  repeat (first | refine Zq ?_ | refine Zs ?_ | refine ZT ?_ | refine ZF ?_ | refine Zc ?_ | refine XO_gU (hk := ?_))
  refine X_cond rfl (fun h => absurd h (by simp [hkv])) (fun _ => ?_)
  repeat (first | refine Zq ?_ | refine Zs ?_ | refine ZT ?_ | refine ZF ?_ | refine Zc ?_ | refine XO_gU (hk := ?_))
  refine X_loop (ι := Nat × Mm) (fun z => z.1 ≤ rk.length ∧ KInv C z.2.f (plH 0 5 0 rk ++ plH 1 6 0 rq))
    (fun z => [(8, .pointer (some ⟨s, 0, none⟩)), (9, .pointer (some ⟨p, 0, none⟩)), (11, .slice a' rk.reverse.length c'), (20, .slice wa rk.reverse.length wc), (22, .int .i64 (z.1 : Int))])
    (fun z => [Sl eRun wa wc rk.reverse, Sl eRun a c rs.reverse, Pl p s 0 5 rk, Pl q s 1 6 rq, Ck s sb C, Spc sb 2000 z.2, base W]) (fun z => rk.length - z.1) (0, m2) ⟨Nat.zero_le _, hK2⟩ ?_ (by ((try simp only [List.cons_append, List.nil_append]); repeat (first | exact ent_refl | refine ent_take (by repeat (first | exact Find.here | apply Find.there)) ?_ | refine ent_drop ?_))) ?_
  · (repeat (first | exact Env.sub_nil _ | refine Env.sub_cons rfl ?_))
  clear hK2
  rintro ⟨i2, m3⟩ ⟨hi2, hK⟩
  dsimp only at hi2 hK ⊢
  repeat (first | refine Zq ?_ | refine Zs ?_ | refine ZT ?_ | refine ZF ?_ | refine Zc ?_ | refine XO_gU (hk := ?_))
  refine X_cond rfl (fun hc2 => ?_) (fun hc2 => ?_) <;> simp only [hkv, decide_eq_true_eq, decide_eq_false_iff_not] at hc2
  · have hil : i2 < rk.reverse.length := by omega
    have hget : rk.reverse[i2]? = some rk.reverse[i2] := List.getElem?_eq_getElem hil
    obtain ⟨l1, l2, nx, hsp⟩ := plH_at 0 5 rk 0 (rk.length - 1 - i2) (by omega)
    have hre : rk.reverse[i2] = rk[rk.length - 1 - i2]'(by omega) := List.getElem_reverse ..
    rw [← hre] at hsp
    generalize rk.reverse[i2] = r at hget hsp
    rw [hsp, List.append_assoc] at hK
    refine X_slopen (E' := eRun) (a := wa) (c := wc) (xs := rk.reverse) (by (repeat (first | exact Find.here | apply Find.there))) (by omega) ?_
    rintro wb wo rfl
    repeat (first | refine Zq ?_ | refine Zs ?_ | refine ZT ?_ | refine ZF ?_ | refine Zc ?_ | refine XO_gU (hk := ?_))
    repeat (first | refine XD_pick (h := ?_) | refine Dq ?_ | refine Ds ?_ | refine XDi_gF (h := ?_) | refine XDi_gU (h := ?_) | refine X_draws (h := ?_))
    refine XL_start 11 23 (fun b => pt b (.cells [.int .i64 0, .int .i64 0, .int .u64 0, .int .u64 0].toArray 41 (0, 0))) ?_
    refine XL_call (kspace_spec s sb C) ?_
    (rintro _ _ ⟨rfl, rfl⟩; refine ⟨by (repeat (first | exact keeps_nil | exact keeps_fnil | refine keeps_skip (h := ?_) | refine keeps_takeQ (h := ?_))), ?_⟩)
    (repeat (first | refine XL_pick ?_ | refine Lq ?_ | refine Ls ?_))
    refine XL_call (hread_ok sb hK hP) ?_
    (rintro _ _ ⟨rfl, rfl⟩; refine ⟨by (repeat (first | exact keeps_nil | exact keeps_fnil | refine keeps_skip (h := ?_) | refine keeps_takeQ (h := ?_))), ?_⟩)
    (repeat (first | refine XL_pick ?_ | refine Lq ?_ | refine Ls ?_))
    refine XL_end ?_
    intro xb
    repeat (first | refine XD_pick (h := ?_) | refine Dq ?_ | refine Ds ?_ | refine XDi_gF (h := ?_) | refine XDi_gU (h := ?_) | refine X_draws (h := ?_))
    refine XD_one (h := ?_)
    refine XDa_dvk0 (dv_storeW (vs := [.int .i64 r.2, .int .i64 0, .int .u64 5, .int .u64 nx])) (K := _) (hk := ?_)
    (rintro _ _ rfl; refine ⟨by (repeat (first | exact keeps_nil | exact keeps_fnil | refine keeps_skip (h := ?_) | refine keeps_takeQ (h := ?_))), ?_⟩)
    repeat (first | refine XD_pick (h := ?_) | refine Dq ?_ | refine Ds ?_ | refine XDi_gF (h := ?_) | refine XDi_gU (h := ?_) | refine X_draws (h := ?_))
    (refine XD_one (h := ?_); refine XDa_dvA (dv_of_rv (rv_of_pv pv_assign)) (hk := ?_); rintro _ _ ⟨rfl, rfl⟩; refine ⟨by (repeat (first | exact keeps_nil | exact keeps_fnil | refine keeps_skip (h := ?_) | refine keeps_takeQ (h := ?_))), ?_⟩)
    (refine XD_end (h := ?_); repeat (first | refine Zq ?_ | refine Zs ?_ | refine ZT ?_ | refine ZF ?_ | refine Zc ?_ | refine XO_gU (hk := ?_)))
    repeat (first | refine XD_pick (h := ?_) | refine Dq ?_ | refine Ds ?_ | refine XDi_gF (h := ?_) | refine XDi_gU (h := ?_) | refine X_draws (h := ?_))
    (refine XD_end (h := ?_); repeat (first | refine Zq ?_ | refine Zs ?_ | refine ZT ?_ | refine ZF ?_ | refine Zc ?_ | refine XO_gU (hk := ?_)))
    refine X_cond rfl (fun h => absurd h (by simp)) (fun _ => ?_)
    repeat (first | refine Zq ?_ | refine Zs ?_ | refine ZT ?_ | refine ZF ?_ | refine Zc ?_ | refine XO_gU (hk := ?_))
    refine X_round (i2 + 1, hrM 2000 m3 r.1) ⟨by show i2 + 1 ≤ rk.length; omega, ?_⟩ (by show rk.length - (i2 + 1) < rk.length - i2; omega) (by (repeat (first | exact Env.sub_nil _ | refine Env.sub_cons rfl ?_))) (by ((try simp only [List.cons_append, List.nil_append]); repeat (first | exact ent_refl | refine ent_take (by repeat (first | exact Find.here | apply Find.there)) ?_ | refine ent_drop ?_)))
    rw [hsp, List.append_assoc]; exact hK
  repeat (first | refine Zq ?_ | refine Zs ?_ | refine ZT ?_ | refine ZF ?_ | refine Zc ?_ | refine XO_gU (hk := ?_))
  refine XO_call (ptop_spec p s 0 5 rk (by omega)) (hk := ?_)
  rintro _ _ ⟨rfl, rfl⟩
  rcases List.eq_nil_or_concat rk with h0 | ⟨l, r, h0⟩
  · subst h0
    repeat (first | refine Zq ?_ | refine Zs ?_ | refine ZT ?_ | refine ZF ?_ | refine Zc ?_ | refine XO_gU (hk := ?_))
    refine XO_dv (dv_alloc (row := [.int .i64 0, .int .i64 0])) (hk := ?_)
    rintro _ _ ⟨rb, rfl, rfl⟩
    refine XO_dv0 (dv_storeW (vs := [.int .i64 0, .int .i64 0])) (hk := ?_)
    rintro _ _ rfl
    repeat (first | refine Zq ?_ | refine Zs ?_ | refine ZT ?_ | refine ZF ?_ | refine Zc ?_ | refine XO_gU (hk := ?_))
    repeat (first | refine XD_pick (h := ?_) | refine Dq ?_ | refine Ds ?_ | refine XDi_gF (h := ?_) | refine XDi_gU (h := ?_) | refine X_draws (h := ?_))
    (refine XD_one (h := ?_); refine XDa_dvA (dv_of_rv (rv_of_pv pv_assign)) (hk := ?_); rintro _ _ ⟨rfl, rfl⟩; refine ⟨by (repeat (first | exact keeps_nil | exact keeps_fnil | refine keeps_skip (h := ?_) | refine keeps_takeQ (h := ?_))), ?_⟩)
    (refine XD_end (h := ?_); repeat (first | refine Zq ?_ | refine Zs ?_ | refine ZT ?_ | refine ZF ?_ | refine Zc ?_ | refine XO_gU (hk := ?_)))
    refine XE_ret (.inl rfl) (tells_tmps rfl rfl) ⟨_, ⟨?_, rfl⟩, by ((try simp only [List.cons_append, List.nil_append]); repeat (first | exact ent_refl | refine ent_take (by repeat (first | exact Find.here | apply Find.there)) ?_ | refine ent_drop ?_))⟩
    rfl
  · rw [List.concat_eq_append] at h0
    subst h0
    rw [topR_snoc]
    have hget : (l ++ [r]).reverse[0]? = some r := by simp
    have hlp : 0 < (l ++ [r]).reverse.length := by simp
    repeat (first | refine Zq ?_ | refine Zs ?_ | refine ZT ?_ | refine ZF ?_ | refine Zc ?_ | refine XO_gU (hk := ?_))
    refine XO_dv (dv_alloc (row := [.int .i64 0, .int .i64 0])) (hk := ?_)
    rintro _ _ ⟨rb, rfl, rfl⟩
    refine XO_dv0 (dv_storeW (vs := [.int .i64 r.1, .int .i64 r.2])) (hk := ?_)
    rintro _ _ rfl
    repeat (first | refine Zq ?_ | refine Zs ?_ | refine ZT ?_ | refine ZF ?_ | refine Zc ?_ | refine XO_gU (hk := ?_))
    refine X_view (A := Sl eRun a c rs.reverse) (by (repeat (first | exact Find.here | apply Find.there))) hV (by simp) ?_
    rintro b1 o1 rfl
    repeat (first | refine XD_pick (h := ?_) | refine Dq ?_ | refine Ds ?_ | refine XDi_gF (h := ?_) | refine XDi_gU (h := ?_) | refine X_draws (h := ?_))
    refine XDi_known true (hb := by simp) (hT := ?_)
    repeat (first | refine XD_pick (h := ?_) | refine Dq ?_ | refine Ds ?_ | refine XDi_gF (h := ?_) | refine XDi_gU (h := ?_) | refine X_draws (h := ?_))
    refine XDi_known false (hb := rfl) (hT := ?_)
    repeat (first | refine XD_pick (h := ?_) | refine Dq ?_ | refine Ds ?_ | refine XDi_gF (h := ?_) | refine XDi_gU (h := ?_) | refine X_draws (h := ?_))
    refine Dp (pv_eqRec [r.1, r.2] [r.1, r.2]) ?_
    repeat (first | refine XD_pick (h := ?_) | refine Dq ?_ | refine Ds ?_ | refine XDi_gF (h := ?_) | refine XDi_gU (h := ?_) | refine X_draws (h := ?_))
    (refine XD_one (h := ?_); refine XDa_dvA (dv_of_rv (rv_of_pv pv_assign)) (hk := ?_); rintro _ _ ⟨rfl, rfl⟩; refine ⟨by (repeat (first | exact keeps_nil | exact keeps_fnil | refine keeps_skip (h := ?_) | refine keeps_takeQ (h := ?_))), ?_⟩)
    (refine XD_end (h := ?_); repeat (first | refine Zq ?_ | refine Zs ?_ | refine ZT ?_ | refine ZF ?_ | refine Zc ?_ | refine XO_gU (hk := ?_)))
    refine XE_ret (.inl rfl) (tells_tmps rfl rfl) ⟨_, ⟨?_, rfl⟩, by ((try simp only [List.cons_append, List.nil_append]); repeat (first | exact ent_refl | refine ent_take (by repeat (first | exact Find.here | apply Find.there)) ?_ | refine ent_drop ?_))⟩
    exact congrArg Value.bool (by simp)
end Go.Proofs.Ytmndddegnfbaaaa.Sep
