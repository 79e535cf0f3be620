import Derived.Test.YtmndddegnfbaaaaBn10
/- The law Law14C: it answers true whatever it is given, and what was there stays. No conditions. -/
namespace Go.Proofs.Ytmndddegnfbaaaa.Sep
open Go.RowKit
set_option linter.unusedSimpArgs false
set_option linter.unusedVariables false
/-! a pile that is cut -/
set_option maxHeartbeats 8000000
attribute [local irreducible] X XE XO XD XDi XDa PV RV DV pt base Spec Sl Mp Keeps Pg Kc Pgs Spc Ck XL XLi Pl
theorem cut14 (a : Option Addr) (c : Nat) (ps : List Int) (n : Int) (h1 : ∀ x ∈ ps, (Lit.int .u8 x).wf = true) (hl1 : ps.length ≤ maxLen) (hn : 0 ≤ n ∧ n ≤ 255) (W : World) (V1 : View (base W) (eI .u8) a ps) :
    Calls Try.prog 5 #[.slice a ps.length c, .int .u8 n] W fun e w' => e = .returned (.bool true) ∧ Below W.heap.size W w' := by
  refine law_intro (args := [.slice a ps.length c, .int .u8 n]) Try.func5 rfl Try.ntmps5 (by simp) ?_
  simp only [envOf, List.zipIdx, List.map, List.cons_append, List.nil_append, Nat.zero_add, Nat.reduceAdd]
  repeat (first | refine Zq ?_ | refine Zs ?_ | refine ZT ?_ | refine ZF ?_ | refine Zc ?_ | refine XO_gU (hk := ?_))
  refine XO_call awake14_spec (hk := ?_)
  rintro _ _ ⟨rfl, rfl⟩
  repeat (first | refine Zq ?_ | refine Zs ?_ | refine ZT ?_ | refine ZF ?_ | refine Zc ?_ | refine XO_gU (hk := ?_))
  refine X_cond rfl (fun h => by cases h) (fun _ => ?_)
  repeat (first | refine Zq ?_ | refine Zs ?_ | refine ZT ?_ | refine ZF ?_ | refine Zc ?_ | refine XO_gU (hk := ?_))
  refine X_cond rfl (fun h3 => ?_) (fun h3 => ?_) <;> simp only [decide_eq_true_eq, decide_eq_false_iff_not] at h3
  · repeat (first | refine Zq ?_ | refine Zs ?_ | refine ZT ?_ | refine ZF ?_ | refine Zc ?_ | refine XO_gU (hk := ?_))
    refine XE_ret (.inl rfl) (tells_tmps rfl rfl) ⟨_, ⟨rfl, rfl⟩, by ((try simp only [List.cons_append, List.nil_append]); repeat (first | exact ent_refl | refine ent_take (by repeat (first | exact Find.here | apply Find.there)) ?_ | refine ent_drop ?_))⟩
  repeat (first | refine Zq ?_ | refine Zs ?_ | refine ZT ?_ | refine ZF ?_ | refine Zc ?_ | refine XO_gU (hk := ?_))
  refine XO_call (knew_spec 2000) (hk := ?_)
  rintro _ _ ⟨s, sb, rfl, rfl⟩
  have hk0 : KInv ⟨2000, [(0, 2000)], fun _ => [], 0⟩ (⟨fun _ => 0, 0⟩ : Mm).f (plH 0 5 0 [] ++ []) := knew 2000 (⟨fun _ => 0, 0⟩ : Mm).f
  generalize hm0 : (⟨fun _ => 0, 0⟩ : Mm) = m0 at hk0 ⊢
  repeat (first | refine Zq ?_ | refine Zs ?_ | refine ZT ?_ | refine ZF ?_ | refine Zc ?_ | refine XO_gU (hk := ?_))
  refine XO_call (plnew_spec s 0 5) (hk := ?_)
  rintro _ _ ⟨p, rfl, rfl⟩
  repeat (first | refine Zq ?_ | refine Zs ?_ | refine ZT ?_ | refine ZF ?_ | refine Zc ?_ | refine XO_gU (hk := ?_))
  refine X_loop (ι := Nat × Co × Mm × List (Int × Int) × Int) (fun q => q.1 ≤ ps.length ∧ q.2.2.2.1.length = q.1 ∧ KInv q.2.1 q.2.2.1.f (plH 0 5 0 q.2.2.2.1 ++ []) ∧ q.2.1.P = 2000 ∧ LineP q.2.1 q.2.2.2.2 (70 * (q.1 : Int)))
    (fun q => [(0, .slice a ps.length c), (1, .int .u8 n), (6, .pointer (some ⟨s, 0, none⟩)), (7, .pointer (some ⟨p, 0, none⟩)), (8, .int .i64 (q.1 : Int))])
    (fun q => [Pl p s 0 5 q.2.2.2.1, Ck s sb q.2.1, Spc sb 2000 q.2.2.1, base W]) (fun q => ps.length - q.1) (0, ⟨2000, [(0, 2000)], fun _ => [], 0⟩, m0, [], 0) ⟨Nat.zero_le _, rfl, hk0, rfl, line0⟩ ?_ (by ((try simp only [List.cons_append, List.nil_append]); repeat (first | exact ent_refl | refine ent_take (by repeat (first | exact Find.here | apply Find.there)) ?_ | refine ent_drop ?_))) ?_
  · (repeat (first | exact Env.sub_nil _ | refine Env.sub_cons rfl ?_))
  clear hk0
  rintro ⟨i, C, m, rs, at_⟩ ⟨hi, hrl, hK, hP, hL⟩
  dsimp only at hi hrl hK hP hL ⊢
  repeat (first | refine Zq ?_ | refine Zs ?_ | refine ZT ?_ | refine ZF ?_ | refine Zc ?_ | refine XO_gU (hk := ?_))
  refine X_cond rfl (fun hc => ?_) (fun hc => ?_) <;> simp only [decide_eq_true_eq, decide_eq_false_iff_not] at hc
  · have hil : i < ps.length := by omega
    have hg : ps[i]? = some ps[i] := List.getElem?_eq_getElem hil
    have hx := wf_u8 (h1 ps[i] (List.getElem_mem hil))
    generalize ps[i] = x at hg hx
    refine X_view (by (repeat (first | exact Find.here | apply Find.there))) V1 (by omega) ?_
    rintro b1 o1 rfl
    obtain ⟨w1, w2, hb0, hb1⟩ := rnd70 hx.1
    obtain ⟨C', m', s1, hK', hP', hL'⟩ := push_line p s sb (w := 70) hb0 ⟨w1, w2⟩ (by decide) hK hP hL (by omega) (by omega)
    generalize rnd (x % 70 + 1) = w at w1 w2 s1 hK' hL'
    repeat (first | refine Zq ?_ | refine Zs ?_ | refine ZT ?_ | refine ZF ?_ | refine Zc ?_ | refine XO_gU (hk := ?_))
    refine XO_call s1 (hk := ?_)
    rintro _ _ ⟨rfl, rfl⟩
    repeat (first | refine Zq ?_ | refine Zs ?_ | refine ZT ?_ | refine ZF ?_ | refine Zc ?_ | refine XO_gU (hk := ?_))
    refine X_cond rfl (fun h => by cases h) (fun _ => ?_)
    repeat (first | refine Zq ?_ | refine Zs ?_ | refine ZT ?_ | refine ZF ?_ | refine Zc ?_ | refine XO_gU (hk := ?_))
    exact X_round (i + 1, C', m', rs ++ [(at_, w)], at_ + w) ⟨by show i + 1 ≤ ps.length; omega, by simp [hrl], hK', hP', by show LineP C' (at_ + w) (70 * ((i + 1 : Nat) : Int)); rw [show (70 : Int) * ((i + 1 : Nat) : Int) = 70 * (i : Int) + 70 from by omega]; exact hL'⟩ (by show ps.length - (i + 1) < ps.length - i; omega) (by (repeat (first | exact Env.sub_nil _ | refine Env.sub_cons rfl ?_))) (by ((try simp only [List.cons_append, List.nil_append]); repeat (first | exact ent_refl | refine ent_take (by repeat (first | exact Find.here | apply Find.there)) ?_ | refine ent_drop ?_)))
  clear hL
  have hrl2 : rs.length ≤ 20 := by omega
  repeat (first | refine Zq ?_ | refine Zs ?_ | refine ZT ?_ | refine ZF ?_ | refine Zc ?_ | refine XO_gU (hk := ?_))
  refine XO_call (pwalk_spec p s sb hK hP (by omega)) (hk := ?_)
  rintro _ _ ⟨wa, wc, rfl, rfl⟩
  have hK2 : KInv C (walkM 2000 m rs).f (plH 0 5 0 rs ++ []) := by rw [walkM_f]; exact hK
  generalize walkM 2000 m rs = m2 at hK2 ⊢
  repeat (first | refine Zq ?_ | refine Zs ?_ | refine ZT ?_ | refine ZF ?_ | refine Zc ?_ | refine XO_gU (hk := ?_))
  refine XO_call (pcut_spec p s sb hK2 hP (by omega) hn.1) (hk := ?_)
  rintro _ _ ⟨rfl, rfl⟩
  obtain ⟨hK3, hP3⟩ := pcut_inv hK2 hP (by omega) n.toNat
  generalize cutM 2000 m2 (rs.drop n.toNat) = m3 at hK3 ⊢
  generalize cutC C (rs.drop n.toNat) = C3 at hK3 hP3 ⊢
  have htl : (rs.take n.toNat).length ≤ 1048576 := by simp; omega
  have hrv : rs.reverse.length = rs.length := List.length_reverse
  repeat (first | refine Zq ?_ | refine Zs ?_ | refine ZT ?_ | refine ZF ?_ | refine Zc ?_ | refine XO_gU (hk := ?_))
  refine X_cond rfl (fun h => by cases h) (fun _ => ?_)
  repeat (first | refine Zq ?_ | refine Zs ?_ | refine ZT ?_ | refine ZF ?_ | refine Zc ?_ | refine XO_gU (hk := ?_))
  refine XO_call (pwalk_spec p s sb hK3 hP3 htl) (hk := ?_)
  rintro _ _ ⟨wb, wd, rfl, rfl⟩
  have hK4 : KInv C3 (walkM 2000 m3 (rs.take n.toNat)).f (plH 0 5 0 (rs.take n.toNat) ++ []) := by rw [walkM_f]; exact hK3
  generalize walkM 2000 m3 (rs.take n.toNat) = m4 at hK4 ⊢
  repeat (first | refine Zq ?_ | refine Zs ?_ | refine ZT ?_ | refine ZF ?_ | refine Zc ?_ | refine XO_gU (hk := ?_))
  have hdrop : (rs.take n.toNat).reverse = rs.reverse.drop ((rs.reverse.length : Int) - min n (rs.reverse.length : Int)).toNat := by
    rw [List.reverse_take]
    by_cases h : n.toNat ≤ rs.length
    · congr 1; omega
    · rw [show rs.length - n.toNat = 0 from by omega, show ((rs.reverse.length : Int) - min n (rs.reverse.length : Int)).toNat = 0 from by omega]
  have hlen2 : rs.reverse.length - ((rs.reverse.length : Int) - min n (rs.reverse.length : Int)).toNat = (rs.reverse.drop ((rs.reverse.length : Int) - min n (rs.reverse.length : Int)).toNat).length := by rw [List.length_drop]
  refine XO_fact (A := Sl eRun wa wc rs.reverse) (by (repeat (first | exact Find.here | apply Find.there))) Sl.cap (fun hcap => ?_)
  rw [hlen2, ← hdrop]
  refine XO_call (same05_spec (Sl eRun wb wd (rs.take n.toNat).reverse) (Sl eRun wa wc rs.reverse) wb _ wd _ (rs.take n.toNat).reverse (rs.take n.toNat).reverse Sl.view (by have hv := View.drop (E' := eRun) (s := 2) ((rs.reverse.length : Int) - min n (rs.reverse.length : Int)).toNat rfl hcap (Sl.view (e := eRun) (a := wa) (c := wc) (xs := rs.reverse)); rw [← hdrop] at hv; exact hv) (by rw [List.length_reverse]; omega)) (hk := ?_)
  rintro _ _ ⟨rfl, rfl⟩
  rw [decide_eq_true rfl]
  repeat (first | refine Zq ?_ | refine Zs ?_ | refine ZT ?_ | refine ZF ?_ | refine Zc ?_ | refine XO_gU (hk := ?_))
  refine X_cond rfl (fun h => by cases h) (fun _ => ?_)
  repeat (first | refine Zq ?_ | refine Zs ?_ | refine ZT ?_ | refine ZF ?_ | refine Zc ?_ | refine XO_gU (hk := ?_))
  refine XO_call (pcut_neg p (n := -1) (by decide)) (hk := ?_)
  rintro _ _ ⟨rfl, rfl⟩
  repeat (first | refine Zq ?_ | refine Zs ?_ | refine ZT ?_ | refine ZF ?_ | refine Zc ?_ | refine XO_gU (hk := ?_))
  refine XO_call (pcut_spec p s sb hK4 hP3 htl (n := 0) (by decide)) (hk := ?_)
  rintro _ _ ⟨rfl, rfl⟩
  obtain ⟨hK5, hP5⟩ := pcut_inv hK4 hP3 htl 0
  rw [show (0 : Int).toNat = 0 from rfl]
  generalize cutM 2000 m4 ((rs.take n.toNat).drop 0) = m5 at hK5 ⊢
  generalize cutC C3 ((rs.take n.toNat).drop 0) = C5 at hK5 hP5 ⊢
  rw [List.take_zero] at hK5 ⊢
  repeat (first | refine Zq ?_ | refine Zs ?_ | refine ZT ?_ | refine ZF ?_ | refine Zc ?_ | refine XO_gU (hk := ?_))
  refine XO_call (plen_spec p s 0 5 []) (hk := ?_)
  rintro _ _ ⟨rfl, rfl⟩
  repeat (first | refine Zq ?_ | refine Zs ?_ | refine ZT ?_ | refine ZF ?_ | refine Zc ?_ | refine XO_gU (hk := ?_))
  refine XO_call (plpages_spec p s 0 5 [] (by decide) (by intro r hr; cases hr)) (hk := ?_)
  rintro _ _ ⟨rfl, rfl⟩
  repeat (first | refine Zq ?_ | refine Zs ?_ | refine ZT ?_ | refine ZF ?_ | refine Zc ?_ | refine XO_gU (hk := ?_))
  refine X_cond rfl (fun h => by cases h) (fun _ => ?_)
  repeat (first | refine Zq ?_ | refine Zs ?_ | refine ZT ?_ | refine ZF ?_ | refine Zc ?_ | refine XO_gU (hk := ?_))
  refine XO_call (ctrim_spec s sb C5 hK5.ci.ok) (hk := ?_)
  rintro _ _ ⟨rfl, rfl⟩
  have hfr : (trimC C5).fr = [(0, 2000)] := by rw [kdone hK5, hP5]
  generalize trimC C5 = C6 at hfr ⊢
  repeat (first | refine Zq ?_ | refine Zs ?_ | refine ZT ?_ | refine ZF ?_ | refine Zc ?_ | refine XO_gU (hk := ?_))
  have s2 := kruns_spec s sb C6 (by rw [hfr]; simp)
  rw [hfr] at s2
  refine XO_call s2 (hk := ?_)
  rintro _ _ ⟨ra, rc, rfl, rfl⟩
  repeat (first | refine Zq ?_ | refine Zs ?_ | refine ZT ?_ | refine ZF ?_ | refine Zc ?_ | refine XO_gU (hk := ?_))
  refine XO_slopen (E' := eRun) (a := ra) (c := rc) (xs := [((0 : Int), (2000 : Int))]) (by (repeat (first | exact Find.here | apply Find.there))) (by simp) ?_
  rintro rb ro rfl
  have hg1 : ([((0 : Int), (2000 : Int))] : List (Int × Int)).length = 1 := rfl
  have hg0 : ([((0 : Int), (2000 : Int))] : List (Int × Int))[0]? = some (0, 2000) := rfl
  repeat (first | refine Zq ?_ | refine Zs ?_ | refine ZT ?_ | refine ZF ?_ | refine Zc ?_ | refine XO_gU (hk := ?_))
  refine XE_ret (.inl rfl) (tells_tmps rfl rfl) ⟨_, ⟨?_, rfl⟩, by ((try simp only [List.cons_append, List.nil_append]); repeat (first | exact ent_refl | refine ent_take (by repeat (first | exact Find.here | apply Find.there)) ?_ | refine ent_drop ?_))⟩
  rfl
end Go.Proofs.Ytmndddegnfbaaaa.Sep
