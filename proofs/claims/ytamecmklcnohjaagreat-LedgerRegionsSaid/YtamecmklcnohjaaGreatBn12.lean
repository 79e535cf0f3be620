import Derived.Test.YtamecmklcnohjaaGreatBn11
import Derived.Test.YtamecmklcnohjaaGreatBn7
/- What the laws share: a separation logic over the model, and what the program's functions do, by it. Part 12 of 14: ChunkE KOps KLine PileP PileA PileB PileC PileD RegP. -/
namespace Go.Proofs.YtamecmklcnohjaaGreat.Sep
open Go.RowKit
set_option linter.unusedSimpArgs false
set_option linter.unusedVariables false
/-! chunks that are got -/
def bad (p k : Int) : Prop := p < 1 ∨ 1048576 < p ∨ k < 0 ∨ 255 < k
instance (p k : Int) : Decidable (bad p k) := by unfold bad; exact inferInstance
def kgetV (s sb : Nat) (C : Co) (m : Mm) (p k o : Int) : Value → List HP → Prop :=
  if bad p k then fun v L => v = .tuple #[.int .i64 0, .int .i64 0, .int .i64 1] ∧ L = [Ck s sb C, Spc sb C.P m]
  else if (getC C (rnd p)).2.2 = 0 then fun v L => v = .tuple #[.int .i64 (getC C (rnd p)).2.1, .int .i64 (rnd p), .int .i64 0] ∧ L = [Ck s sb (getC C (rnd p)).1, Spc sb C.P (stM m ((getC C (rnd p)).2.1 * 4096) (hdB ⟨rnd p, k, o, 0⟩))]
  else fun v L => v = .tuple #[.int .i64 0, .int .i64 0, .int .i64 (getC C (rnd p)).2.2] ∧ L = [Ck s sb (getC C (rnd p)).1, Spc sb C.P m]
set_option maxHeartbeats 8000000
attribute [local irreducible] X XE XO XD XDi XDa PV RV DV pt base Spec Sl Mp Keeps Pg Kc Pgs Spc Ck
theorem kget_spec (s sb : Nat) (C : Co) (m : Mm) (p k o : Int) (h : CoOk C) (hr : ¬ bad p k → (getC C (rnd p)).2.2 = 0 → RunOk C.P ((getC C (rnd p)).2.1, rnd p)) :
    Spec Tryz.prog 117 [.pointer (some ⟨s, 0, none⟩), .int .i64 p, .int .i64 k, .int .u64 o] [Ck s sb C, Spc sb C.P m] (kgetV s sb C m p k o) := by
  refine Spec.intro (IsEnt.out) Tryz.func117 rfl Tryz.ntmps117 (by simp) (fun w0 F => ?_)
  simp only [envOf, List.zipIdx, List.map, List.cons_append, List.nil_append, Nat.zero_add, Nat.reduceAdd]
  by_cases hb : bad p k
  · have hv : kgetV s sb C m p k o = fun v L => v = .tuple #[.int .i64 0, .int .i64 0, .int .i64 1] ∧ L = [Ck s sb C, Spc sb C.P m] := by unfold kgetV; rw [if_pos hb]
    rw [hv]
    unfold bad at hb
    repeat (first | refine Zq ?_ | refine Zs ?_ | refine ZT ?_ | refine ZF ?_ | refine Zc ?_ | refine XO_gU (hk := ?_))
    refine XO_either (hT := fun h1 => ?_) (hF := fun h1 => ?_) <;> simp only [decide_eq_true_eq, decide_eq_false_iff_not] at h1
    · repeat (first | refine Zq ?_ | refine Zs ?_ | refine ZT ?_ | refine ZF ?_ | refine Zc ?_ | refine XO_gU (hk := ?_))
      refine X_cond rfl (fun _ => ?_) (fun h => by cases h)
      repeat (first | refine Zq ?_ | refine Zs ?_ | refine ZT ?_ | refine ZF ?_ | refine Zc ?_ | refine XO_gU (hk := ?_))
      refine XE_ret (.inl rfl) (tells_tmps rfl rfl) ⟨_, ⟨rfl, rfl⟩, by ((try simp only [List.cons_append, List.nil_append]); repeat (first | exact ent_refl | refine ent_take (by repeat (first | exact Find.here | apply Find.there)) ?_ | refine ent_drop ?_))⟩
    · repeat (first | refine Zq ?_ | refine Zs ?_ | refine ZT ?_ | refine ZF ?_ | refine Zc ?_ | refine XO_gU (hk := ?_))
      refine XO_either (hT := fun h2 => ?_) (hF := fun h2 => ?_) <;> simp only [decide_eq_true_eq, decide_eq_false_iff_not] at h2
      · repeat (first | refine Zq ?_ | refine Zs ?_ | refine ZT ?_ | refine ZF ?_ | refine Zc ?_ | refine XO_gU (hk := ?_))
        refine X_cond rfl (fun _ => ?_) (fun h => by cases h)
        repeat (first | refine Zq ?_ | refine Zs ?_ | refine ZT ?_ | refine ZF ?_ | refine Zc ?_ | refine XO_gU (hk := ?_))
        refine XE_ret (.inl rfl) (tells_tmps rfl rfl) ⟨_, ⟨rfl, rfl⟩, by ((try simp only [List.cons_append, List.nil_append]); repeat (first | exact ent_refl | refine ent_take (by repeat (first | exact Find.here | apply Find.there)) ?_ | refine ent_drop ?_))⟩
      · repeat (first | refine Zq ?_ | refine Zs ?_ | refine ZT ?_ | refine ZF ?_ | refine Zc ?_ | refine XO_gU (hk := ?_))
        refine XO_either (hT := fun h3 => ?_) (hF := fun h3 => ?_) <;> simp only [decide_eq_true_eq, decide_eq_false_iff_not] at h3
        · repeat (first | refine Zq ?_ | refine Zs ?_ | refine ZT ?_ | refine ZF ?_ | refine Zc ?_ | refine XO_gU (hk := ?_))
          refine X_cond rfl (fun _ => ?_) (fun h => by cases h)
          repeat (first | refine Zq ?_ | refine Zs ?_ | refine ZT ?_ | refine ZF ?_ | refine Zc ?_ | refine XO_gU (hk := ?_))
          refine XE_ret (.inl rfl) (tells_tmps rfl rfl) ⟨_, ⟨rfl, rfl⟩, by ((try simp only [List.cons_append, List.nil_append]); repeat (first | exact ent_refl | refine ent_take (by repeat (first | exact Find.here | apply Find.there)) ?_ | refine ent_drop ?_))⟩
        · repeat (first | refine Zq ?_ | refine Zs ?_ | refine ZT ?_ | refine ZF ?_ | refine Zc ?_ | refine XO_gU (hk := ?_))
          refine X_cond rfl (fun _ => ?_) (fun h => ?_)
          · repeat (first | refine Zq ?_ | refine Zs ?_ | refine ZT ?_ | refine ZF ?_ | refine Zc ?_ | refine XO_gU (hk := ?_))
            refine XE_ret (.inl rfl) (tells_tmps rfl rfl) ⟨_, ⟨rfl, rfl⟩, by ((try simp only [List.cons_append, List.nil_append]); repeat (first | exact ent_refl | refine ent_take (by repeat (first | exact Find.here | apply Find.there)) ?_ | refine ent_drop ?_))⟩
          · exfalso
            simp only [decide_eq_false_iff_not] at h
            omega
  · have hb' : 1 ≤ p ∧ p ≤ 1048576 ∧ 0 ≤ k ∧ k ≤ 255 := by unfold bad at hb; omega
    obtain ⟨g1, g2, g3, g4⟩ := hb'
    obtain ⟨r1, r2, -, -, -, -⟩ := rnd_ok g1 g2
    repeat (first | refine Zq ?_ | refine Zs ?_ | refine ZT ?_ | refine ZF ?_ | refine Zc ?_ | refine XO_gU (hk := ?_))
    refine XO_known false (hb := decide_eq_false (by omega)) (hk := ?_)
    repeat (first | refine Zq ?_ | refine Zs ?_ | refine ZT ?_ | refine ZF ?_ | refine Zc ?_ | refine XO_gU (hk := ?_))
    refine XO_known false (hb := decide_eq_false (by omega)) (hk := ?_)
    repeat (first | refine Zq ?_ | refine Zs ?_ | refine ZT ?_ | refine ZF ?_ | refine Zc ?_ | refine XO_gU (hk := ?_))
    refine XO_known false (hb := decide_eq_false (by omega)) (hk := ?_)
    repeat (first | refine Zq ?_ | refine Zs ?_ | refine ZT ?_ | refine ZF ?_ | refine Zc ?_ | refine XO_gU (hk := ?_))
    refine X_cond rfl (fun h => absurd h (by simp; omega)) (fun _ => ?_)
    repeat (first | refine Zq ?_ | refine Zs ?_ | refine ZT ?_ | refine ZF ?_ | refine Zc ?_ | refine XO_gU (hk := ?_))
    refine XO_call (kpages_spec s sb C p h g1 g2) (hk := ?_)
    rintro _ _ ⟨rfl, rfl⟩
    repeat (first | refine Zq ?_ | refine Zs ?_ | refine ZT ?_ | refine ZF ?_ | refine Zc ?_ | refine XO_gU (hk := ?_))
    by_cases hz : (getC C (rnd p)).2.2 = 0
    · have hv : kgetV s sb C m p k o = fun v L => v = .tuple #[.int .i64 (getC C (rnd p)).2.1, .int .i64 (rnd p), .int .i64 0] ∧ L = [Ck s sb (getC C (rnd p)).1, Spc sb C.P (stM m ((getC C (rnd p)).2.1 * 4096) (hdB ⟨rnd p, k, o, 0⟩))] := by unfold kgetV; rw [if_neg hb, if_pos hz]
      rw [hv]
      have hrun := hr hb hz
      unfold RunOk at hrun
      simp only at hrun
      rw [hz]
      generalize getC C (rnd p) = G at hrun ⊢
      refine X_cond rfl (fun h => by cases h) (fun _ => ?_)
      refine X_open (A := Ck s sb G.1) (by (repeat (first | exact Find.here | apply Find.there))) Ck.open ?_
      rintro ⟨pb, kb⟩ -
      dsimp only [List.cons_append, List.nil_append]
      repeat (first | refine Zq ?_ | refine Zs ?_ | refine ZT ?_ | refine ZF ?_ | refine Zc ?_ | refine XO_gU (hk := ?_))
      refine XO_pv (pv_buildG [.int .i64 (rnd p), .int .i64 k, .int .u64 o, .int .u64 0]) (hk := ?_)
      repeat (first | refine Zq ?_ | refine Zs ?_ | refine ZT ?_ | refine ZF ?_ | refine Zc ?_ | refine XO_gU (hk := ?_))
      refine XO_call (hwrite_spec sb C.P m G.2.1 ⟨rnd p, k, o, 0⟩ h.p2 ⟨by show 1 ≤ rnd p; omega, r2, g3, by show k < 256; omega⟩ ⟨by omega, by omega⟩) (hk := ?_)
      rintro _ _ ⟨rfl, rfl⟩
      repeat (first | refine Zq ?_ | refine Zs ?_ | refine ZT ?_ | refine ZF ?_ | refine Zc ?_ | refine XO_gU (hk := ?_))
      refine XE_fold (by repeat (first | exact FindAll.nil | exact Find.here | apply Find.there | apply FindAll.cons)) (Ck.fold (C := G.1)) ?_
      refine XE_ret (.inl rfl) (tells_tmps rfl rfl) ⟨_, ⟨rfl, rfl⟩, by ((try simp only [List.cons_append, List.nil_append]); repeat (first | exact ent_refl | refine ent_take (by repeat (first | exact Find.here | apply Find.there)) ?_ | refine ent_drop ?_))⟩
    · have hv : kgetV s sb C m p k o = fun v L => v = .tuple #[.int .i64 0, .int .i64 0, .int .i64 (getC C (rnd p)).2.2] ∧ L = [Ck s sb (getC C (rnd p)).1, Spc sb C.P m] := by unfold kgetV; rw [if_neg hb, if_neg hz]
      rw [hv]
      refine X_cond rfl (fun _ => ?_) (fun h => ?_)
      · repeat (first | refine Zq ?_ | refine Zs ?_ | refine ZT ?_ | refine ZF ?_ | refine Zc ?_ | refine XO_gU (hk := ?_))
        refine XE_ret (.inl rfl) (tells_tmps rfl rfl) ⟨_, ⟨rfl, rfl⟩, by ((try simp only [List.cons_append, List.nil_append]); repeat (first | exact ent_refl | refine ent_take (by repeat (first | exact Find.here | apply Find.there)) ?_ | refine ent_drop ?_))⟩
      · exact absurd (by simpa using h) hz
end Go.Proofs.YtamecmklcnohjaaGreat.Sep
namespace Go.Proofs.YtamecmklcnohjaaGreat.Sep
open Go.RowKit
set_option linter.unusedSimpArgs false
set_option linter.unusedVariables false
/-! chunks that are got and put, where all that was got is known -/
theorem readI_hdr {P : Int} {m : Int → Int} {page : Int} {h : Hd} (hin : 0 ≤ page ∧ page < P) (hr : rdM m (page * 4096) 32 = hdB h) (hg : HdGood h) : readI P m page = (h, 0) := by
  obtain ⟨g1, g2, g3, g4, g5⟩ := hg
  unfold readI
  rw [if_pos hin, hr, hd_back g1 g2 g3 g4 g5]
theorem get_hr {C : Co} {m : Int → Int} {got : List (Int × Hd)} (h : KInv C m got) (p k o : Int) (ho : 0 ≤ o ∧ o < 18446744073709551616) : ¬ bad p k → (getC C (rnd p)).2.2 = 0 → RunOk C.P ((getC C (rnd p)).2.1, rnd p) := fun hb hz => by
  have hb' : 1 ≤ p ∧ p ≤ 1048576 ∧ 0 ≤ k ∧ k ≤ 255 := by unfold bad at hb; omega
  obtain ⟨g1, g2, g3, g4⟩ := hb'
  obtain ⟨r1, r2, r3, -⟩ := rnd_ok g1 g2
  exact (kget (hd := ⟨rnd p, k, o, 0⟩) h ⟨⟨by show 1 ≤ rnd p; omega, r2, g3, by show k < 256; omega⟩, ho.1, ho.2, Int.le_refl 0, (by decide : (0 : Int) < 18446744073709551616)⟩ r3 hz).2.2
/-- A chunk is got: what is told then. -/
theorem get_inv2 {C : Co} {m : Int → Int} {got : List (Int × Hd)} (h : KInv C m got) {p k o : Int} (ho : 0 ≤ o ∧ o < 18446744073709551616) (hb : ¬ bad p k) (hz : (getC C (rnd p)).2.2 = 0) :
    KInv (getC C (rnd p)).1 (wrM m ((getC C (rnd p)).2.1 * 4096) (hdB ⟨rnd p, k, o, 0⟩)) (got ++ [((getC C (rnd p)).2.1, ⟨rnd p, k, o, 0⟩)]) ∧ (getC C (rnd p)).1.P = C.P := by
  have hb' : 1 ≤ p ∧ p ≤ 1048576 ∧ 0 ≤ k ∧ k ≤ 255 := by unfold bad at hb; omega
  obtain ⟨g1, g2, g3, g4⟩ := hb'
  obtain ⟨r1, r2, r3, -⟩ := rnd_ok g1 g2
  have := kget (hd := ⟨rnd p, k, o, 0⟩) h ⟨⟨by show 1 ≤ rnd p; omega, r2, g3, by show k < 256; omega⟩, ho.1, ho.2, Int.le_refl 0, (by decide : (0 : Int) < 18446744073709551616)⟩ r3 hz
  exact ⟨this.1, this.2.1⟩
/-- A chunk of those that were got is put: it goes. -/
theorem put_ok0 {C : Co} {m : Int → Int} {l1 l2 : List (Int × Hd)} {p : Int} {hd : Hd} (h : KInv C m (l1 ++ (p, hd) :: l2)) : readI C.P m p = (hd, 0) ∧ putCE C (p, hd.pages) = 0 := by
  have hr : RunOk C.P (p, hd.pages) := h.run (p, hd) (by simp)
  have hh := h.hdr (p, hd) (by simp)
  have hr' := hr
  unfold RunOk at hr'
  simp only at hr'
  refine ⟨readI_hdr ⟨hr'.1, by omega⟩ hh.1 hh.2, ?_⟩
  unfold putCE
  split
  · rfl
  · have hd' : ∀ x, cnt x C.fr + ind x (p, hd.pages) ≤ 1 := fun x => by
      have h1 := h.part x
      have h2 := cnt_mem (x := x) (r := (p, hd.pages)) (l := gr (l1 ++ (p, hd) :: l2)) (List.mem_map.2 ⟨(p, hd), by simp, rfl⟩)
      have h3 := part_le1 (x := x) (P := C.P)
      have h4 := cnt_nn x (kall C.ks 7)
      unfold cC at h1
      omega
    have hs := giveI_some h.ci.ok.right hr'.1 hr'.2.1 hr'.2.2 hd'
    unfold giveE
    rw [hs]; rfl
theorem bestU_none {xs : List (Int × Int)} {n : Int} (hn : 0 < n) : ∀ {i : Nat}, bestU xs n i = none → ∀ j, j < i → (xs.getD j (0, 0)).2 < n
  | 0, h, j, hj => by omega
  | i + 1, h, j, hj => by
    simp only [bestU] at h
    split at h
    · cases h
    · rename_i hc
      rw [h] at hc
      rcases Nat.lt_succ_iff_lt_or_eq.1 hj with hj | rfl
      · exact bestU_none hn h j hj
      · by_cases hv : n ≤ (xs.getD j (0, 0)).2
        · exact absurd ⟨hn, hv, rfl⟩ hc
        · omega
theorem take_none {C : Co} {n : Int} (hn : 1 ≤ n) (h : (takeC C n).2.2 = 4) : ∀ r ∈ C.fr, r.2 < n := by
  unfold takeC at h
  rw [if_neg (by omega)] at h
  cases ht : takeI C.fr n with
  | some q => rw [ht] at h; cases h
  | none =>
    unfold takeI at ht
    have hb : bestU C.fr n C.fr.length = none := by
      cases hb : bestU C.fr n C.fr.length with
      | none => rfl
      | some j => rw [hb] at ht; cases ht
    intro r hr
    obtain ⟨j, hj, rfl⟩ := List.getElem_of_mem hr
    have := bestU_none (by omega) hb j hj
    simpa [List.getD, hj] using this
theorem take_code {C : Co} {n : Int} (hn : 1 ≤ n) : (takeC C n).2.2 = 0 ∨ (takeC C n).2.2 = 4 := by
  unfold takeC
  rw [if_neg (by omega)]
  cases takeI C.fr n with
  | none => exact .inr rfl
  | some q => exact .inl rfl
theorem kall0 {C : Co} (h : CoOk C) (h0 : ¬ 0 < trimN C) : kall C.ks 7 = [] := by
  cases hk : kall C.ks 7 with
  | nil => rfl
  | cons r l =>
    exfalso
    unfold trimN at h0
    rw [hk, tot_cons] at h0
    have h1 := kall_bd h (r := r) (by rw [hk]; simp)
    have h2 := tot_le (l := l) (fun q hq => (kall_bd h (r := q) (by rw [hk]; simp [hq])).2.2)
    omega
/-- There is no room just if, trimmed, no run is long enough. -/
theorem get_full {C : Co} {n : Int} (h : CoOk C) (hn : 1 ≤ n) (hz : (getC C n).2.2 ≠ 0) : (getC C n).2.2 = 4 ∧ (getC C n).1 = trimC C ∧ ∀ r ∈ (trimC C).fr, r.2 < n := by
  unfold getC at hz ⊢
  split at hz
  · exact absurd rfl hz
  · rename_i hc
    rw [if_neg hc]
    split at hz
    · rename_i he
      rw [if_pos he]
      split at hz
      · rename_i h3
        rw [if_pos h3]
        rcases take_code (C := trimC C) hn with h4 | h4
        · exact absurd h4 hz
        · exact ⟨h4, (takeC_full h4).1, take_none hn h4⟩
      · rename_i h3
        rw [if_neg h3]
        refine ⟨he, rfl, ?_⟩
        have hf : (trimC C).fr = C.fr := by unfold trimC; rw [kall0 h h3]; rfl
        rw [hf]
        exact take_none hn he
    · rename_i he
      rcases take_code (C := C) hn with h4 | h4
      · exact absurd h4 hz
      · exact absurd h4 he
theorem trim_trim (C : Co) : (trimC (trimC C)).fr = (trimC C).fr := rfl
theorem kget_ok (s sb : Nat) {C : Co} {m : Mm} {got : List (Int × Hd)} {P p k o : Int} (hK : KInv C m.f got) (hP : C.P = P) (ho : 0 ≤ o ∧ o < 18446744073709551616) (hb : ¬ bad p k) (hz : (getC C (rnd p)).2.2 = 0) :
    Spec Tryz.prog 117 [.pointer (some ⟨s, 0, none⟩), .int .i64 p, .int .i64 k, .int .u64 o] [Ck s sb C, Spc sb P m]
      (fun v L => v = .tuple #[.int .i64 (getC C (rnd p)).2.1, .int .i64 (rnd p), .int .i64 0] ∧ L = [Ck s sb (getC C (rnd p)).1, Spc sb P (stM m ((getC C (rnd p)).2.1 * 4096) (hdB ⟨rnd p, k, o, 0⟩))]) := by
  subst hP
  have h := kget_spec s sb C m p k o hK.ci.ok (get_hr hK p k o ho)
  unfold kgetV at h
  rwa [if_neg hb, if_pos hz] at h
theorem kget_no (s sb : Nat) {C : Co} {m : Mm} {P p k o : Int} (hC : CoOk C) (hP : C.P = P) (hb : ¬ bad p k) (hz : (getC C (rnd p)).2.2 ≠ 0) :
    Spec Tryz.prog 117 [.pointer (some ⟨s, 0, none⟩), .int .i64 p, .int .i64 k, .int .u64 o] [Ck s sb C, Spc sb P m]
      (fun v L => v = .tuple #[.int .i64 0, .int .i64 0, .int .i64 4] ∧ L = [Ck s sb (trimC C), Spc sb P m]) := by
  subst hP
  have h := kget_spec s sb C m p k o hC (fun _ h => absurd h hz)
  unfold kgetV at h
  have hr : 1 ≤ rnd p := by
    have : 1 ≤ p ∧ p ≤ 1048576 := by unfold bad at hb; omega
    have := (rnd_ok this.1 this.2).1
    omega
  obtain ⟨e1, e2, -⟩ := get_full hC hr hz
  rwa [if_neg hb, if_neg hz, e1, e2] at h
theorem kget_bad (s sb : Nat) {C : Co} {m : Mm} {P p k o : Int} (hC : CoOk C) (hP : C.P = P) (hb : bad p k) :
    Spec Tryz.prog 117 [.pointer (some ⟨s, 0, none⟩), .int .i64 p, .int .i64 k, .int .u64 o] [Ck s sb C, Spc sb P m]
      (fun v L => v = .tuple #[.int .i64 0, .int .i64 0, .int .i64 1] ∧ L = [Ck s sb C, Spc sb P m]) := by
  subst hP
  have h := kget_spec s sb C m p k o hC (fun h _ => absurd hb h)
  unfold kgetV at h
  rwa [if_pos hb] at h
theorem kput_ok (s sb : Nat) {C : Co} {m : Mm} {l1 l2 : List (Int × Hd)} {P p : Int} {hd : Hd} (hK : KInv C m.f (l1 ++ (p, hd) :: l2)) (hP : C.P = P) :
    Spec Tryz.prog 167 [.pointer (some ⟨s, 0, none⟩), .int .i64 p] [Ck s sb C, Spc sb P m]
      (fun v L => v = .int .i64 0 ∧ L = [Ck s sb (putC C (p, hd.pages)), Spc sb P (kputM P m p)]) := by
  subst hP
  have h := kput_spec s sb C m p hK.ci.ok
  obtain ⟨e1, e2⟩ := put_ok0 hK
  unfold kputV at h
  rw [e1, if_pos rfl] at h
  dsimp only at h
  rwa [e2] at h
theorem hread_ok (sb : Nat) {C : Co} {m : Mm} {l1 l2 : List (Int × Hd)} {P p : Int} {hd : Hd} (hK : KInv C m.f (l1 ++ (p, hd) :: l2)) (hP : C.P = P) :
    Spec Tryz.prog 160 [.pointer (some ⟨sb, 0, none⟩), .int .i64 p] [Spc sb P m]
      (fun v L => v = .tuple #[hdV hd, .int .i64 0] ∧ L = [Spc sb P (hrM P m p)]) := by
  subst hP
  have h := hread_spec sb C.P m p (by have := hK.ci.ok.p1; omega) hK.ci.ok.p2
  have hr : RunOk C.P (p, hd.pages) := hK.run (p, hd) (by simp)
  have hh := hK.hdr (p, hd) (by simp)
  unfold RunOk at hr
  simp only at hr
  rwa [readI_hdr ⟨hr.1, by omega⟩ hh.1 hh.2] at h
/-- What is got: as told. -/
theorem kget_inv {C : Co} {m : Mm} {got : List (Int × Hd)} {P p k o : Int} (hK : KInv C m.f got) (hP : C.P = P) (ho : 0 ≤ o ∧ o < 18446744073709551616) (hb : ¬ bad p k) (hz : (getC C (rnd p)).2.2 = 0) :
    KInv (getC C (rnd p)).1 (stM m ((getC C (rnd p)).2.1 * 4096) (hdB ⟨rnd p, k, o, 0⟩)).f (got ++ [((getC C (rnd p)).2.1, ⟨rnd p, k, o, 0⟩)]) ∧ (getC C (rnd p)).1.P = P := by
  subst hP; exact get_inv2 hK ho hb hz
theorem kput_inv {C : Co} {m : Mm} {l1 l2 : List (Int × Hd)} {P p : Int} {hd : Hd} (hK : KInv C m.f (l1 ++ (p, hd) :: l2)) (hP : C.P = P) :
    KInv (putC C (p, hd.pages)) (kputM P m p).f (l1 ++ l2) ∧ (putC C (p, hd.pages)).P = P := by
  subst hP; exact kput hK
theorem kget_full {C : Co} {m : Mm} {got : List (Int × Hd)} {P p k : Int} (hK : KInv C m.f got) (hP : C.P = P) (hb : ¬ bad p k) (hz : (getC C (rnd p)).2.2 ≠ 0) : KInv (trimC C) m.f got ∧ (trimC C).P = P ∧ ∀ r ∈ (trimC C).fr, r.2 < rnd p := by
  have hbb : 1 ≤ p ∧ p ≤ 1048576 := by unfold bad at hb; omega
  obtain ⟨r1, r2, r3, -⟩ := rnd_ok hbb.1 hbb.2
  obtain ⟨f1, f2, f3⟩ := get_full hK.ci.ok (by omega) hz
  obtain ⟨h1, h2⟩ := knot hK (by omega) r3 hz
  rw [f2] at h1 h2
  exact ⟨h1, h2.trans hP, f3⟩
end Go.Proofs.YtamecmklcnohjaaGreat.Sep
namespace Go.Proofs.YtamecmklcnohjaaGreat.Sep
open Go.RowKit
set_option linter.unusedSimpArgs false
set_option linter.unusedVariables false
/-! chunks that are got of one run that is free, one behind the other -/
theorem take_line {C : Co} {a b w : Int} (hf : C.fr = [(a, b)]) (h1 : 1 ≤ w) (h2 : w < b) : (takeC C w).2 = (a, 0) ∧ (takeC C w).1.fr = [(a + w, b - w)] ∧ (takeC C w).1.ks = C.ks ∧ (takeC C w).1.P = C.P := by
  have hb : bestU [(a, b)] w 1 = some 0 := by
    simp [bestU, less]; omega
  have ht : takeI C.fr w = some (a, [(a + w, b - w)]) := by
    unfold takeI
    rw [hf]
    show (bestU [(a, b)] w 1).map _ = _
    rw [hb]
    simp only [Option.map_some, takeAt, List.getD_cons_zero, List.set_cons_zero]
    rw [if_neg (by omega)]
  unfold takeC
  rw [if_neg (by omega), ht]
  exact ⟨rfl, rfl, rfl, rfl⟩
theorem take_whole {C : Co} {a b : Int} (hf : C.fr = [(a, b)]) (h1 : 1 ≤ b) : (takeC C b).2 = (a, 0) ∧ (takeC C b).1.fr = [] ∧ (takeC C b).1.ks = C.ks ∧ (takeC C b).1.P = C.P := by
  have hb : bestU [(a, b)] b 1 = some 0 := by
    simp [bestU, less]; omega
  have ht : takeI C.fr b = some (a, []) := by
    unfold takeI
    rw [hf]
    show (bestU [(a, b)] b 1).map _ = _
    rw [hb]
    simp [takeAt]
  unfold takeC
  rw [if_neg (by omega), ht]
  exact ⟨rfl, rfl, rfl, rfl⟩
theorem get_line {C : Co} {a b w : Int} (hf : C.fr = [(a, b)]) (hk : C.ks = fun _ => []) (h1 : 1 ≤ w) (h2 : w < b) : (getC C w).2 = (a, 0) ∧ (getC C w).1.fr = [(a + w, b - w)] ∧ (getC C w).1.ks = (fun _ => []) ∧ (getC C w).1.P = C.P := by
  obtain ⟨e1, e2, e3, e4⟩ := take_line hf h1 h2
  unfold getC
  rw [if_neg (by rw [hk]; simp), if_neg (by rw [e1]; simp)]
  exact ⟨e1, e2, e3.trans hk, e4⟩
/-- A chunk of one of the classes is put: it is kept. -/
theorem put_keep {C : Co} {p : Int} {c : Nat} (hc : c < 7) (hp : 0 ≤ p) (hl : (C.ks c).length < 4) (hw : cclass (cpages c) = c) : (putC C (p, cpages c)).ks = upd C.ks c (C.ks c ++ [p]) ∧ (putC C (p, cpages c)).fr = C.fr ∧ (putC C (p, cpages c)).P = C.P := by
  unfold putC
  simp only [hw, Int.toNat_natCast]
  rw [if_pos ⟨trivial, by omega, by omega, hp, hl⟩]
  exact ⟨rfl, rfl, rfl⟩
theorem class_pages : ∀ c : Fin 7, cclass (cpages c.val) = c.val := by decide
theorem kdone0 {C : Co} {m : Int → Int} (h : KInv C m []) (hk : kall C.ks 7 = []) : C.fr = [(0, C.P)] := by
  have h1 := kdone h
  unfold trimC at h1
  rw [hk] at h1
  exact h1
theorem class_big {n : Int} (h : 64 < n) : cclass n = -1 := by
  unfold cclass
  repeat' split
  all_goals omega
theorem put_big {C : Co} {n p : Int} (h : 64 < n) : putC C (p, n) = giveC C (p, n) := by
  unfold putC
  rw [if_neg (fun hc => by rw [show ((p, n) : Int × Int).2 = n from rfl, class_big h] at hc; omega)]
/-- All pages are got at once when none is got. -/
theorem get_all {C : Co} {m : Int → Int} (h : KInv C m []) (hP : 64 < C.P) : (getC C C.P).2 = (0, 0) ∧ (getC C C.P).1.fr = [] ∧ kall (getC C C.P).1.ks 7 = [] := by
  have hd := kdone h
  have hcl : cclass C.P = -1 := by unfold cclass; repeat' split <;> omega
  have ht : ∀ r ∈ C.fr, r.2 ≤ C.P := fun r hr => by have := rf_mem h.ci.ok.right r hr; omega
  unfold getC
  rw [if_neg (by rw [hcl]; simp)]
  by_cases hk : 0 < trimN C
  · have hlt : ∀ r ∈ C.fr, r.2 < C.P := fun r hr => by
      have h1 := h.tot
      have h2 : 0 ≤ totI (C.fr) - r.2 := by
        obtain ⟨l1, l2, e⟩ := List.append_of_mem hr
        have h3 : ∀ l : List (Int × Int), (∀ q ∈ l, 1 ≤ q.2) → 0 ≤ totI l := by
          intro l
          induction l with
          | nil => intro _; exact Int.le_refl _
          | cons q l ih => intro hq; rw [tot_cons]; have := hq q (by simp); have := ih (fun q' h' => hq q' (by simp [h'])); omega
        have h4 := h3 l1 (fun q hq => (rf_mem h.ci.ok.right q (by rw [e]; simp [hq])).2.1)
        have h5 := h3 l2 (fun q hq => (rf_mem h.ci.ok.right q (by rw [e]; simp [hq])).2.1)
        rw [e, tot_append, tot_cons]
        omega
      unfold tC at h1
      unfold trimN at hk
      simp only [gr, List.map_nil, totI, List.sum_nil] at h1
      unfold totI at hk h2
      omega
    have hn : (takeC C C.P).2.2 = 4 := by
      rcases take_code (C := C) (n := C.P) (by omega) with h0 | h4
      · exfalso
        unfold takeC at h0
        rw [if_neg (by omega)] at h0
        cases ht' : takeI C.fr C.P with
        | none => rw [ht'] at h0; cases h0
        | some q =>
          unfold takeI at ht'
          cases hb : bestU C.fr C.P C.fr.length with
          | none => rw [hb] at ht'; cases ht'
          | some j =>
            have h1 := bestU_ge hb
            have h2 := bestU_lt hb
            have h3 := hlt _ (List.getElem_mem h2)
            simp [List.getD, h2] at h1
            omega
      · exact h4
    rw [if_pos hn, if_pos hk]
    have hP' : (trimC C).P = C.P := rfl
    obtain ⟨e1, e2, e3, -⟩ := take_whole (C := trimC C) (a := 0) (b := C.P) hd (by omega)
    exact ⟨e1, e2, by rw [e3]; rfl⟩
  · have hka := kall0 h.ci.ok hk
    have hf : C.fr = [(0, C.P)] := by rw [← hd]; unfold trimC; rw [hka]; rfl
    obtain ⟨e1, e2, e3, -⟩ := take_whole (C := C) (a := 0) (b := C.P) hf (by omega)
    rw [if_neg (by rw [e1]; simp)]
    exact ⟨e1, e2, by rw [e3]; exact hka⟩
/-- Where no page is free, and none is kept, none is got. -/
theorem get_none {C : Co} {w : Int} (hf : C.fr = []) (hk : kall C.ks 7 = []) (hw : 1 ≤ w) (hc : 0 ≤ cclass w → cclass w < 7) : (getC C w).2.2 = 4 ∧ (getC C w).1 = trimC C ∧ (trimC C).fr = [] := by
  have hks : ∀ k, k < 7 → C.ks k = [] := fun k hk7 => by
    have key : ∀ n, kall C.ks n = [] → ∀ k, k < n → C.ks k = [] := by
      intro n
      induction n with
      | zero => intro _ k h; omega
      | succ n ih =>
        intro h k hk'
        have h' : kall C.ks n = [] ∧ (C.ks n).map (fun p => (p, cpages n)) = [] := List.append_eq_nil_iff.1 h
        rcases Nat.lt_succ_iff_lt_or_eq.1 hk' with hlt | rfl
        · exact ih h'.1 k hlt
        · exact List.map_eq_nil_iff.1 h'.2
    exact key 7 hk k hk7
  have ht : takeC C w = (C, 0, 4) := by
    unfold takeC
    rw [if_neg (by omega), hf]
    rfl
  have hn : ¬ 0 < trimN C := by unfold trimN; rw [hk]; decide
  refine ⟨?_, ?_, by unfold trimC; rw [hk]; exact hf⟩
  · unfold getC
    rw [if_neg (fun h => by have := hks (cclass w).toNat (by omega); rw [this] at h; simp at h), ht, if_pos rfl, if_neg hn]
  · unfold getC
    rw [if_neg (fun h => by have := hks (cclass w).toNat (by omega); rw [this] at h; simp at h), ht, if_pos rfl, if_neg hn]
/-- Whatever is asked for: what comes of it. -/
theorem kget_law (s sb : Nat) {C : Co} {m : Mm} {got : List (Int × Hd)} {P : Int} (p k : Int) {o : Int} (hK : KInv C m.f got) (hP : C.P = P) (ho : 0 ≤ o ∧ o < 18446744073709551616) :
    ∃ (C' : Co) (m' : Mm) (pg n e : Int), Spec Tryz.prog 117 [.pointer (some ⟨s, 0, none⟩), .int .i64 p, .int .i64 k, .int .u64 o] [Ck s sb C, Spc sb P m]
      (fun v L => v = .tuple #[.int .i64 pg, .int .i64 n, .int .i64 e] ∧ L = [Ck s sb C', Spc sb P m']) ∧ C'.P = P ∧
      ((e = 0 ∧ KInv C' m'.f (got ++ [(pg, ⟨n, k, o, 0⟩)]) ∧ p ≤ n) ∨ (e ≠ 0 ∧ KInv C' m'.f got)) := by
  by_cases hb : bad p k
  · exact ⟨C, m, 0, 0, 1, kget_bad s sb hK.ci.ok hP hb, hP, .inr ⟨by decide, hK⟩⟩
  by_cases hz : (getC C (rnd p)).2.2 = 0
  · obtain ⟨h1, h2⟩ := kget_inv hK hP ho hb hz
    have hbb : 1 ≤ p ∧ p ≤ 1048576 := by unfold bad at hb; omega
    exact ⟨_, _, _, _, 0, kget_ok s sb hK hP ho hb hz, h2, .inl ⟨rfl, h1, (rnd_ok hbb.1 hbb.2).1⟩⟩
  · obtain ⟨h1, h2, -⟩ := kget_full hK hP hb hz
    exact ⟨_, m, 0, 0, 4, kget_no s sb hK.ci.ok hP hb hz, h2, .inr ⟨by decide, h1⟩⟩
end Go.Proofs.YtamecmklcnohjaaGreat.Sep
namespace Go.Proofs.YtamecmklcnohjaaGreat.Sep
open Go.RowKit
set_option linter.unusedSimpArgs false
set_option linter.unusedVariables false
/-! piles: what their chunks' headers tell -/
/-- A pile's chunks with their headers: each tells of the one below. -/
def plH (k o : Int) : Int → List (Int × Int) → List (Int × Hd)
  | _, [] => []
  | nx, (p, n) :: l => (p, ⟨n, k, o, nx⟩) :: plH k o (p + 1) l
def lastL : Int → List (Int × Int) → Int
  | nx, [] => nx
  | _, (p, _) :: l => lastL (p + 1) l
theorem plH_snoc (k o : Int) (p n : Int) : ∀ (l : List (Int × Int)) (nx : Int), plH k o nx (l ++ [(p, n)]) = plH k o nx l ++ [(p, ⟨n, k, o, lastL nx l⟩)]
  | [], nx => rfl
  | (q, m) :: l, nx => by
    show (q, _) :: plH k o (q + 1) (l ++ [(p, n)]) = _
    rw [plH_snoc k o p n l]; rfl
theorem lastL_snoc (p n : Int) : ∀ (l : List (Int × Int)) (nx : Int), lastL nx (l ++ [(p, n)]) = p + 1
  | [], nx => rfl
  | (q, m) :: l, nx => lastL_snoc p n l (q + 1)
theorem plH_gr (k o : Int) : ∀ (l : List (Int × Int)) (nx : Int), gr (plH k o nx l) = l
  | [], nx => rfl
  | (q, m) :: l, nx => by
    show (q, m) :: gr (plH k o (q + 1) l) = _
    rw [plH_gr k o l]
theorem plH_len (k o : Int) (l : List (Int × Int)) (nx : Int) : (plH k o nx l).length = l.length := by
  have := congrArg List.length (plH_gr k o l nx)
  simpa [gr] using this
theorem cnt_perm {x : Int} {l l' : List (Int × Int)} (h : l.Perm l') : cnt x l = cnt x l' := by
  induction h with
  | nil => rfl
  | cons a _ ih => simp only [cnt, ih]
  | swap a b l => simp only [cnt]; omega
  | trans _ _ h1 h2 => exact h1.trans h2
theorem tot_perm {l l' : List (Int × Int)} (h : l.Perm l') : totI l = totI l' := by
  induction h with
  | nil => rfl
  | cons a _ ih => rw [tot_cons, tot_cons, ih]
  | swap a b l => simp only [tot_cons]; omega
  | trans _ _ h1 h2 => exact h1.trans h2
theorem KInv.perm {C : Co} {m : Int → Int} {g g' : List (Int × Hd)} (h : KInv C m g) (hp : g.Perm g') : KInv C m g' := by
  have hg : (gr g).Perm (gr g') := hp.map _
  refine ⟨h.ci, fun q hq => h.run q (hp.symm.subset hq), fun x => ?_, ?_, fun q hq => h.hdr q (hp.symm.subset hq)⟩
  · rw [← cnt_perm hg]; exact h.part x
  · rw [← tot_perm hg]; exact h.tot
/-- What becomes of a header's link. -/
def lkM (P : Int) (m : Mm) (page next : Int) : Mm := stM (hrM P m page) (page * 4096 + 24) (leB 8 next)
theorem leB_len8 (n : Int) : (leB 8 n).length = 8 := leB_len 8 n
theorem hdB_split (h : Hd) : hdB h = (magicB ++ ((leB 4 h.pages ++ leB 4 h.kind) ++ leB 8 h.owner)) ++ leB 8 h.next := by unfold hdB; simp [List.append_assoc]
theorem hdB_front (h : Hd) : (magicB ++ ((leB 4 h.pages ++ leB 4 h.kind) ++ leB 8 h.owner)).length = 24 := by simp [leB_len, magicB]
/-- A header is linked: the others stay. -/
theorem klink {C : Co} {m : Int → Int} {l1 l2 : List (Int × Hd)} {p next : Int} {hd : Hd} (h : KInv C m (l1 ++ (p, hd) :: l2)) (h0 : 0 ≤ next ∧ next < 18446744073709551616) :
    KInv C (wrM m (p * 4096 + 24) (leB 8 next)) (l1 ++ (p, { hd with next := next }) :: l2) := by
  have hg : gr (l1 ++ (p, { hd with next := next }) :: l2) = gr (l1 ++ (p, hd) :: l2) := by simp [gr]
  have hrp : RunOk C.P (p, hd.pages) := h.run (p, hd) (by simp)
  have hdis : ∀ q ∈ l1 ++ l2, q.1 ≠ p := by
    intro q hq hqp
    have h1 := h.part p
    have h2 := part_le1 (x := p) (P := C.P)
    have h3 : cnt p (gr (l1 ++ (p, hd) :: l2)) = cnt p (gr (l1 ++ l2)) + ind p (p, hd.pages) := by
      rw [gr_app, gr_app, cnt_append, cnt_append]
      show _ + (ind p (p, hd.pages) + cnt p (gr l2)) = _
      omega
    have h4 : ind p (p, hd.pages) = 1 := ind_self hrp.2.1
    have h5 := cnt_mem (x := p) (r := (q.1, q.2.pages)) (l := gr (l1 ++ l2)) (List.mem_map.2 ⟨q, hq, rfl⟩)
    have hrq : RunOk C.P (q.1, q.2.pages) := h.run q (by rcases List.mem_append.1 hq with hq | hq <;> simp [hq])
    have h6 : ind q.1 (q.1, q.2.pages) = 1 := ind_self hrq.2.1
    rw [hqp] at h5 h6
    have h7 := cC_nn p C
    omega
  refine ⟨h.ci, fun q hq => ?_, fun x => by rw [hg]; exact h.part x, by rw [hg]; exact h.tot, fun q hq => ?_⟩
  · rcases List.mem_append.1 hq with hq | hq
    · exact h.run q (by simp [hq])
    · rcases List.mem_cons.1 hq with rfl | hq
      · exact hrp
      · exact h.run q (by simp [hq])
  · have hother : ∀ q ∈ l1 ++ l2, rdM (wrM m (p * 4096 + 24) (leB 8 next)) (q.1 * 4096) 32 = hdB q.2 ∧ HdGood q.2 := fun q hq => by
      have h1 := h.hdr q (by rcases List.mem_append.1 hq with hq | hq <;> simp [hq])
      have h2 := hdis q hq
      rw [rd_wr_ne (by rw [leB_len]; omega)]
      exact h1
    rcases List.mem_append.1 hq with hq | hq
    · exact hother q (by simp [hq])
    · rcases List.mem_cons.1 hq with rfl | hq
      · obtain ⟨h1, h2⟩ := h.hdr (p, hd) (by simp)
        simp only at h1 h2
        refine ⟨?_, h2.1, h2.2.1, h2.2.2.1, h0.1, h0.2⟩
        show rdM (wrM m (p * 4096 + 24) (leB 8 next)) (p * 4096) 32 = _
        have e1 : rdM m (p * 4096) 24 = magicB ++ ((leB 4 hd.pages ++ leB 4 hd.kind) ++ leB 8 hd.owner) := by
          have h3 := h1
          rw [show (32 : Nat) = 24 + 8 from rfl, rd_app, hdB_split] at h3
          exact (List.append_inj h3 (by rw [rdM_len, hdB_front])).1
        rw [show (32 : Nat) = 24 + 8 from rfl, rd_app, rd_wr_ne (by rw [leB_len]; omega), e1]
        have e2 := rd_wr m (p * 4096 + 24) (leB 8 next)
        rw [leB_len] at e2
        rw [show p * 4096 + ((24 : Nat) : Int) = p * 4096 + 24 from rfl, e2]
        rw [hdB_split]
      · exact hother q (by simp [hq])
end Go.Proofs.YtamecmklcnohjaaGreat.Sep
namespace Go.Proofs.YtamecmklcnohjaaGreat.Sep
open Go.RowKit
set_option linter.unusedSimpArgs false
set_option linter.unusedVariables false
/-! numbers laid in a space; headers that are linked; piles: their block -/
def Pl (p s : Nat) (k o : Int) (rs : List (Int × Int)) : HP := fun H => ∃ x : Option Addr × Nat, SL [pt p (.cells [.pointer (some ⟨s, 0, none⟩), .int .i64 k, .int .u64 o, .slice x.1 rs.length x.2].toArray 200 (0, 0)), Sl eRun x.1 x.2 rs] H
theorem Pl.open {p s : Nat} {k o : Int} {rs : List (Int × Int)} : ∀ H, Pl p s k o rs H → ∃ x : Option Addr × Nat, True ∧ SL [pt p (.cells [.pointer (some ⟨s, 0, none⟩), .int .i64 k, .int .u64 o, .slice x.1 rs.length x.2].toArray 200 (0, 0)), Sl eRun x.1 x.2 rs] H := fun H ⟨x, h⟩ => ⟨x, trivial, h⟩
theorem Pl.fold {p s c : Nat} {k o : Int} {rs : List (Int × Int)} {a : Option Addr} : ∀ H, SL [pt p (.cells [.pointer (some ⟨s, 0, none⟩), .int .i64 k, .int .u64 o, .slice a rs.length c].toArray 200 (0, 0)), Sl eRun a c rs] H → Pl p s k o rs H := fun H h => ⟨(a, c), h⟩
theorem Pl.foldN {p s c n : Nat} {k o : Int} {rs : List (Int × Int)} {a : Option Addr} (hn : n = rs.length) : ∀ H, SL [pt p (.cells [.pointer (some ⟨s, 0, none⟩), .int .i64 k, .int .u64 o, .slice a n c].toArray 200 (0, 0)), Sl eRun a c rs] H → Pl p s k o rs H := by subst hn; exact Pl.fold
set_option maxHeartbeats 8000000
attribute [local irreducible] X XE XO XD XDi XDa PV RV DV pt base Spec Sl Mp Keeps Pg Kc Pgs Spc Ck XL XLi Pl
theorem wfits0_spec : Spec Tryz.prog 198 [.int .u64 0, .int .i64 8] [] (fun v L => v = .bool true ∧ L = []) := by
  refine Spec.intro (IsEnt.out) Tryz.func198 rfl Tryz.ntmps198 (by simp) (fun w0 F => ?_)
  simp only [envOf, List.zipIdx, List.map, List.cons_append, List.nil_append, Nat.zero_add, Nat.reduceAdd]
  repeat (first | refine Zq ?_ | refine Zs ?_ | refine ZT ?_ | refine ZF ?_ | refine Zc ?_ | refine XO_gU (hk := ?_))
  refine XO_call (wide_spec 8 (by decide)) (hk := ?_)
  rintro _ _ ⟨rfl, rfl⟩
  repeat (first | refine Zq ?_ | refine Zs ?_ | refine ZT ?_ | refine ZF ?_ | refine Zc ?_ | refine XO_gU (hk := ?_))
  refine XO_pv pv_shrN (hk := ?_)
  repeat (first | refine Zq ?_ | refine Zs ?_ | refine ZT ?_ | refine ZF ?_ | refine Zc ?_ | refine XO_gU (hk := ?_))
  refine XO_pv pv_shrN (hk := ?_)
  repeat (first | refine Zq ?_ | refine Zs ?_ | refine ZT ?_ | refine ZF ?_ | refine Zc ?_ | refine XO_gU (hk := ?_))
  refine XE_ret (.inl rfl) (tells_tmps rfl rfl) ⟨_, ⟨?_, rfl⟩, by ((try simp only [List.cons_append, List.nil_append]); repeat (first | exact ent_refl | refine ent_take (by repeat (first | exact Find.here | apply Find.there)) ?_ | refine ent_drop ?_))⟩
  rfl
theorem cright_spec (a : Int) (h0 : 0 ≤ a) (h8 : a % 8 = 0) : Spec Tryz.prog 188 [.int .u64 a, .int .i64 8] [] (fun v L => v = .bool true ∧ L = []) := by
  refine Spec.intro (IsEnt.out) Tryz.func188 rfl Tryz.ntmps188 (by simp) (fun w0 F => ?_)
  simp only [envOf, List.zipIdx, List.map, List.cons_append, List.nil_append, Nat.zero_add, Nat.reduceAdd]
  repeat (first | refine Zq ?_ | refine Zs ?_ | refine ZT ?_ | refine ZF ?_ | refine Zc ?_ | refine XO_gU (hk := ?_))
  refine XO_call wfits0_spec (hk := ?_)
  rintro _ _ ⟨rfl, rfl⟩
  repeat (first | refine Zq ?_ | refine Zs ?_ | refine ZT ?_ | refine ZF ?_ | refine Zc ?_ | refine XO_gU (hk := ?_))
  refine XE_ret (.inl rfl) (tells_tmps rfl rfl) ⟨_, ⟨?_, rfl⟩, by ((try simp only [List.cons_append, List.nil_append]); repeat (first | exact ent_refl | refine ent_take (by repeat (first | exact Find.here | apply Find.there)) ?_ | refine ent_drop ?_))⟩
  exact congrArg Value.bool (by simp [h8])
theorem cput_spec (sb : Nat) (P : Int) (m : Mm) (a n : Int) (hP0 : 0 ≤ P) (hP : P ≤ 1048576) (h0 : 0 ≤ a) (h8 : a % 8 = 0) (h1 : a + 8 ≤ P * 4096) :
    Spec Tryz.prog 161 [.pointer (some ⟨sb, 0, none⟩), .int .u64 a, .int .i64 8, .int .u64 n] [Spc sb P m] (fun v L => v = .int .i64 0 ∧ L = [Spc sb P (stM m a (leB 8 n))]) := by
  refine Spec.intro (IsEnt.out) Tryz.func161 rfl Tryz.ntmps161 (by simp) (fun w0 F => ?_)
  simp only [envOf, List.zipIdx, List.map, List.cons_append, List.nil_append, Nat.zero_add, Nat.reduceAdd]
  repeat (first | refine Zq ?_ | refine Zs ?_ | refine ZT ?_ | refine ZF ?_ | refine Zc ?_ | refine XO_gU (hk := ?_))
  refine XO_call (cright_spec a h0 h8) (hk := ?_)
  rintro _ _ ⟨rfl, rfl⟩
  repeat (first | refine Zq ?_ | refine Zs ?_ | refine ZT ?_ | refine ZF ?_ | refine Zc ?_ | refine XO_gU (hk := ?_))
  refine X_cond rfl (fun h => by cases h) (fun _ => ?_)
  repeat (first | refine Zq ?_ | refine Zs ?_ | refine ZT ?_ | refine ZF ?_ | refine Zc ?_ | refine XO_gU (hk := ?_))
  refine XO_lit (E' := eI .u64) [n] (hk := ?_)
  intro lb
  repeat (first | refine Zq ?_ | refine Zs ?_ | refine ZT ?_ | refine ZF ?_ | refine Zc ?_ | refine XO_gU (hk := ?_))
  refine XO_call (wbytes_spec (Sl (eI .u64) (some ⟨lb, 0, none⟩) [n].length [n]) (some ⟨lb, 0, none⟩) [n].length [n] 8 (by decide) (by simp) Sl.view) (hk := ?_)
  rintro _ _ ⟨b, rfl, rfl⟩
  have e : bsOf (8 : Int).toNat [n] = leB 8 n := by show leB 8 n ++ [] = _; rw [List.append_nil]
  rw [e]
  repeat (first | refine Zq ?_ | refine Zs ?_ | refine ZT ?_ | refine ZF ?_ | refine Zc ?_ | refine XO_gU (hk := ?_))
  have hs := Store_spec (Sl (eI .u8) (some ⟨b, 0, none⟩) (leB 8 n).length (leB 8 n)) sb (leB 8 n).length (some ⟨b, 0, none⟩) P m a (leB 8 n) Sl.view (leB_byt 8 n) (Nat.le_refl _) (by rw [leB_len]; decide) hP0 hP h0 (by omega)
  unfold storeV at hs
  rw [if_pos (by unfold fitsI; rw [leB_len, if_pos (by omega), if_neg (by omega)])] at hs
  refine XO_call hs (hk := ?_)
  rintro _ _ ⟨rfl, rfl⟩
  repeat (first | refine Zq ?_ | refine Zs ?_ | refine ZT ?_ | refine ZF ?_ | refine Zc ?_ | refine XO_gU (hk := ?_))
  refine XE_ret (.inl rfl) (tells_tmps rfl rfl) ⟨_, ⟨rfl, rfl⟩, by ((try simp only [List.cons_append, List.nil_append]); repeat (first | exact ent_refl | refine ent_take (by repeat (first | exact Find.here | apply Find.there)) ?_ | refine ent_drop ?_))⟩
theorem hlink_ok (sb : Nat) {C : Co} {m : Mm} {l1 l2 : List (Int × Hd)} {P p : Int} {hd : Hd} (next : Int) (hK : KInv C m.f (l1 ++ (p, hd) :: l2)) (hP : C.P = P) :
    Spec Tryz.prog 118 [.pointer (some ⟨sb, 0, none⟩), .int .i64 p, .int .u64 next] [Spc sb P m] (fun v L => v = .int .i64 0 ∧ L = [Spc sb P (lkM P m p next)]) := by
  refine Spec.intro (IsEnt.out) Tryz.func118 rfl Tryz.ntmps118 (by simp) (fun w0 F => ?_)
  have hr : RunOk C.P (p, hd.pages) := hK.run (p, hd) (by simp)
  have hP1 := hK.ci.ok.p1
  have hP2 := hK.ci.ok.p2
  rw [hP] at hr hP1 hP2
  unfold RunOk at hr
  simp only at hr
  simp only [envOf, List.zipIdx, List.map, List.cons_append, List.nil_append, Nat.zero_add, Nat.reduceAdd]
  repeat (first | refine Zq ?_ | refine Zs ?_ | refine ZT ?_ | refine ZF ?_ | refine Zc ?_ | refine XO_gU (hk := ?_))
  refine XO_call (hread_ok sb hK hP) (hk := ?_)
  rintro _ _ ⟨rfl, rfl⟩
  repeat (first | refine Zq ?_ | refine Zs ?_ | refine ZT ?_ | refine ZF ?_ | refine Zc ?_ | refine XO_gU (hk := ?_))
  refine XO_dv (dv_alloc (row := [.int .i64 0, .int .i64 0, .int .u64 0, .int .u64 0])) (hk := ?_)
  rintro _ _ ⟨hb, rfl, rfl⟩
  refine XO_dv0 (dv_storeW (vs := [.int .i64 hd.pages, .int .i64 hd.kind, .int .u64 hd.owner, .int .u64 hd.next])) (hk := ?_)
  rintro _ _ rfl
  repeat (first | refine Zq ?_ | refine Zs ?_ | refine ZT ?_ | refine ZF ?_ | refine Zc ?_ | refine XO_gU (hk := ?_))
  refine X_cond rfl (fun h => by cases h) (fun _ => ?_)
  repeat (first | refine Zq ?_ | refine Zs ?_ | refine ZT ?_ | refine ZF ?_ | refine Zc ?_ | refine XO_gU (hk := ?_))
  refine XO_call (hat_spec sb P (hrM P m p) p (by omega) hP2) (hk := ?_)
  rintro _ _ ⟨rfl, rfl⟩
  rw [show hatI P p = p * 4096 from by unfold hatI; rw [if_pos (by omega)]]
  repeat (first | refine Zq ?_ | refine Zs ?_ | refine ZT ?_ | refine ZF ?_ | refine Zc ?_ | refine XO_gU (hk := ?_))
  refine XO_call (cput_spec sb P (hrM P m p) (p * 4096 + 24) next (by omega) hP2 (by omega) (by omega) (by omega)) (hk := ?_)
  rintro _ _ ⟨rfl, rfl⟩
  repeat (first | refine Zq ?_ | refine Zs ?_ | refine ZT ?_ | refine ZF ?_ | refine Zc ?_ | refine XO_gU (hk := ?_))
  refine XE_ret (.inl rfl) (tells_tmps rfl rfl) ⟨_, ⟨rfl, rfl⟩, by ((try simp only [List.cons_append, List.nil_append]); repeat (first | exact ent_refl | refine ent_take (by repeat (first | exact Find.here | apply Find.there)) ?_ | refine ent_drop ?_))⟩
theorem plen_spec (p s : Nat) (k o : Int) (rs : List (Int × Int)) : Spec Tryz.prog 72 [.pointer (some ⟨p, 0, none⟩)] [Pl p s k o rs] (fun v L => v = .int .i64 (rs.length : Int) ∧ L = [Pl p s k o rs]) := by
  refine Spec.intro (IsEnt.out) Tryz.func72 rfl Tryz.ntmps72 (by simp) (fun w0 F => ?_)
  simp only [envOf, List.zipIdx, List.map, List.cons_append, List.nil_append, Nat.zero_add, Nat.reduceAdd]
  repeat (first | refine Zq ?_ | refine Zs ?_ | refine ZT ?_ | refine ZF ?_ | refine Zc ?_ | refine XO_gU (hk := ?_))
  refine X_cond rfl (fun h => by cases h) (fun _ => ?_)
  refine X_open .here Pl.open ?_
  rintro ⟨a, c⟩ -
  dsimp only [List.cons_append, List.nil_append]
  repeat (first | refine Zq ?_ | refine Zs ?_ | refine ZT ?_ | refine ZF ?_ | refine Zc ?_ | refine XO_gU (hk := ?_))
  refine XE_fold (by repeat (first | exact FindAll.nil | exact Find.here | apply Find.there | apply FindAll.cons)) Pl.fold ?_
  refine XE_ret (.inl rfl) (tells_tmps rfl rfl) ⟨_, ⟨rfl, rfl⟩, by ((try simp only [List.cons_append, List.nil_append]); repeat (first | exact ent_refl | refine ent_take (by repeat (first | exact Find.here | apply Find.there)) ?_ | refine ent_drop ?_))⟩
def topR : List (Int × Int) → (Int × Int) × Bool
  | [] => ((0, 0), false)
  | r :: l => ((r :: l).getD l.length (0, 0), true)
theorem topR_snoc (l : List (Int × Int)) (r : Int × Int) : topR (l ++ [r]) = (r, true) := by
  cases l with
  | nil => rfl
  | cons x l => show (((x :: (l ++ [r])).getD (l ++ [r]).length (0, 0)), true) = _; simp [List.getD]
theorem topR_lastL (rs : List (Int × Int)) : lastL 0 rs = if (topR rs).2 = true then (topR rs).1.1 + 1 else 0 := by
  rcases List.eq_nil_or_concat rs with rfl | ⟨l, r, rfl⟩
  · rfl
  · rw [List.concat_eq_append, topR_snoc, lastL_snoc]; rfl
theorem ptop_spec (p s : Nat) (k o : Int) (rs : List (Int × Int)) (hl : rs.length ≤ 4611686018427387904) : Spec Tryz.prog 163 [.pointer (some ⟨p, 0, none⟩)] [Pl p s k o rs] (fun v L => v = .tuple #[eRun.val (topR rs).1, .bool (topR rs).2] ∧ L = [Pl p s k o rs]) := by
  refine Spec.intro (IsEnt.out) Tryz.func163 rfl Tryz.ntmps163 (by simp) (fun w0 F => ?_)
  simp only [envOf, List.zipIdx, List.map, List.cons_append, List.nil_append, Nat.zero_add, Nat.reduceAdd]
  repeat (first | refine Zq ?_ | refine Zs ?_ | refine ZT ?_ | refine ZF ?_ | refine Zc ?_ | refine XO_gU (hk := ?_))
  refine XO_dv (dv_alloc (row := [.int .i64 0, .int .i64 0])) (hk := ?_)
  rintro _ _ ⟨rb, rfl, rfl⟩
  repeat (first | refine Zq ?_ | refine Zs ?_ | refine ZT ?_ | refine ZF ?_ | refine Zc ?_ | refine XO_gU (hk := ?_))
  refine XO_call (plen_spec p s k o rs) (hk := ?_)
  rintro _ _ ⟨rfl, rfl⟩
  repeat (first | refine Zq ?_ | refine Zs ?_ | refine ZT ?_ | refine ZF ?_ | refine Zc ?_ | refine XO_gU (hk := ?_))
  rcases List.eq_nil_or_concat rs with rfl | ⟨l, r, rfl⟩
  · refine X_cond rfl (fun _ => ?_) (fun h => by cases h)
    repeat (first | refine Zq ?_ | refine Zs ?_ | refine ZT ?_ | refine ZF ?_ | refine Zc ?_ | refine XO_gU (hk := ?_))
    refine XO_dv0 (dv_storeW (vs := [.int .i64 0, .int .i64 0])) (hk := ?_)
    rintro _ _ rfl
    repeat (first | refine Zq ?_ | refine Zs ?_ | refine ZT ?_ | refine ZF ?_ | refine Zc ?_ | refine XO_gU (hk := ?_))
    refine XE_ret (.inl rfl) (tells_many (rs := [.cell _ _, .tmp _]) (vs := [_, _]) rfl ⟨told_cell, told_tmp, trivial⟩) ⟨_, ⟨rfl, rfl⟩, by ((try simp only [List.cons_append, List.nil_append]); repeat (first | exact ent_refl | refine ent_take (by repeat (first | exact Find.here | apply Find.there)) ?_ | refine ent_drop ?_))⟩
  · rw [List.concat_eq_append] at hl ⊢
    rw [topR_snoc]
    have hll : (l ++ [r]).length = l.length + 1 := by simp
    refine X_cond rfl (fun h => ?_) (fun _ => ?_)
    · exfalso
      simp only [beq_iff_eq] at h
      omega
    refine X_open (A := Pl p s k o (l ++ [r])) (by (repeat (first | exact Find.here | apply Find.there))) Pl.open ?_
    rintro ⟨a, c⟩ -
    dsimp only [List.cons_append, List.nil_append]
    refine X_slopen (E' := eRun) (a := a) (c := c) (xs := l ++ [r]) (by (repeat (first | exact Find.here | apply Find.there))) (by omega) ?_
    rintro b oo rfl
    have hg : (l ++ [r])[(((l ++ [r]).length : Int) - 1).toNat]? = some r := by
      rw [hll, show (((l.length + 1 : Nat) : Int) - 1).toNat = l.length from by omega]; simp
    repeat (first | refine Zq ?_ | refine Zs ?_ | refine ZT ?_ | refine ZF ?_ | refine Zc ?_ | refine XO_gU (hk := ?_))
    repeat (first | refine XD_pick (h := ?_) | refine Dq ?_ | refine Ds ?_ | refine XDi_gF (h := ?_) | refine XDi_gU (h := ?_) | refine X_draws (h := ?_))
    refine XD_one (h := ?_)
    refine XDa_dvk0 (dv_storeW (vs := [.int .i64 r.1, .int .i64 r.2])) (K := _) (hk := ?_)
    (rintro _ _ rfl; refine ⟨by (repeat (first | exact keeps_nil | exact keeps_fnil | refine keeps_skip (h := ?_) | refine keeps_takeQ (h := ?_))), ?_⟩)
    repeat (first | refine XD_pick (h := ?_) | refine Dq ?_ | refine Ds ?_ | refine XDi_gF (h := ?_) | refine XDi_gU (h := ?_) | refine X_draws (h := ?_))
    (refine XD_one (h := ?_); refine XDa_dvA (dv_of_rv (rv_of_pv pv_assign)) (hk := ?_); rintro _ _ ⟨rfl, rfl⟩; refine ⟨by (repeat (first | exact keeps_nil | exact keeps_fnil | refine keeps_skip (h := ?_) | refine keeps_takeQ (h := ?_))), ?_⟩)
    (refine XD_end (h := ?_); repeat (first | refine Zq ?_ | refine Zs ?_ | refine ZT ?_ | refine ZF ?_ | refine Zc ?_ | refine XO_gU (hk := ?_)))
    refine XE_fold (by repeat (first | exact FindAll.nil | exact Find.here | apply Find.there | apply FindAll.cons)) Pl.fold ?_
    refine XE_ret (.inl rfl) (tells_many (rs := [.cell _ _, .tmp _]) (vs := [_, _]) rfl ⟨told_cell, told_tmp, trivial⟩) ⟨_, ⟨rfl, rfl⟩, by ((try simp only [List.cons_append, List.nil_append]); repeat (first | exact ent_refl | refine ent_take (by repeat (first | exact Find.here | apply Find.there)) ?_ | refine ent_drop ?_))⟩
theorem plink_spec (p s : Nat) (k o : Int) (rs : List (Int × Int)) (hl : rs.length ≤ 4611686018427387904) (hb : ∀ r ∈ rs, 0 ≤ r.1 ∧ r.1 ≤ 1048576) : Spec Tryz.prog 119 [.pointer (some ⟨p, 0, none⟩)] [Pl p s k o rs] (fun v L => v = .int .u64 (lastL 0 rs) ∧ L = [Pl p s k o rs]) := by
  refine Spec.intro (IsEnt.out) Tryz.func119 rfl Tryz.ntmps119 (by simp) (fun w0 F => ?_)
  simp only [envOf, List.zipIdx, List.map, List.cons_append, List.nil_append, Nat.zero_add, Nat.reduceAdd]
  repeat (first | refine Zq ?_ | refine Zs ?_ | refine ZT ?_ | refine ZF ?_ | refine Zc ?_ | refine XO_gU (hk := ?_))
  have ht := ptop_spec p s k o rs hl
  rcases List.eq_nil_or_concat rs with rfl | ⟨l, r, rfl⟩
  · refine XO_call ht (hk := ?_)
    rintro _ _ ⟨rfl, rfl⟩
    repeat (first | refine Zq ?_ | refine Zs ?_ | refine ZT ?_ | refine ZF ?_ | refine Zc ?_ | refine XO_gU (hk := ?_))
    refine XO_dv (dv_alloc (row := [.int .i64 0, .int .i64 0])) (hk := ?_)
    rintro _ _ ⟨rb, rfl, rfl⟩
    refine XO_dv0 (dv_storeW (vs := [.int .i64 0, .int .i64 0])) (hk := ?_)
    rintro _ _ rfl
    repeat (first | refine Zq ?_ | refine Zs ?_ | refine ZT ?_ | refine ZF ?_ | refine Zc ?_ | refine XO_gU (hk := ?_))
    refine X_cond rfl (fun _ => ?_) (fun h => by cases h)
    repeat (first | refine Zq ?_ | refine Zs ?_ | refine ZT ?_ | refine ZF ?_ | refine Zc ?_ | refine XO_gU (hk := ?_))
    refine XE_ret (.inl rfl) (tells_tmps rfl rfl) ⟨_, ⟨rfl, rfl⟩, by ((try simp only [List.cons_append, List.nil_append]); repeat (first | exact ent_refl | refine ent_take (by repeat (first | exact Find.here | apply Find.there)) ?_ | refine ent_drop ?_))⟩
  · rw [List.concat_eq_append] at hl hb ht ⊢
    have hr := hb r (by simp)
    rw [topR_snoc] at ht
    rw [lastL_snoc]
    refine XO_call ht (hk := ?_)
    rintro _ _ ⟨rfl, rfl⟩
    repeat (first | refine Zq ?_ | refine Zs ?_ | refine ZT ?_ | refine ZF ?_ | refine Zc ?_ | refine XO_gU (hk := ?_))
    refine XO_dv (dv_alloc (row := [.int .i64 0, .int .i64 0])) (hk := ?_)
    rintro _ _ ⟨rb, rfl, rfl⟩
    refine XO_dv0 (dv_storeW (vs := [.int .i64 r.1, .int .i64 r.2])) (hk := ?_)
    rintro _ _ rfl
    repeat (first | refine Zq ?_ | refine Zs ?_ | refine ZT ?_ | refine ZF ?_ | refine Zc ?_ | refine XO_gU (hk := ?_))
    refine X_cond rfl (fun h => by cases h) (fun _ => ?_)
    repeat (first | refine Zq ?_ | refine Zs ?_ | refine ZT ?_ | refine ZF ?_ | refine Zc ?_ | refine XO_gU (hk := ?_))
    refine XE_ret (.inl rfl) (tells_tmps rfl rfl) ⟨_, ⟨rfl, rfl⟩, by ((try simp only [List.cons_append, List.nil_append]); repeat (first | exact ent_refl | refine ent_take (by repeat (first | exact Find.here | apply Find.there)) ?_ | refine ent_drop ?_))⟩
theorem plpages_spec (p s : Nat) (k o : Int) (rs : List (Int × Int)) (hl : rs.length ≤ 1048576) (hB : Bd rs) : Spec Tryz.prog 84 [.pointer (some ⟨p, 0, none⟩)] [Pl p s k o rs] (fun v L => v = .int .i64 (totI rs) ∧ L = [Pl p s k o rs]) := by
  refine Spec.intro (IsEnt.out) Tryz.func84 rfl Tryz.ntmps84 (by simp) (fun w0 F => ?_)
  simp only [envOf, List.zipIdx, List.map, List.cons_append, List.nil_append, Nat.zero_add, Nat.reduceAdd]
  repeat (first | refine Zq ?_ | refine Zs ?_ | refine ZT ?_ | refine ZF ?_ | refine Zc ?_ | refine XO_gU (hk := ?_))
  refine X_cond rfl (fun h => by cases h) (fun _ => ?_)
  refine X_open .here Pl.open ?_
  rintro ⟨a, c⟩ -
  dsimp only [List.cons_append, List.nil_append]
  have htb : ∀ i, 0 ≤ totI (rs.take i) ∧ totI (rs.take i) ≤ 1048576 * (rs.length : Int) := fun i => by
    have key : ∀ l : List (Int × Int), (∀ r ∈ l, 0 ≤ r.1 ∧ 0 ≤ r.2 ∧ r.1 + r.2 ≤ 1048576) → 0 ≤ totI l ∧ totI l ≤ 1048576 * (l.length : Int) := by
      intro l
      induction l with
      | nil => intro _; simp [totI]
      | cons r l ih =>
        intro h
        have h1 := h r (by simp)
        have h2 := ih fun q hq => h q (by simp [hq])
        rw [tot_cons]; simp; omega
    have h1 := key (rs.take i) fun r hr => hB r (List.mem_of_mem_take hr)
    have h2 : (rs.take i).length ≤ rs.length := by simp; omega
    omega
  repeat (first | refine Zq ?_ | refine Zs ?_ | refine ZT ?_ | refine ZF ?_ | refine Zc ?_ | refine XO_gU (hk := ?_))
  refine X_loop (ι := Nat) (fun i => i ≤ rs.length) (fun i => [(0, .pointer (some ⟨p, 0, none⟩)), (11, .slice a rs.length c), (12, .int .i64 (rs.length : Int)), (13, .int .i64 (i : Int)), (3, .int .i64 (totI (rs.take i)))])
    (fun _ => pt p (.cells [.pointer (some ⟨s, 0, none⟩), .int .i64 k, .int .u64 o, .slice a rs.length c].toArray 200 (0, 0)) :: Sl eRun a c rs :: F) (fun i => rs.length - i) 0 (Nat.zero_le _) ?_ (by ((try simp only [List.cons_append, List.nil_append]); repeat (first | exact ent_refl | refine ent_take (by repeat (first | exact Find.here | apply Find.there)) ?_ | refine ent_drop ?_))) ?_
  · (repeat (first | exact Env.sub_nil _ | refine Env.sub_cons rfl ?_))
  intro i hi
  dsimp only at hi ⊢
  repeat (first | refine Zq ?_ | refine Zs ?_ | refine ZT ?_ | refine ZF ?_ | refine Zc ?_ | refine XO_gU (hk := ?_))
  refine X_cond rfl (fun hc => ?_) (fun hc => ?_) <;> simp only [decide_eq_true_eq, decide_eq_false_iff_not] at hc
  · have hil : i < rs.length := by omega
    have hg : rs[i]? = some rs[i] := List.getElem?_eq_getElem hil
    have hr := hB rs[i] (List.getElem_mem hil)
    have hs : totI (rs.take (i + 1)) = totI (rs.take i) + rs[i].2 := by rw [List.take_succ_eq_append_getElem hil, tot_append]; simp [totI]
    have hb1 := htb i
    refine X_slopen (E' := eRun) (a := a) (c := c) (xs := rs) (by (repeat (first | exact Find.here | apply Find.there))) (by omega) ?_
    rintro b oo rfl
    repeat (first | refine Zq ?_ | refine Zs ?_ | refine ZT ?_ | refine ZF ?_ | refine Zc ?_ | refine XO_gU (hk := ?_))
    refine XO_dv (dv_alloc (row := [.int .i64 0, .int .i64 0])) (hk := ?_)
    rintro _ _ ⟨rb, rfl, rfl⟩
    refine XO_dv0 (dv_storeW (vs := [.int .i64 rs[i].1, .int .i64 rs[i].2])) (hk := ?_)
    rintro _ _ rfl
    repeat (first | refine Zq ?_ | refine Zs ?_ | refine ZT ?_ | refine ZF ?_ | refine Zc ?_ | refine XO_gU (hk := ?_))
    exact X_round (i + 1) (by show i + 1 ≤ rs.length; omega) (by show rs.length - (i + 1) < rs.length - i; omega) (by rw [hs]; (repeat (first | exact Env.sub_nil _ | refine Env.sub_cons rfl ?_))) (by ((try simp only [List.cons_append, List.nil_append]); repeat (first | exact ent_refl | refine ent_take (by repeat (first | exact Find.here | apply Find.there)) ?_ | refine ent_drop ?_)))
  · obtain rfl : i = rs.length := by omega
    rw [List.take_length]
    repeat (first | refine Zq ?_ | refine Zs ?_ | refine ZT ?_ | refine ZF ?_ | refine Zc ?_ | refine XO_gU (hk := ?_))
    refine XE_fold (by repeat (first | exact FindAll.nil | exact Find.here | apply Find.there | apply FindAll.cons)) Pl.fold ?_
    refine XE_ret (.inl rfl) (tells_tmps rfl rfl) ⟨_, ⟨rfl, rfl⟩, by ((try simp only [List.cons_append, List.nil_append]); repeat (first | exact ent_refl | refine ent_take (by repeat (first | exact Find.here | apply Find.there)) ?_ | refine ent_drop ?_))⟩
theorem plnew_spec (s : Nat) (k o : Int) : Spec Tryz.prog 57 [.pointer (some ⟨s, 0, none⟩), .int .i64 k, .int .u64 o] [] (fun v L => ∃ p, v = .pointer (some ⟨p, 0, none⟩) ∧ L = [Pl p s k o []]) := by
  refine Spec.intro (IsEnt.out) Tryz.func57 rfl Tryz.ntmps57 (by simp) (fun w0 F => ?_)
  simp only [envOf, List.zipIdx, List.map, List.cons_append, List.nil_append, Nat.zero_add, Nat.reduceAdd]
  repeat (first | refine Zq ?_ | refine Zs ?_ | refine ZT ?_ | refine ZF ?_ | refine Zc ?_ | refine XO_gU (hk := ?_))
  refine XO_pv (pv_buildG [.pointer (some ⟨s, 0, none⟩), .int .i64 k, .int .u64 o, .slice none 0 0]) (hk := ?_)
  repeat (first | refine Zq ?_ | refine Zs ?_ | refine ZT ?_ | refine ZF ?_ | refine Zc ?_ | refine XO_gU (hk := ?_))
  refine XO_dv dv_box (hk := ?_)
  rintro _ _ ⟨p, rfl, rfl⟩
  repeat (first | refine Zq ?_ | refine Zs ?_ | refine ZT ?_ | refine ZF ?_ | refine Zc ?_ | refine XO_gU (hk := ?_))
  refine XE_conv (fun _ h => SL_nilSl eRun h) ?_
  refine XE_fold (by repeat (first | exact FindAll.nil | exact Find.here | apply Find.there | apply FindAll.cons)) (Pl.fold (p := p) (s := s) (k := k) (o := o) (rs := []) (a := none) (c := 0)) ?_
  refine XE_ret (.inl rfl) (tells_tmps rfl rfl) ⟨_, ⟨p, rfl, rfl⟩, by ((try simp only [List.cons_append, List.nil_append]); repeat (first | exact ent_refl | refine ent_take (by repeat (first | exact Find.here | apply Find.there)) ?_ | refine ent_drop ?_))⟩
end Go.Proofs.YtamecmklcnohjaaGreat.Sep
namespace Go.Proofs.YtamecmklcnohjaaGreat.Sep
open Go.RowKit
set_option linter.unusedSimpArgs false
set_option linter.unusedVariables false
/-! piles: chunks that are pushed and popped -/
theorem pl_bd {C : Co} {m : Int → Int} {k o : Int} {rs : List (Int × Int)} {oth : List (Int × Hd)} (hK : KInv C m (plH k o 0 rs ++ oth)) : ∀ r ∈ rs, RunOk C.P r := fun r hr => by
  have h : r ∈ gr (plH k o 0 rs) := by rw [plH_gr]; exact hr
  obtain ⟨q, hq, rfl⟩ := List.mem_map.1 h
  exact hK.run q (by simp [hq])
theorem pl_bd2 {C : Co} {m : Int → Int} {k o : Int} {rs : List (Int × Int)} {oth : List (Int × Hd)} (hK : KInv C m (plH k o 0 rs ++ oth)) : ∀ r ∈ rs, 0 ≤ r.1 ∧ r.1 ≤ 1048576 := fun r hr => by
  have h1 := pl_bd hK r hr
  have h2 := hK.ci.ok.p2
  unfold RunOk at h1
  omega
theorem lastL_bd {rs : List (Int × Int)} (h : ∀ r ∈ rs, 0 ≤ r.1 ∧ r.1 ≤ 1048576) : 0 ≤ lastL 0 rs ∧ lastL 0 rs < 18446744073709551616 := by
  rcases List.eq_nil_or_concat rs with rfl | ⟨l, r, rfl⟩
  · exact ⟨Int.le_refl _, by decide⟩
  · rw [List.concat_eq_append] at h ⊢
    have := h r (by simp)
    rw [lastL_snoc]; omega
/-- What is pushed. -/
def pushM (P : Int) (m : Mm) (k o nx pg n : Int) : Mm := lkM P (stM m (pg * 4096) (hdB ⟨n, k, o, 0⟩)) pg nx
theorem ppush_inv {C : Co} {m : Mm} {P k o n : Int} {rs : List (Int × Int)} {oth : List (Int × Hd)} (hK : KInv C m.f (plH k o 0 rs ++ oth)) (hP : C.P = P) (ho : 0 ≤ o ∧ o < 18446744073709551616) (hb : ¬ bad n k) (hz : (getC C (rnd n)).2.2 = 0) :
    KInv (getC C (rnd n)).1 (pushM P m k o (lastL 0 rs) (getC C (rnd n)).2.1 (rnd n)).f (plH k o 0 (rs ++ [((getC C (rnd n)).2.1, rnd n)]) ++ oth) ∧ (getC C (rnd n)).1.P = P := by
  obtain ⟨h1, h2⟩ := kget_inv hK hP ho hb hz
  refine ⟨?_, h2⟩
  have h3 := klink (l1 := plH k o 0 rs ++ oth) (l2 := []) h1 (lastL_bd (pl_bd2 hK))
  refine KInv.perm (g := (plH k o 0 rs ++ oth) ++ [((getC C (rnd n)).2.1, (⟨rnd n, k, o, lastL 0 rs⟩ : Hd))]) h3 ?_
  rw [plH_snoc, List.append_assoc, List.append_assoc]
  exact List.Perm.append_left _ (List.perm_append_comm)
set_option maxHeartbeats 8000000
attribute [local irreducible] X XE XO XD XDi XDa PV RV DV pt base Spec Sl Mp Keeps Pg Kc Pgs Spc Ck XL XLi Pl
theorem ppush_ok (p s sb : Nat) {C : Co} {m : Mm} {P k o n : Int} {rs : List (Int × Int)} {oth : List (Int × Hd)} (hK : KInv C m.f (plH k o 0 rs ++ oth)) (hP : C.P = P) (ho : 0 ≤ o ∧ o < 18446744073709551616) (hb : ¬ bad n k) (hz : (getC C (rnd n)).2.2 = 0) (hl : rs.length ≤ 1048576) :
    Spec Tryz.prog 64 [.pointer (some ⟨p, 0, none⟩), .int .i64 n] [Pl p s k o rs, Ck s sb C, Spc sb P m]
      (fun v L => v = .tuple #[.int .i64 (getC C (rnd n)).2.1, .int .i64 (rnd n), .int .i64 0] ∧ L = [Pl p s k o (rs ++ [((getC C (rnd n)).2.1, rnd n)]), Ck s sb (getC C (rnd n)).1, Spc sb P (pushM P m k o (lastL 0 rs) (getC C (rnd n)).2.1 (rnd n))]) := by
  refine Spec.intro (IsEnt.out) Tryz.func64 rfl Tryz.ntmps64 (by simp) (fun w0 F => ?_)
  simp only [envOf, List.zipIdx, List.map, List.cons_append, List.nil_append, Nat.zero_add, Nat.reduceAdd]
  have hK1 := kget_inv hK hP ho hb hz
  have s1 := kget_ok s sb hK hP ho hb hz
  have hbd := pl_bd2 hK
  unfold pushM
  generalize (getC C (rnd n)).1 = C1 at s1 hK1 ⊢
  generalize (getC C (rnd n)).2.1 = pg at s1 hK1 ⊢
  generalize rnd n = n' at s1 hK1 ⊢
  generalize stM m (pg * 4096) (hdB ⟨n', k, o, 0⟩) = m1 at s1 hK1 ⊢
  obtain ⟨hK1, hP1⟩ := hK1
  repeat (first | refine Zq ?_ | refine Zs ?_ | refine ZT ?_ | refine ZF ?_ | refine Zc ?_ | refine XO_gU (hk := ?_))
  refine X_cond rfl (fun h => by cases h) (fun _ => ?_)
  refine X_open .here Pl.open ?_
  rintro ⟨a, c⟩ -
  dsimp only [List.cons_append, List.nil_append]
  repeat (first | refine Zq ?_ | refine Zs ?_ | refine ZT ?_ | refine ZF ?_ | refine Zc ?_ | refine XO_gU (hk := ?_))
  repeat (first | refine XD_pick (h := ?_) | refine Dq ?_ | refine Ds ?_ | refine XDi_gF (h := ?_) | refine XDi_gU (h := ?_) | refine X_draws (h := ?_))
  refine XD_one (h := ?_)
  refine XDa_dvA (dv_call s1) (hk := ?_)
  (rintro _ _ ⟨_, ⟨rfl, rfl⟩, rfl⟩; refine ⟨by (repeat (first | exact keeps_nil | exact keeps_fnil | refine keeps_skip (h := ?_) | refine keeps_takeQ (h := ?_))), ?_⟩)
  repeat (first | refine XD_pick (h := ?_) | refine Dq ?_ | refine Ds ?_ | refine XDi_gF (h := ?_) | refine XDi_gU (h := ?_) | refine X_draws (h := ?_))
  (refine XD_one (h := ?_); refine XDa_dvA (dv_of_rv (rv_of_pv pv_assign)) (hk := ?_); rintro _ _ ⟨rfl, rfl⟩; refine ⟨by (repeat (first | exact keeps_nil | exact keeps_fnil | refine keeps_skip (h := ?_) | refine keeps_takeQ (h := ?_))), ?_⟩)
  (refine XD_one (h := ?_); refine XDa_dvA (dv_of_rv (rv_of_pv pv_assign)) (hk := ?_); rintro _ _ ⟨rfl, rfl⟩; refine ⟨by (repeat (first | exact keeps_nil | exact keeps_fnil | refine keeps_skip (h := ?_) | refine keeps_takeQ (h := ?_))), ?_⟩)
  (refine XD_one (h := ?_); refine XDa_dvA (dv_of_rv (rv_of_pv pv_assign)) (hk := ?_); rintro _ _ ⟨rfl, rfl⟩; refine ⟨by (repeat (first | exact keeps_nil | exact keeps_fnil | refine keeps_skip (h := ?_) | refine keeps_takeQ (h := ?_))), ?_⟩)
  (refine XD_end (h := ?_); repeat (first | refine Zq ?_ | refine Zs ?_ | refine ZT ?_ | refine ZF ?_ | refine Zc ?_ | refine XO_gU (hk := ?_)))
  refine X_cond rfl (fun h => by cases h) (fun _ => ?_)
  repeat (first | refine Zq ?_ | refine Zs ?_ | refine ZT ?_ | refine ZF ?_ | refine Zc ?_ | refine XO_gU (hk := ?_))
  refine XO_call (kspace_spec s sb C1) (hk := ?_)
  rintro _ _ ⟨rfl, rfl⟩
  repeat (first | refine Zq ?_ | refine Zs ?_ | refine ZT ?_ | refine ZF ?_ | refine Zc ?_ | refine XO_gU (hk := ?_))
  refine XO_fold (by repeat (first | exact FindAll.nil | exact Find.here | apply Find.there | apply FindAll.cons)) (Pl.fold (p := p) (s := s) (k := k) (o := o) (rs := rs) (a := a) (c := c)) ?_
  refine XO_call (plink_spec p s k o rs (by omega) hbd) (hk := ?_)
  rintro _ _ ⟨rfl, rfl⟩
  repeat (first | refine Zq ?_ | refine Zs ?_ | refine ZT ?_ | refine ZF ?_ | refine Zc ?_ | refine XO_gU (hk := ?_))
  refine XO_call (hlink_ok sb (l2 := []) (lastL 0 rs) hK1 hP1) (hk := ?_)
  rintro _ _ ⟨rfl, rfl⟩
  repeat (first | refine Zq ?_ | refine Zs ?_ | refine ZT ?_ | refine ZF ?_ | refine Zc ?_ | refine XO_gU (hk := ?_))
  refine XO_open (A := Pl p s k o rs) (by (repeat (first | exact Find.here | apply Find.there))) Pl.open ?_
  rintro ⟨a2, c2⟩ -
  dsimp only [List.cons_append, List.nil_append]
  repeat (first | refine Zq ?_ | refine Zs ?_ | refine ZT ?_ | refine ZF ?_ | refine Zc ?_ | refine XO_gU (hk := ?_))
  refine XO_lit (E' := eRun) [(pg, n')] (hk := ?_)
  intro lb
  repeat (first | refine Zq ?_ | refine Zs ?_ | refine ZT ?_ | refine ZF ?_ | refine Zc ?_ | refine XO_gU (hk := ?_))
  refine XO_dv (dv_append (E' := eRun) (xs := rs) (ys := [(pg, n')]) (hv := Sl.view) (hb := by simp; omega)) (hk := ?_)
  rintro _ _ ⟨a3, c3, rfl, rfl⟩
  repeat (first | refine Zq ?_ | refine Zs ?_ | refine ZT ?_ | refine ZF ?_ | refine Zc ?_ | refine XO_gU (hk := ?_))
  refine XO_dv0 dv_store (hk := ?_)
  rintro _ _ rfl
  repeat (first | refine Zq ?_ | refine Zs ?_ | refine ZT ?_ | refine ZF ?_ | refine Zc ?_ | refine XO_gU (hk := ?_))
  refine XE_fold (by repeat (first | exact FindAll.nil | exact Find.here | apply Find.there | apply FindAll.cons)) (Pl.fold (p := p) (s := s) (k := k) (o := o) (rs := rs ++ [(pg, n')]) (a := a3) (c := c3)) ?_
  refine XE_ret (.inl rfl) (tells_tmps rfl rfl) ⟨_, ⟨rfl, rfl⟩, by ((try simp only [List.cons_append, List.nil_append]); repeat (first | exact ent_refl | refine ent_take (by repeat (first | exact Find.here | apply Find.there)) ?_ | refine ent_drop ?_))⟩
theorem ppush_err (p s sb : Nat) {C C' : Co} {m : Mm} {P k o n e : Int} {rs : List (Int × Int)} (he : e ≠ 0)
    (s1 : Spec Tryz.prog 117 [.pointer (some ⟨s, 0, none⟩), .int .i64 n, .int .i64 k, .int .u64 o] [Ck s sb C, Spc sb P m] (fun v L => v = .tuple #[.int .i64 0, .int .i64 0, .int .i64 e] ∧ L = [Ck s sb C', Spc sb P m])) :
    Spec Tryz.prog 64 [.pointer (some ⟨p, 0, none⟩), .int .i64 n] [Pl p s k o rs, Ck s sb C, Spc sb P m]
      (fun v L => v = .tuple #[.int .i64 0, .int .i64 0, .int .i64 e] ∧ L = [Pl p s k o rs, Ck s sb C', Spc sb P m]) := by
  refine Spec.intro (IsEnt.out) Tryz.func64 rfl Tryz.ntmps64 (by simp) (fun w0 F => ?_)
  simp only [envOf, List.zipIdx, List.map, List.cons_append, List.nil_append, Nat.zero_add, Nat.reduceAdd]
  repeat (first | refine Zq ?_ | refine Zs ?_ | refine ZT ?_ | refine ZF ?_ | refine Zc ?_ | refine XO_gU (hk := ?_))
  refine X_cond rfl (fun h => by cases h) (fun _ => ?_)
  refine X_open .here Pl.open ?_
  rintro ⟨a, c⟩ -
  dsimp only [List.cons_append, List.nil_append]
  repeat (first | refine Zq ?_ | refine Zs ?_ | refine ZT ?_ | refine ZF ?_ | refine Zc ?_ | refine XO_gU (hk := ?_))
  repeat (first | refine XD_pick (h := ?_) | refine Dq ?_ | refine Ds ?_ | refine XDi_gF (h := ?_) | refine XDi_gU (h := ?_) | refine X_draws (h := ?_))
  refine XD_one (h := ?_)
  refine XDa_dvA (dv_call s1) (hk := ?_)
  (rintro _ _ ⟨_, ⟨rfl, rfl⟩, rfl⟩; refine ⟨by (repeat (first | exact keeps_nil | exact keeps_fnil | refine keeps_skip (h := ?_) | refine keeps_takeQ (h := ?_))), ?_⟩)
  repeat (first | refine XD_pick (h := ?_) | refine Dq ?_ | refine Ds ?_ | refine XDi_gF (h := ?_) | refine XDi_gU (h := ?_) | refine X_draws (h := ?_))
  (refine XD_one (h := ?_); refine XDa_dvA (dv_of_rv (rv_of_pv pv_assign)) (hk := ?_); rintro _ _ ⟨rfl, rfl⟩; refine ⟨by (repeat (first | exact keeps_nil | exact keeps_fnil | refine keeps_skip (h := ?_) | refine keeps_takeQ (h := ?_))), ?_⟩)
  (refine XD_one (h := ?_); refine XDa_dvA (dv_of_rv (rv_of_pv pv_assign)) (hk := ?_); rintro _ _ ⟨rfl, rfl⟩; refine ⟨by (repeat (first | exact keeps_nil | exact keeps_fnil | refine keeps_skip (h := ?_) | refine keeps_takeQ (h := ?_))), ?_⟩)
  (refine XD_one (h := ?_); refine XDa_dvA (dv_of_rv (rv_of_pv pv_assign)) (hk := ?_); rintro _ _ ⟨rfl, rfl⟩; refine ⟨by (repeat (first | exact keeps_nil | exact keeps_fnil | refine keeps_skip (h := ?_) | refine keeps_takeQ (h := ?_))), ?_⟩)
  (refine XD_end (h := ?_); repeat (first | refine Zq ?_ | refine Zs ?_ | refine ZT ?_ | refine ZF ?_ | refine Zc ?_ | refine XO_gU (hk := ?_)))
  refine X_cond rfl (fun _ => ?_) (fun h => absurd (by simpa using h) he)
  repeat (first | refine Zq ?_ | refine Zs ?_ | refine ZT ?_ | refine ZF ?_ | refine Zc ?_ | refine XO_gU (hk := ?_))
  refine XE_fold (by repeat (first | exact FindAll.nil | exact Find.here | apply Find.there | apply FindAll.cons)) (Pl.fold (p := p) (s := s) (k := k) (o := o) (rs := rs) (a := a) (c := c)) ?_
  refine XE_ret (.inl rfl) (tells_tmps rfl rfl) ⟨_, ⟨rfl, rfl⟩, by ((try simp only [List.cons_append, List.nil_append]); repeat (first | exact ent_refl | refine ent_take (by repeat (first | exact Find.here | apply Find.there)) ?_ | refine ent_drop ?_))⟩
end Go.Proofs.YtamecmklcnohjaaGreat.Sep
namespace Go.Proofs.YtamecmklcnohjaaGreat.Sep
open Go.RowKit
set_option linter.unusedSimpArgs false
set_option linter.unusedVariables false
/-! piles: the one on top is popped -/
def popM (P : Int) (m : Mm) (pg : Int) : Mm := kputM P (hrM P m pg) pg
theorem plH_top {C : Co} {m : Int → Int} {k o pg n : Int} {l : List (Int × Int)} {oth : List (Int × Hd)} (hK : KInv C m (plH k o 0 (l ++ [(pg, n)]) ++ oth)) : KInv C m (plH k o 0 l ++ (pg, (⟨n, k, o, lastL 0 l⟩ : Hd)) :: oth) := by
  rw [plH_snoc, List.append_assoc] at hK; exact hK
theorem ppop_inv {C : Co} {m : Mm} {P k o pg n : Int} {l : List (Int × Int)} {oth : List (Int × Hd)} (hK : KInv C m.f (plH k o 0 (l ++ [(pg, n)]) ++ oth)) (hP : C.P = P) :
    KInv (putC C (pg, n)) (popM P m pg).f (plH k o 0 l ++ oth) ∧ (putC C (pg, n)).P = P :=
  kput_inv (m := hrM P m pg) (hd := ⟨n, k, o, lastL 0 l⟩) (plH_top hK) hP
set_option maxHeartbeats 8000000
attribute [local irreducible] X XE XO XD XDi XDa PV RV DV pt base Spec Sl Mp Keeps Pg Kc Pgs Spc Ck XL XLi Pl
theorem ppop_ok (p s sb : Nat) {C : Co} {m : Mm} {P k o pg n : Int} {l : List (Int × Int)} {oth : List (Int × Hd)} (hK : KInv C m.f (plH k o 0 (l ++ [(pg, n)]) ++ oth)) (hP : C.P = P) (hl : l.length ≤ 1048576) :
    Spec Tryz.prog 129 [.pointer (some ⟨p, 0, none⟩)] [Pl p s k o (l ++ [(pg, n)]), Ck s sb C, Spc sb P m]
      (fun v L => v = .tuple #[.int .i64 pg, .int .i64 n, .int .i64 0] ∧ L = [Pl p s k o l, Ck s sb (putC C (pg, n)), Spc sb P (popM P m pg)]) := by
  refine Spec.intro (IsEnt.out) Tryz.func129 rfl Tryz.ntmps129 (by simp) (fun w0 F => ?_)
  simp only [envOf, List.zipIdx, List.map, List.cons_append, List.nil_append, Nat.zero_add, Nat.reduceAdd]
  have hT := plH_top hK
  have ht := ptop_spec p s k o (l ++ [(pg, n)]) (by simp; omega)
  rw [topR_snoc] at ht
  repeat (first | refine Zq ?_ | refine Zs ?_ | refine ZT ?_ | refine ZF ?_ | refine Zc ?_ | refine XO_gU (hk := ?_))
  refine XO_call ht (hk := ?_)
  rintro _ _ ⟨rfl, rfl⟩
  repeat (first | refine Zq ?_ | refine Zs ?_ | refine ZT ?_ | refine ZF ?_ | refine Zc ?_ | refine XO_gU (hk := ?_))
  refine XO_dv (dv_alloc (row := [.int .i64 0, .int .i64 0])) (hk := ?_)
  rintro _ _ ⟨rb, rfl, rfl⟩
  refine XO_dv0 (dv_storeW (vs := [.int .i64 pg, .int .i64 n])) (hk := ?_)
  rintro _ _ rfl
  repeat (first | refine Zq ?_ | refine Zs ?_ | refine ZT ?_ | refine ZF ?_ | refine Zc ?_ | refine XO_gU (hk := ?_))
  refine X_cond rfl (fun h => by cases h) (fun _ => ?_)
  refine X_open (A := Pl p s k o (l ++ [(pg, n)])) (by (repeat (first | exact Find.here | apply Find.there))) Pl.open ?_
  rintro ⟨a, c⟩ -
  dsimp only [List.cons_append, List.nil_append]
  repeat (first | refine Zq ?_ | refine Zs ?_ | refine ZT ?_ | refine ZF ?_ | refine Zc ?_ | refine XO_gU (hk := ?_))
  repeat (first | refine XD_pick (h := ?_) | refine Dq ?_ | refine Ds ?_ | refine XDi_gF (h := ?_) | refine XDi_gU (h := ?_) | refine X_draws (h := ?_))
  refine XL_start 11 7 (fun b => pt b (.cells [.int .i64 0, .int .i64 0, .int .u64 0, .int .u64 0].toArray 267 (0, 0))) ?_
  refine XL_call (kspace_spec s sb C) ?_
  (rintro _ _ ⟨rfl, rfl⟩; refine ⟨by (repeat (first | exact keeps_nil | exact keeps_fnil | refine keeps_skip (h := ?_) | refine keeps_takeQ (h := ?_))), ?_⟩)
  (repeat (first | refine XL_pick ?_ | refine Lq ?_ | refine Ls ?_))
  refine XL_call (hread_ok sb hT hP) ?_
  (rintro _ _ ⟨rfl, rfl⟩; refine ⟨by (repeat (first | exact keeps_nil | exact keeps_fnil | refine keeps_skip (h := ?_) | refine keeps_takeQ (h := ?_))), ?_⟩)
  (repeat (first | refine XL_pick ?_ | refine Lq ?_ | refine Ls ?_))
  refine XL_end ?_
  intro xb
  repeat (first | refine XD_pick (h := ?_) | refine Dq ?_ | refine Ds ?_ | refine XDi_gF (h := ?_) | refine XDi_gU (h := ?_) | refine X_draws (h := ?_))
  refine XD_one (h := ?_)
  refine XDa_dvk0 (dv_storeW (vs := [.int .i64 n, .int .i64 k, .int .u64 o, .int .u64 (lastL 0 l)])) (K := _) (hk := ?_)
  (rintro _ _ rfl; refine ⟨by (repeat (first | exact keeps_nil | exact keeps_fnil | refine keeps_skip (h := ?_) | refine keeps_takeQ (h := ?_))), ?_⟩)
  repeat (first | refine XD_pick (h := ?_) | refine Dq ?_ | refine Ds ?_ | refine XDi_gF (h := ?_) | refine XDi_gU (h := ?_) | refine X_draws (h := ?_))
  (refine XD_one (h := ?_); refine XDa_dvA (dv_of_rv (rv_of_pv pv_assign)) (hk := ?_); rintro _ _ ⟨rfl, rfl⟩; refine ⟨by (repeat (first | exact keeps_nil | exact keeps_fnil | refine keeps_skip (h := ?_) | refine keeps_takeQ (h := ?_))), ?_⟩)
  (refine XD_end (h := ?_); repeat (first | refine Zq ?_ | refine Zs ?_ | refine ZT ?_ | refine ZF ?_ | refine Zc ?_ | refine XO_gU (hk := ?_)))
  refine X_cond rfl (fun h => by cases h) (fun _ => ?_)
  repeat (first | refine Zq ?_ | refine Zs ?_ | refine ZT ?_ | refine ZF ?_ | refine Zc ?_ | refine XO_gU (hk := ?_))
  repeat (first | refine XD_pick (h := ?_) | refine Dq ?_ | refine Ds ?_ | refine XDi_gF (h := ?_) | refine XDi_gU (h := ?_) | refine X_draws (h := ?_))
  have hpt := kput_ok s sb (m := hrM P m pg) (hd := ⟨n, k, o, lastL 0 l⟩) hT hP
  refine XD_one (h := ?_)
  refine XDa_dvA (dv_call hpt) (hk := ?_)
  (rintro _ _ ⟨_, ⟨rfl, rfl⟩, rfl⟩; refine ⟨by (repeat (first | exact keeps_nil | exact keeps_fnil | refine keeps_skip (h := ?_) | refine keeps_takeQ (h := ?_))), ?_⟩)
  repeat (first | refine XD_pick (h := ?_) | refine Dq ?_ | refine Ds ?_ | refine XDi_gF (h := ?_) | refine XDi_gU (h := ?_) | refine X_draws (h := ?_))
  (refine XD_one (h := ?_); refine XDa_dvA (dv_of_rv (rv_of_pv pv_assign)) (hk := ?_); rintro _ _ ⟨rfl, rfl⟩; refine ⟨by (repeat (first | exact keeps_nil | exact keeps_fnil | refine keeps_skip (h := ?_) | refine keeps_takeQ (h := ?_))), ?_⟩)
  (refine XD_end (h := ?_); repeat (first | refine Zq ?_ | refine Zs ?_ | refine ZT ?_ | refine ZF ?_ | refine Zc ?_ | refine XO_gU (hk := ?_)))
  refine X_cond rfl (fun h => by cases h) (fun _ => ?_)
  have hll : (l ++ [(pg, n)]).length = l.length + 1 := by simp
  refine X_fact (A := Sl eRun a c (l ++ [(pg, n)])) (by (repeat (first | exact Find.here | apply Find.there))) Sl.cap (fun hcap => ?_)
  repeat (first | refine Zq ?_ | refine Zs ?_ | refine ZT ?_ | refine ZF ?_ | refine Zc ?_ | refine XO_gU (hk := ?_))
  refine XO_pv pv_sliceHM (hk := ?_)
  repeat (first | refine Zq ?_ | refine Zs ?_ | refine ZT ?_ | refine ZF ?_ | refine Zc ?_ | refine XO_gU (hk := ?_))
  refine XO_dv0 dv_store (hk := ?_)
  rintro _ _ rfl
  repeat (first | refine Zq ?_ | refine Zs ?_ | refine ZT ?_ | refine ZF ?_ | refine Zc ?_ | refine XO_gU (hk := ?_))
  have e1 : (((l ++ [(pg, n)]).length : Int) - 1).toNat = l.length := by omega
  rw [e1]
  refine X_conv (fun _ => SL_take (E' := eRun) (a := a) (c := c) (xs := l ++ [(pg, n)]) l.length (by (repeat (first | exact Find.here | apply Find.there)))) ?_
  rw [List.take_left]
  refine X_conv (fun _ h => SL.head (Sl.less (E' := eRun) (c' := l.length) (by omega) (Nat.le_refl _)) h) ?_
  repeat (first | refine Zq ?_ | refine Zs ?_ | refine ZT ?_ | refine ZF ?_ | refine Zc ?_ | refine XO_gU (hk := ?_))
  repeat (first | refine XD_pick (h := ?_) | refine Dq ?_ | refine Ds ?_ | refine XDi_gF (h := ?_) | refine XDi_gU (h := ?_) | refine X_draws (h := ?_))
  (refine XD_one (h := ?_); refine XDa_dvA (dv_of_rv (rv_of_pv pv_assign)) (hk := ?_); rintro _ _ ⟨rfl, rfl⟩; refine ⟨by (repeat (first | exact keeps_nil | exact keeps_fnil | refine keeps_skip (h := ?_) | refine keeps_takeQ (h := ?_))), ?_⟩)
  (refine XD_one (h := ?_); refine XDa_dvA (dv_of_rv (rv_of_pv pv_assign)) (hk := ?_); rintro _ _ ⟨rfl, rfl⟩; refine ⟨by (repeat (first | exact keeps_nil | exact keeps_fnil | refine keeps_skip (h := ?_) | refine keeps_takeQ (h := ?_))), ?_⟩)
  (refine XD_one (h := ?_); refine XDa_dvA (dv_of_rv (rv_of_pv pv_assign)) (hk := ?_); rintro _ _ ⟨rfl, rfl⟩; refine ⟨by (repeat (first | exact keeps_nil | exact keeps_fnil | refine keeps_skip (h := ?_) | refine keeps_takeQ (h := ?_))), ?_⟩)
  (refine XD_end (h := ?_); repeat (first | refine Zq ?_ | refine Zs ?_ | refine ZT ?_ | refine ZF ?_ | refine Zc ?_ | refine XO_gU (hk := ?_)))
  refine XE_fold (by repeat (first | exact FindAll.nil | exact Find.here | apply Find.there | apply FindAll.cons)) (Pl.fold (p := p) (s := s) (k := k) (o := o) (rs := l) (a := a) (c := l.length)) ?_
  refine XE_ret (.inl rfl) (tells_tmps rfl rfl) ⟨_, ⟨rfl, rfl⟩, by ((try simp only [List.cons_append, List.nil_append]); repeat (first | exact ent_refl | refine ent_take (by repeat (first | exact Find.here | apply Find.there)) ?_ | refine ent_drop ?_))⟩
theorem pcut_ok (p s sb : Nat) {k o P : Int} {oth : List (Int × Hd)} (hP2 : P ≤ 1048576) : ∀ (r2 : List (Int × Int)) (rs : List (Int × Int)) (C : Co) (m : Mm), KInv C m.f (plH k o 0 (rs ++ r2) ++ oth) → C.P = P → (rs ++ r2).length ≤ 1048576 →
    KInv (r2.reverse.foldl putC C) (r2.reverse.foldl (fun m r => popM P m r.1) m).f (plH k o 0 rs ++ oth) ∧ (r2.reverse.foldl putC C).P = P := by
  intro r2
  induction r2 with
  | nil => intro rs C m hK hP _; rw [List.append_nil] at hK; exact ⟨hK, hP⟩
  | cons r r2 ih =>
    intro rs C m hK hP hl
    have e : rs ++ r :: r2 = (rs ++ [r]) ++ r2 := by simp
    rw [e] at hK hl
    obtain ⟨h1, h2⟩ := ih (rs ++ [r]) C m hK hP hl
    rw [List.reverse_cons, List.foldl_append, List.foldl_append]
    exact ppop_inv (pg := r.1) (n := r.2) h1 h2
end Go.Proofs.YtamecmklcnohjaaGreat.Sep
namespace Go.Proofs.YtamecmklcnohjaaGreat.Sep
open Go.RowKit
set_option linter.unusedSimpArgs false
set_option linter.unusedVariables false
/-! piles: cut, and walked -/
def cutC (C : Co) (l : List (Int × Int)) : Co := l.reverse.foldl putC C
def cutM (P : Int) (m : Mm) (l : List (Int × Int)) : Mm := l.reverse.foldl (fun m r => popM P m r.1) m
theorem cutC_cons (C : Co) (r : Int × Int) (l : List (Int × Int)) : cutC C (r :: l) = putC (cutC C l) r := by unfold cutC; rw [List.reverse_cons, List.foldl_append]; rfl
theorem cutM_cons (P : Int) (m : Mm) (r : Int × Int) (l : List (Int × Int)) : cutM P m (r :: l) = popM P (cutM P m l) r.1 := by unfold cutM; rw [List.reverse_cons, List.foldl_append]; rfl
theorem pcut_inv {k o P : Int} {oth : List (Int × Hd)} {rs : List (Int × Int)} {C : Co} {m : Mm} (hK : KInv C m.f (plH k o 0 rs ++ oth)) (hP : C.P = P) (hl : rs.length ≤ 1048576) (j : Nat) :
    KInv (cutC C (rs.drop j)) (cutM P m (rs.drop j)).f (plH k o 0 (rs.take j) ++ oth) ∧ (cutC C (rs.drop j)).P = P :=
  pcut_ok 0 0 0 (by have := hK.ci.ok.p2; omega) (rs.drop j) (rs.take j) C m (by rw [List.take_append_drop]; exact hK) hP (by rw [List.take_append_drop]; exact hl)
set_option maxHeartbeats 8000000
attribute [local irreducible] X XE XO XD XDi XDa PV RV DV pt base Spec Sl Mp Keeps Pg Kc Pgs Spc Ck XL XLi Pl
theorem pcut_spec (p s sb : Nat) {C : Co} {m : Mm} {P k o n : Int} {rs : List (Int × Int)} {oth : List (Int × Hd)} (hK : KInv C m.f (plH k o 0 rs ++ oth)) (hP : C.P = P) (hl : rs.length ≤ 1048576) (hn : 0 ≤ n) :
    Spec Tryz.prog 74 [.pointer (some ⟨p, 0, none⟩), .int .i64 n] [Pl p s k o rs, Ck s sb C, Spc sb P m]
      (fun v L => v = .int .i64 0 ∧ L = [Pl p s k o (rs.take n.toNat), Ck s sb (cutC C (rs.drop n.toNat)), Spc sb P (cutM P m (rs.drop n.toNat))]) := by
  refine Spec.intro (IsEnt.out) Tryz.func74 rfl Tryz.ntmps74 (by simp) (fun w0 F => ?_)
  simp only [envOf, List.zipIdx, List.map, List.cons_append, List.nil_append, Nat.zero_add, Nat.reduceAdd]
  repeat (first | refine Zq ?_ | refine Zs ?_ | refine ZT ?_ | refine ZF ?_ | refine Zc ?_ | refine XO_gU (hk := ?_))
  refine X_cond rfl (fun h => ?_) (fun _ => ?_)
  · simp only [decide_eq_true_eq] at h; omega
  repeat (first | refine Zq ?_ | refine Zs ?_ | refine ZT ?_ | refine ZF ?_ | refine Zc ?_ | refine XO_gU (hk := ?_))
  refine X_loop (ι := Nat) (fun j => j ≤ rs.length ∧ min n.toNat rs.length ≤ j) (fun j => [(0, .pointer (some ⟨p, 0, none⟩)), (1, .int .i64 n)])
    (fun j => Pl p s k o (rs.take j) :: Ck s sb (cutC C (rs.drop j)) :: Spc sb P (cutM P m (rs.drop j)) :: F) (fun j => j) rs.length ⟨Nat.le_refl _, Nat.min_le_right _ _⟩ ?_ (by rw [List.take_length, List.drop_length]; ((try simp only [List.cons_append, List.nil_append]); repeat (first | exact ent_refl | refine ent_take (by repeat (first | exact Find.here | apply Find.there)) ?_ | refine ent_drop ?_))) ?_
  · (repeat (first | exact Env.sub_nil _ | refine Env.sub_cons rfl ?_))
  rintro j ⟨hj, hm⟩
  dsimp only at hj hm ⊢
  obtain ⟨hK1, hP1⟩ := pcut_inv hK hP hl j
  repeat (first | refine Zq ?_ | refine Zs ?_ | refine ZT ?_ | refine ZF ?_ | refine Zc ?_ | refine XO_gU (hk := ?_))
  refine XO_call (plen_spec p s k o (rs.take j)) (hk := ?_)
  rintro _ _ ⟨rfl, rfl⟩
  have hjl : (rs.take j).length = j := by simp; omega
  repeat (first | refine Zq ?_ | refine Zs ?_ | refine ZT ?_ | refine ZF ?_ | refine Zc ?_ | refine XO_gU (hk := ?_))
  refine X_cond rfl (fun hc => ?_) (fun hc => ?_) <;> simp only [hjl, decide_eq_true_eq, decide_eq_false_iff_not] at hc
  · obtain ⟨i, rfl⟩ : ∃ i, j = i + 1 := ⟨j - 1, by omega⟩
    have hil : i < rs.length := by omega
    have e1 : rs.take (i + 1) = rs.take i ++ [rs[i]] := List.take_succ_eq_append_getElem hil
    have e2 : rs.drop i = rs[i] :: rs.drop (i + 1) := List.drop_eq_getElem_cons hil
    rw [e1] at hK1 ⊢
    have hp := ppop_ok p s sb (pg := rs[i].1) (n := rs[i].2) hK1 hP1 (by simp; omega)
    repeat (first | refine Zq ?_ | refine Zs ?_ | refine ZT ?_ | refine ZF ?_ | refine Zc ?_ | refine XO_gU (hk := ?_))
    refine XO_call hp (hk := ?_)
    rintro _ _ ⟨rfl, rfl⟩
    repeat (first | refine Zq ?_ | refine Zs ?_ | refine ZT ?_ | refine ZF ?_ | refine Zc ?_ | refine XO_gU (hk := ?_))
    refine X_cond rfl (fun h => by cases h) (fun _ => ?_)
    repeat (first | refine Zq ?_ | refine Zs ?_ | refine ZT ?_ | refine ZF ?_ | refine Zc ?_ | refine XO_gU (hk := ?_))
    exact X_round i ⟨by omega, by omega⟩ (by omega) (by (repeat (first | exact Env.sub_nil _ | refine Env.sub_cons rfl ?_))) (by rw [e2, cutC_cons, cutM_cons]; ((try simp only [List.cons_append, List.nil_append]); repeat (first | exact ent_refl | refine ent_take (by repeat (first | exact Find.here | apply Find.there)) ?_ | refine ent_drop ?_)))
  · have e3 : rs.take j = rs.take n.toNat ∧ rs.drop j = rs.drop n.toNat := by
      by_cases h1 : n.toNat ≤ rs.length
      · obtain rfl : j = n.toNat := by omega
        exact ⟨rfl, rfl⟩
      · obtain rfl : j = rs.length := by omega
        exact ⟨by rw [List.take_length, List.take_of_length_le (by omega)], by rw [List.drop_length, List.drop_of_length_le (by omega)]⟩
    rw [e3.1, e3.2]
    repeat (first | refine Zq ?_ | refine Zs ?_ | refine ZT ?_ | refine ZF ?_ | refine Zc ?_ | refine XO_gU (hk := ?_))
    refine XE_ret (.inl rfl) (tells_tmps rfl rfl) ⟨_, ⟨rfl, rfl⟩, by ((try simp only [List.cons_append, List.nil_append]); repeat (first | exact ent_refl | refine ent_take (by repeat (first | exact Find.here | apply Find.there)) ?_ | refine ent_drop ?_))⟩
theorem pcut_neg (p : Nat) {n : Int} (hn : n < 0) : Spec Tryz.prog 74 [.pointer (some ⟨p, 0, none⟩), .int .i64 n] [] (fun v L => v = .int .i64 1 ∧ L = []) := by
  refine Spec.intro (IsEnt.out) Tryz.func74 rfl Tryz.ntmps74 (by simp) (fun w0 F => ?_)
  simp only [envOf, List.zipIdx, List.map, List.cons_append, List.nil_append, Nat.zero_add, Nat.reduceAdd]
  repeat (first | refine Zq ?_ | refine Zs ?_ | refine ZT ?_ | refine ZF ?_ | refine Zc ?_ | refine XO_gU (hk := ?_))
  refine X_cond rfl (fun _ => ?_) (fun h => ?_)
  · repeat (first | refine Zq ?_ | refine Zs ?_ | refine ZT ?_ | refine ZF ?_ | refine Zc ?_ | refine XO_gU (hk := ?_))
    refine XE_ret (.inl rfl) (tells_tmps rfl rfl) ⟨_, ⟨rfl, rfl⟩, by ((try simp only [List.cons_append, List.nil_append]); repeat (first | exact ent_refl | refine ent_take (by repeat (first | exact Find.here | apply Find.there)) ?_ | refine ent_drop ?_))⟩
  · simp only [decide_eq_false_iff_not] at h; omega
/-- What is touched by a walk. -/
def walkM (P : Int) (m : Mm) (l : List (Int × Int)) : Mm := l.reverse.foldl (fun m r => hrM P m r.1) m
theorem walkM_f (P : Int) (l : List (Int × Int)) (m : Mm) : (walkM P m l).f = m.f := by
  unfold walkM
  generalize l.reverse = r
  induction r generalizing m with
  | nil => rfl
  | cons q r ih => exact ih (hrM P m q.1)
theorem walkM_cons (P : Int) (m : Mm) (r : Int × Int) (l : List (Int × Int)) : walkM P m (r :: l) = hrM P (walkM P m l) r.1 := by unfold walkM; rw [List.reverse_cons, List.foldl_append]; rfl
theorem pwalk_spec (p s sb : Nat) {C : Co} {m : Mm} {P k o : Int} {rs : List (Int × Int)} {oth : List (Int × Hd)} (hK : KInv C m.f (plH k o 0 rs ++ oth)) (hP : C.P = P) (hl : rs.length ≤ 1048576) :
    Spec Tryz.prog 157 [.pointer (some ⟨p, 0, none⟩)] [Pl p s k o rs, Ck s sb C, Spc sb P m]
      (fun v L => ∃ a c, v = .tuple #[.slice a rs.reverse.length c, .int .i64 0] ∧ L = [Sl eRun a c rs.reverse, Pl p s k o rs, Ck s sb C, Spc sb P (walkM P m rs)]) := by
  refine Spec.intro (IsEnt.out) Tryz.func157 rfl Tryz.ntmps157 (by simp) (fun w0 F => ?_)
  simp only [envOf, List.zipIdx, List.map, List.cons_append, List.nil_append, Nat.zero_add, Nat.reduceAdd]
  have hbd := pl_bd2 hK
  repeat (first | refine Zq ?_ | refine Zs ?_ | refine ZT ?_ | refine ZF ?_ | refine Zc ?_ | refine XO_gU (hk := ?_))
  refine X_cond rfl (fun h => by cases h) (fun _ => ?_)
  repeat (first | refine Zq ?_ | refine Zs ?_ | refine ZT ?_ | refine ZF ?_ | refine Zc ?_ | refine XO_gU (hk := ?_))
  refine XO_call (plink_spec p s k o rs (by omega) hbd) (hk := ?_)
  rintro _ _ ⟨rfl, rfl⟩
  repeat (first | refine Zq ?_ | refine Zs ?_ | refine ZT ?_ | refine ZF ?_ | refine Zc ?_ | refine XO_gU (hk := ?_))
  refine X_conv (fun _ h => SL_nilSl eRun h) ?_
  refine X_loop (ι := Nat × Option Addr × Nat) (fun q => q.1 ≤ rs.length) (fun q => [(0, .pointer (some ⟨p, 0, none⟩)), (4, .slice q.2.1 (rs.drop q.1).reverse.length q.2.2), (5, .int .u64 (lastL 0 (rs.take q.1)))])
    (fun q => Sl eRun q.2.1 q.2.2 (rs.drop q.1).reverse :: Pl p s k o rs :: Ck s sb C :: Spc sb P (walkM P m (rs.drop q.1)) :: F) (fun q => q.1) (rs.length, none, 0) (Nat.le_refl _) ?_ (by dsimp only; rw [List.drop_length]; ((try simp only [List.cons_append, List.nil_append]); repeat (first | exact ent_refl | refine ent_take (by repeat (first | exact Find.here | apply Find.there)) ?_ | refine ent_drop ?_))) ?_
  · dsimp only
    rw [List.drop_length, List.take_length]
    (repeat (first | exact Env.sub_nil _ | refine Env.sub_cons rfl ?_))
  rintro ⟨j, a, c⟩ hj
  dsimp only at hj ⊢
  have hdl : (rs.drop j).reverse.length = rs.length - j := by simp
  have hKw : KInv C (walkM P m (rs.drop j)).f (plH k o 0 rs ++ oth) := by rw [walkM_f]; exact hK
  cases j with
  | zero =>
    repeat (first | refine Zq ?_ | refine Zs ?_ | refine ZT ?_ | refine ZF ?_ | refine Zc ?_ | refine XO_gU (hk := ?_))
    refine X_cond rfl (fun h => by cases h) (fun _ => ?_)
    repeat (first | refine Zq ?_ | refine Zs ?_ | refine ZT ?_ | refine ZF ?_ | refine Zc ?_ | refine XO_gU (hk := ?_))
    refine XE_ret (.inl rfl) (tells_tmps rfl rfl) ⟨_, ⟨a, c, rfl, rfl⟩, ?_⟩
    ((try simp only [List.cons_append, List.nil_append]); repeat (first | exact ent_refl | refine ent_take (by repeat (first | exact Find.here | apply Find.there)) ?_ | refine ent_drop ?_))
  | succ i =>
    have hil : i < rs.length := by omega
    have e1 : rs.take (i + 1) = rs.take i ++ [rs[i]] := List.take_succ_eq_append_getElem hil
    have e2 : rs.drop i = rs[i] :: rs.drop (i + 1) := List.drop_eq_getElem_cons hil
    have hr := hbd rs[i] (List.getElem_mem hil)
    have hsp : rs = rs.take i ++ [rs[i]] ++ rs.drop (i + 1) := by rw [List.append_assoc, List.singleton_append, ← e2, List.take_append_drop]
    have hP3 : lastL 0 (rs.take (i + 1)) = rs[i].1 + 1 := by rw [e1]; exact lastL_snoc _ _ _ _
    have hKi : KInv C (walkM P m (rs.drop (i + 1))).f (plH k o 0 (rs.take i) ++ (rs[i].1, (⟨rs[i].2, k, o, lastL 0 (rs.take i)⟩ : Hd)) :: (plH k o (rs[i].1 + 1) (rs.drop (i + 1)) ++ oth)) := by
      refine hKw.perm (List.Perm.of_eq ?_)
      have happ : ∀ (l1 l2 : List (Int × Int)) (nx : Int), plH k o nx (l1 ++ l2) = plH k o nx l1 ++ plH k o (lastL nx l1) l2 := by
        intro l1
        induction l1 with
        | nil => intro l2 nx; rfl
        | cons q l1 ih => intro l2 nx; obtain ⟨q1, q2⟩ := q; show (q1, _) :: plH k o (q1 + 1) (l1 ++ l2) = _; rw [ih]; rfl
      have e4 : rs = rs.take i ++ rs[i] :: rs.drop (i + 1) := by rw [← e2, List.take_append_drop]
      have e5 : plH k o 0 rs = plH k o 0 (rs.take i) ++ plH k o (lastL 0 (rs.take i)) (rs[i] :: rs.drop (i + 1)) := by
        have := happ (rs.take i) (rs[i] :: rs.drop (i + 1)) 0
        rw [← e4] at this; exact this
      rw [e5, List.append_assoc]; rfl
    rw [hP3]
    repeat (first | refine Zq ?_ | refine Zs ?_ | refine ZT ?_ | refine ZF ?_ | refine Zc ?_ | refine XO_gU (hk := ?_))
    refine XO_known true (hb := by simp; omega) (hk := ?_)
    repeat (first | refine Zq ?_ | refine Zs ?_ | refine ZT ?_ | refine ZF ?_ | refine Zc ?_ | refine XO_gU (hk := ?_))
    refine XO_call (plen_spec p s k o rs) (hk := ?_)
    rintro _ _ ⟨rfl, rfl⟩
    repeat (first | refine Zq ?_ | refine Zs ?_ | refine ZT ?_ | refine ZF ?_ | refine Zc ?_ | refine XO_gU (hk := ?_))
    refine X_cond rfl (fun _ => ?_) (fun h => ?_)
    case refine_2 =>
      exfalso
      simp only [hdl, decide_eq_false_iff_not] at h
      omega
    refine X_open (A := Pl p s k o rs) (by (repeat (first | exact Find.here | apply Find.there))) Pl.open ?_
    rintro ⟨a2, c2⟩ -
    dsimp only [List.cons_append, List.nil_append]
    repeat (first | refine Zq ?_ | refine Zs ?_ | refine ZT ?_ | refine ZF ?_ | refine Zc ?_ | refine XO_gU (hk := ?_))
    refine XO_call (kspace_spec s sb C) (hk := ?_)
    rintro _ _ ⟨rfl, rfl⟩
    repeat (first | refine Zq ?_ | refine Zs ?_ | refine ZT ?_ | refine ZF ?_ | refine Zc ?_ | refine XO_gU (hk := ?_))
    refine XO_reval 31 (.int .i64 rs[i].1) (hv := congrArg (Value.int .i64) (by omega)) (hk := ?_)
    refine XO_reval 6 (.int .i64 rs[i].1) (hv := congrArg (Value.int .i64) (by omega)) (hk := ?_)
    refine XO_call (hread_ok sb hKi hP) (hk := ?_)
    rintro _ _ ⟨rfl, rfl⟩
    repeat (first | refine Zq ?_ | refine Zs ?_ | refine ZT ?_ | refine ZF ?_ | refine Zc ?_ | refine XO_gU (hk := ?_))
    refine XO_dv (dv_alloc (row := [.int .i64 0, .int .i64 0, .int .u64 0, .int .u64 0])) (hk := ?_)
    rintro _ _ ⟨xb, rfl, rfl⟩
    refine XO_dv0 (dv_storeW (vs := [.int .i64 rs[i].2, .int .i64 k, .int .u64 o, .int .u64 (lastL 0 (rs.take i))])) (hk := ?_)
    rintro _ _ rfl
    repeat (first | refine Zq ?_ | refine Zs ?_ | refine ZT ?_ | refine ZF ?_ | refine Zc ?_ | refine XO_gU (hk := ?_))
    refine X_cond rfl (fun h => by cases h) (fun _ => ?_)
    repeat (first | refine Zq ?_ | refine Zs ?_ | refine ZT ?_ | refine ZF ?_ | refine Zc ?_ | refine XO_gU (hk := ?_))
    refine XO_lit (E' := eRun) [(rs[i].1, rs[i].2)] (hk := ?_)
    intro lb
    repeat (first | refine Zq ?_ | refine Zs ?_ | refine ZT ?_ | refine ZF ?_ | refine Zc ?_ | refine XO_gU (hk := ?_))
    refine XO_dv (dv_append (E' := eRun) (xs := (rs.drop (i + 1)).reverse) (ys := [(rs[i].1, rs[i].2)]) (hv := Sl.view) (hb := by simp; omega)) (hk := ?_)
    rintro _ _ ⟨a3, c3, rfl, rfl⟩
    repeat (first | refine Zq ?_ | refine Zs ?_ | refine ZT ?_ | refine ZF ?_ | refine Zc ?_ | refine XO_gU (hk := ?_))
    have e6 : (rs.drop (i + 1)).reverse ++ [(rs[i].1, rs[i].2)] = (rs.drop i).reverse := by rw [e2, List.reverse_cons]
    rw [e6]
    refine XE_fold (by repeat (first | exact FindAll.nil | exact Find.here | apply Find.there | apply FindAll.cons)) (Pl.fold (p := p) (s := s) (k := k) (o := o) (rs := rs) (a := a2) (c := c2)) ?_
    exact X_round (i, a3, c3) (by show i ≤ rs.length; omega) (by show i < i + 1; omega) (by (repeat (first | exact Env.sub_nil _ | refine Env.sub_cons rfl ?_))) (by dsimp only; rw [show walkM P m (rs.drop i) = hrM P (walkM P m (rs.drop (i + 1))) rs[i].1 from by rw [e2, walkM_cons]]; ((try simp only [List.cons_append, List.nil_append]); repeat (first | exact ent_refl | refine ent_take (by repeat (first | exact Find.here | apply Find.there)) ?_ | refine ent_drop ?_)))
end Go.Proofs.YtamecmklcnohjaaGreat.Sep
namespace Go.Proofs.YtamecmklcnohjaaGreat.Sep
open Go.RowKit
set_option linter.unusedSimpArgs false
set_option linter.unusedVariables false
/-! regions, plain: their chunks, what an act does to them -/
/-- Bytes that may not be made. -/
abbrev badA (size align : Int) : Prop := size = 0 ∨ (needI 1 align).isSome = false
theorem need1_iff {align : Int} (h2 : 0 ≤ align) (h3 : align ≤ 18446744073709551615) : (needI 1 align).isSome = (powB align && decide (align ≤ 4096)) := by
  unfold needI
  by_cases h : 4096 < align
  · rw [if_pos (.inr h), decide_eq_false (by omega), Bool.and_false]; rfl
  · rw [if_neg (by omega), decide_eq_true (by omega), Bool.and_true]
    unfold upI
    cases hp : powB align with
    | false => rfl
    | true =>
      rw [if_pos rfl]
      have hpos : 0 < align := by
        rcases (powB_iff h2).1 hp with ⟨k, rfl⟩
        have : 0 < 2 ^ k := Nat.pow_pos (by decide)
        omega
      have := Int.emod_nonneg (-32) (show align ≠ 0 by omega)
      have := Int.emod_lt_of_pos (-32) hpos
      unfold addI
      rw [if_pos (by omega)]
      simp only [Option.bind_some]
      rw [if_pos (by omega)]
      rfl
theorem pow_dvd {align : Int} (h2 : 0 ≤ align) (hp : powB align = true) (h : align ≤ 4096) : 0 < align ∧ (4096 : Int) % align = 0 := by
  rcases (powB_iff h2).1 hp with ⟨k, rfl⟩
  have h1 : 0 < 2 ^ k := Nat.pow_pos (by decide)
  refine ⟨by omega, ?_⟩
  have hk : k ≤ 12 := by
    by_cases hk : k ≤ 12
    · exact hk
    · have : 2 ^ 13 ≤ 2 ^ k := Nat.pow_le_pow_right (by decide) (by omega)
      omega
  have h2 : 4096 % (2 ^ k) = 0 := Nat.mod_eq_zero_of_dvd (show 2 ^ k ∣ 2 ^ 12 from Nat.pow_dvd_pow 2 hk)
  generalize 2 ^ k = z at h2
  have h3 : ((4096 % z : Nat) : Int) = ((4096 : Nat) : Int) % (z : Int) := Int.natCast_emod _ _
  rw [h2] at h3
  exact h3.symm
theorem good_al {size align : Int} (h2 : 0 ≤ align) (h3 : align ≤ 18446744073709551615) (hb : ¬ badA size align) : size ≠ 0 ∧ powB align = true ∧ 0 < align ∧ align ≤ 4096 ∧ (4096 : Int) % align = 0 := by
  unfold badA at hb
  rw [not_or, need1_iff h2 h3] at hb
  obtain ⟨b1, b2⟩ := hb
  have b3 : powB align = true ∧ align ≤ 4096 := by
    cases hp : powB align with
    | false => rw [hp] at b2; simp at b2
    | true => rw [hp] at b2; simp at b2; exact ⟨rfl, b2⟩
  obtain ⟨b4, b5⟩ := pow_dvd h2 b3.1 b3.2
  exact ⟨b1, b3.1, b4, b3.2, b5⟩
/-- What a cursor makes. -/
theorem fit_some {at_ en size align : Int} {q : Int × Int × Int} (h0 : 0 ≤ at_) (h2 : 0 < align) (hs : 0 ≤ size) (h : fitI at_ en size align = some q) :
    q.1 = at_ + (-at_) % align ∧ q.2.1 = q.1 + size ∧ q.2.2 = (-at_) % align ∧ at_ ≤ q.1 ∧ q.1 % align = 0 ∧ q.2.1 ≤ en ∧ 0 ≤ (-at_) % align ∧ (-at_) % align < align := by
  unfold fitI at h
  cases hu : upI at_ align with
  | none => rw [hu] at h; cases h
  | some s =>
    rw [hu, Option.bind_some] at h
    cases ha : addI s size with
    | none => rw [ha] at h; cases h
    | some e2 =>
      rw [ha, Option.bind_some] at h
      split at h
      · cases h
      · rename_i hc
        cases h
        obtain ⟨u1, u2, u3, u4, u5⟩ := upI_le h0 (by omega) hu
        obtain ⟨a1, a2⟩ := add_le ha
        have e1 := Int.emod_nonneg (-at_) (show align ≠ 0 by omega)
        have e2 := Int.emod_lt_of_pos (-at_) h2
        refine ⟨u5, a1, by dsimp only; omega, u1, ?_, by dsimp only; omega, e1, e2⟩
        dsimp only
        rw [u5, Int.add_emod, Int.emod_emod, ← Int.add_emod, Int.add_right_neg, Int.zero_emod]
theorem fit_make {at_ en size align : Int} (h0 : 0 ≤ at_) (h2 : 0 < align) (hp : powB align = true) (hs : size ≠ 0) (hs0 : 0 ≤ size) (h : at_ + (-at_) % align + size ≤ en) (he : en < 18446744073709551616) :
    fitI at_ en size align = some (at_ + (-at_) % align, at_ + (-at_) % align + size, (-at_) % align) := by
  have e1 := Int.emod_nonneg (-at_) (show align ≠ 0 by omega)
  have hu : upI at_ align = some (at_ + (-at_) % align) := by
    unfold upI addI; rw [if_pos hp, if_pos (by omega)]
  have ha : addI (at_ + (-at_) % align) size = some (at_ + (-at_) % align + size) := by unfold addI; rw [if_pos (by omega)]
  unfold fitI
  rw [hu, Option.bind_some, ha, Option.bind_some, if_neg (by omega)]
  congr 2
  congr 1
  omega
theorem page_mod {align pg : Int} (h : (4096 : Int) % align = 0) (c : Int) : (-(pg * 4096 + c)) % align = (-c) % align := by
  have hd : align ∣ 4096 := Int.dvd_of_emod_eq_zero h
  have h1 : align ∣ pg * 4096 := Int.dvd_mul_of_dvd_right hd
  have : -(pg * 4096 + c) = -c - pg * 4096 := by omega
  rw [this, Int.sub_emod, Int.emod_eq_zero_of_dvd h1, Int.sub_zero, Int.emod_emod]
theorem ofI_run {P pg n : Int} (hP : P ≤ 1048576) (h : RunOk P (pg, n)) : ofI pg n = (pg * 4096 + 32, (pg + n) * 4096) := by
  unfold RunOk at h
  simp only at h
  unfold ofI
  rw [if_pos (by omega)]
theorem cls_bd {p : Int} (h1 : 1 ≤ p) (h2 : p ≤ 64) : cpages (cclass p) ≤ 64 ∧ p ≤ cpages (cclass p) := by
  have hc : (p ≤ 1 ∧ cclass p = 0) ∨ (p ≤ 2 ∧ 2 ≤ p ∧ cclass p = 1) ∨ (p ≤ 4 ∧ 3 ≤ p ∧ cclass p = 2) ∨ (p ≤ 8 ∧ 5 ≤ p ∧ cclass p = 3) ∨ (p ≤ 16 ∧ 9 ≤ p ∧ cclass p = 4) ∨ (p ≤ 32 ∧ 17 ≤ p ∧ cclass p = 5) ∨ (p ≤ 64 ∧ 33 ≤ p ∧ cclass p = 6) := by
    unfold cclass
    repeat' split
    all_goals omega
  rcases hc with ⟨a, b⟩ | ⟨a, a', b⟩ | ⟨a, a', b⟩ | ⟨a, a', b⟩ | ⟨a, a', b⟩ | ⟨a, a', b⟩ | ⟨a, a', b⟩ <;> rw [b]
  · exact ⟨by decide, a⟩
  · exact ⟨by decide, a⟩
  · exact ⟨by decide, a⟩
  · exact ⟨by decide, a⟩
  · exact ⟨by decide, a⟩
  · exact ⟨by decide, a⟩
  · exact ⟨by decide, a⟩
/-- A chunk that is made for bytes has room for them. -/
theorem chunk_fit {P size align n pg : Int} {big : Bool} (h0 : 0 ≤ size) (h2 : 0 ≤ align) (h3 : align ≤ 18446744073709551615) (hb : ¬ badA size align) (hc : chunkI size align = (n, big, true)) (hP : P ≤ 1048576) (hr : RunOk P (pg, n)) :
    fitI (ofI pg n).1 (ofI pg n).2 size align = some (pg * 4096 + 32 + (-32) % align, pg * 4096 + 32 + (-32) % align + size, (-32) % align) ∧ 0 ≤ (-32) % align ∧ (-32) % align < align ∧
      (if big = true then 64 < n ∧ n = (32 + (-32) % align + size + 4095) / 4096 else n ≤ 64 ∧ (32 + (-32) % align + size + 4095) / 4096 ≤ n) := by
  obtain ⟨g1, g2, g3, g4, g5⟩ := good_al h2 h3 hb
  have e1 := Int.emod_nonneg (-32) (show align ≠ 0 by omega)
  have e2 := Int.emod_lt_of_pos (-32) g3
  have hc0 := hc
  obtain ⟨c1, c2, c3⟩ := chunk_n h0 h2 hc
  unfold chunkI at hc
  cases hn : needI size align with
  | none => rw [hn] at hc; cases hc
  | some k =>
    have hk0 := need_le h0 h2 hn
    have hk : k = (32 + (-32) % align + size + 4095) / 4096 := by
      unfold needI at hn
      rw [if_neg (by omega)] at hn
      have hu : upI 32 align = some (32 + (-32) % align) := by unfold upI addI; rw [if_pos g2, if_pos (by omega)]
      rw [hu, Option.bind_some] at hn
      cases ha : addI (32 + (-32) % align) size with
      | none => rw [ha] at hn; cases hn
      | some s =>
        rw [ha] at hn
        have := (add_le ha).1
        cases hn
        rw [this]
    rw [hn] at hc
    simp only at hc
    have hbn : (if big = true then 64 < n ∧ n = k else n ≤ 64 ∧ k ≤ n) := by
      split at hc
      · cases hc
      · split at hc
        · rename_i h5 h6
          cases hc
          exact ⟨h6, rfl⟩
        · rename_i h5 h6
          cases hc
          exact cls_bd (by omega) (by omega)
    have hkn : k ≤ n := by
      cases big
      · exact hbn.2
      · have := hbn.2; omega
    have hr' := hr
    unfold RunOk at hr'
    simp only at hr'
    refine ⟨?_, e1, e2, by rw [← hk]; exact hbn⟩
    rw [ofI_run hP hr]
    have hm := page_mod g5 32 (pg := pg)
    have := fit_make (at_ := pg * 4096 + 32) (en := (pg + n) * 4096) (size := size) (align := align) (by omega) g3 g2 g1 h0 (by rw [hm]; omega) (by omega)
    rw [this, hm]
end Go.Proofs.YtamecmklcnohjaaGreat.Sep
