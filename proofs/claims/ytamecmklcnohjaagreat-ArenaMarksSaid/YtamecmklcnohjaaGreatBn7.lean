import Derived.Test.YtamecmklcnohjaaGreatBn6
import Derived.Test.YtamecmklcnohjaaGreatBn3
import Derived.Test.YtamecmklcnohjaaGreatBn4
/- What the laws share: a separation logic over the model, and what the program's functions do, by it. Part 7 of 15: RunsD Free Pagerun ClassA Cache CacheB CoDef. -/
namespace Go.Proofs.YtamecmklcnohjaaGreat.Sep
open Go.RowKit
set_option linter.unusedSimpArgs false
set_option linter.unusedVariables false
set_option maxHeartbeats 8000000
attribute [local irreducible] X XE XO XD XDi XDa PV RV DV pt base Spec Sl Mp Keeps

/-- A run is put together with those that it meets. -/
def mergeI : Int × Int → List (Int × Int) → (Int × Int) × List (Int × Int)
  | r, [] => (r, [])
  | r, x :: xs => if x.1 ≤ r.1 + r.2 then mergeI (min x.1 r.1, x.2 + r.2) xs else (r, x :: xs)
def giveL (xs : List (Int × Int)) (page n : Int) : List (Int × Int) :=
  xs.take (afterI xs page) ++ (mergeI (page, n) (xs.drop (afterI xs page))).1 :: (mergeI (page, n) (xs.drop (afterI xs page))).2
def giveI (xs : List (Int × Int)) (pages page n : Int) : Option (List (Int × Int)) :=
  if page < 0 ∨ n < 1 ∨ pages < n ∨ pages - n < page ∨ xs.any (hasB page n) = true then none else some (giveL xs page n)
def giveV (A : HP) : Option (List (Int × Int)) → Value → List HP → Prop
  | none, v, L => v = .tuple #[.slice none 0 0, .bool false] ∧ L = [A]
  | some ys, v, L => ∃ a c, v = .tuple #[.slice a ys.length c, .bool true] ∧ L = [A, Sl eRun a c ys]
theorem give_spec (A : HP) (a : Option Addr) (c : Nat) (xs : List (Int × Int)) (pages page n : Int) (hV : View A eRun a xs) (hc : xs.length ≤ c) (hl : xs.length ≤ 1048576) (hB : Bd xs) (p0 : 0 ≤ pages) (p1 : pages ≤ 1048576) (n0 : -9223372036854775808 ≤ n) (n1 : n ≤ 9223372036854775807) (q0 : -9223372036854775808 ≤ page) (q1 : page ≤ 9223372036854775807) :
    Spec Tryz.prog 132 [.slice a xs.length c, .int .i64 pages, .int .i64 page, .int .i64 n] [A] (giveV A (giveI xs pages page n)) := by
  refine Spec.intro (IsEnt.out) Tryz.func132 rfl Tryz.ntmps132 (by simp) (fun w0 F => ?_)
  simp only [envOf, List.zipIdx, List.map, List.cons_append, List.nil_append, Nat.zero_add, Nat.reduceAdd]
  repeat (first | refine Zq ?_ | refine Zs ?_ | refine ZT ?_ | refine ZF ?_ | refine Zc ?_ | refine XO_gU (hk := ?_))
  by_cases hbad : page < 0 ∨ n < 1 ∨ pages < n ∨ pages - n < page
  · have hg : giveI xs pages page n = none := by
      unfold giveI
      rw [if_pos]
      rcases hbad with h | h | h | h
      · exact .inl h
      · exact .inr (.inl h)
      · exact .inr (.inr (.inl h))
      · exact .inr (.inr (.inr (.inl h)))
    rw [hg]
    refine XO_either (hT := fun h => ?_) (hF := fun h => ?_) <;> simp only [decide_eq_true_eq, decide_eq_false_iff_not] at h
    · repeat (first | refine Zq ?_ | refine Zs ?_ | refine ZT ?_ | refine ZF ?_ | refine Zc ?_ | refine XO_gU (hk := ?_))
      refine X_cond rfl (fun _ => ?_) (fun h => by cases h)
      repeat (first | refine Zq ?_ | refine Zs ?_ | refine ZT ?_ | refine ZF ?_ | refine Zc ?_ | refine XO_gU (hk := ?_))
      refine XE_ret (.inl rfl) (tells_tmps rfl rfl) ⟨_, ⟨rfl, rfl⟩, by ((try simp only [List.cons_append, List.nil_append]); repeat (first | exact ent_refl | refine ent_take (by repeat (first | exact Find.here | apply Find.there)) ?_ | refine ent_drop ?_))⟩
    repeat (first | refine Zq ?_ | refine Zs ?_ | refine ZT ?_ | refine ZF ?_ | refine Zc ?_ | refine XO_gU (hk := ?_))
    refine XO_either (hT := fun h => ?_) (hF := fun h => ?_) <;> simp only [decide_eq_true_eq, decide_eq_false_iff_not] at h
    · repeat (first | refine Zq ?_ | refine Zs ?_ | refine ZT ?_ | refine ZF ?_ | refine Zc ?_ | refine XO_gU (hk := ?_))
      refine X_cond rfl (fun _ => ?_) (fun h => by cases h)
      repeat (first | refine Zq ?_ | refine Zs ?_ | refine ZT ?_ | refine ZF ?_ | refine Zc ?_ | refine XO_gU (hk := ?_))
      refine XE_ret (.inl rfl) (tells_tmps rfl rfl) ⟨_, ⟨rfl, rfl⟩, by ((try simp only [List.cons_append, List.nil_append]); repeat (first | exact ent_refl | refine ent_take (by repeat (first | exact Find.here | apply Find.there)) ?_ | refine ent_drop ?_))⟩
    repeat (first | refine Zq ?_ | refine Zs ?_ | refine ZT ?_ | refine ZF ?_ | refine Zc ?_ | refine XO_gU (hk := ?_))
    refine XO_either (hT := fun h => ?_) (hF := fun h => ?_) <;> simp only [decide_eq_true_eq, decide_eq_false_iff_not] at h
    · repeat (first | refine Zq ?_ | refine Zs ?_ | refine ZT ?_ | refine ZF ?_ | refine Zc ?_ | refine XO_gU (hk := ?_))
      refine X_cond rfl (fun _ => ?_) (fun h => by cases h)
      repeat (first | refine Zq ?_ | refine Zs ?_ | refine ZT ?_ | refine ZF ?_ | refine Zc ?_ | refine XO_gU (hk := ?_))
      refine XE_ret (.inl rfl) (tells_tmps rfl rfl) ⟨_, ⟨rfl, rfl⟩, by ((try simp only [List.cons_append, List.nil_append]); repeat (first | exact ent_refl | refine ent_take (by repeat (first | exact Find.here | apply Find.there)) ?_ | refine ent_drop ?_))⟩
    repeat (first | refine Zq ?_ | refine Zs ?_ | refine ZT ?_ | refine ZF ?_ | refine Zc ?_ | refine XO_gU (hk := ?_))
    refine XO_known true (hb := decide_eq_true (by omega)) (hk := ?_)
    repeat (first | refine Zq ?_ | refine Zs ?_ | refine ZT ?_ | refine ZF ?_ | refine Zc ?_ | refine XO_gU (hk := ?_))
    refine X_cond rfl (fun _ => ?_) (fun h => by cases h)
    repeat (first | refine Zq ?_ | refine Zs ?_ | refine ZT ?_ | refine ZF ?_ | refine Zc ?_ | refine XO_gU (hk := ?_))
    refine XE_ret (.inl rfl) (tells_tmps rfl rfl) ⟨_, ⟨rfl, rfl⟩, by ((try simp only [List.cons_append, List.nil_append]); repeat (first | exact ent_refl | refine ent_take (by repeat (first | exact Find.here | apply Find.there)) ?_ | refine ent_drop ?_))⟩
  refine XO_known false (hb := decide_eq_false (by omega)) (hk := ?_)
  repeat (first | refine Zq ?_ | refine Zs ?_ | refine ZT ?_ | refine ZF ?_ | refine Zc ?_ | refine XO_gU (hk := ?_))
  refine XO_known false (hb := decide_eq_false (by omega)) (hk := ?_)
  repeat (first | refine Zq ?_ | refine Zs ?_ | refine ZT ?_ | refine ZF ?_ | refine Zc ?_ | refine XO_gU (hk := ?_))
  refine XO_known false (hb := decide_eq_false (by omega)) (hk := ?_)
  repeat (first | refine Zq ?_ | refine Zs ?_ | refine ZT ?_ | refine ZF ?_ | refine Zc ?_ | refine XO_gU (hk := ?_))
  refine XO_known false (hb := decide_eq_false (by omega)) (hk := ?_)
  repeat (first | refine Zq ?_ | refine Zs ?_ | refine ZT ?_ | refine ZF ?_ | refine Zc ?_ | refine XO_gU (hk := ?_))
  refine XO_call (has_spec A a c xs page n hV (by omega) (by omega) (by omega) hB) (hk := ?_)
  rintro _ _ ⟨rfl, rfl⟩
  repeat (first | refine Zq ?_ | refine Zs ?_ | refine ZT ?_ | refine ZF ?_ | refine Zc ?_ | refine XO_gU (hk := ?_))
  refine X_cond rfl (fun h => ?_) (fun h => ?_)
  · have hg : giveI xs pages page n = none := by
      unfold giveI
      rw [if_pos (.inr (.inr (.inr (.inr h))))]
    rw [hg]
    repeat (first | refine Zq ?_ | refine Zs ?_ | refine ZT ?_ | refine ZF ?_ | refine Zc ?_ | refine XO_gU (hk := ?_))
    refine XE_ret (.inl rfl) (tells_tmps rfl rfl) ⟨_, ⟨rfl, rfl⟩, by ((try simp only [List.cons_append, List.nil_append]); repeat (first | exact ent_refl | refine ent_take (by repeat (first | exact Find.here | apply Find.there)) ?_ | refine ent_drop ?_))⟩
  have hg : giveI xs pages page n = some (giveL xs page n) := by
    unfold giveI
    rw [if_neg]
    rintro (h' | h' | h' | h' | h') <;> first | omega | (rw [h] at h'; cases h')
  rw [hg]
  have hai : afterI xs page ≤ xs.length := List.findIdx_le_length
  repeat (first | refine Zq ?_ | refine Zs ?_ | refine ZT ?_ | refine ZF ?_ | refine Zc ?_ | refine XO_gU (hk := ?_))
  refine XO_call (after_spec A a c xs page hV (by omega) hB) (hk := ?_)
  rintro _ _ ⟨rfl, rfl⟩
  unfold giveL
  generalize afterI xs page = i0 at hai ⊢
  repeat (first | refine Zq ?_ | refine Zs ?_ | refine ZT ?_ | refine ZF ?_ | refine Zc ?_ | refine XO_gU (hk := ?_))
  refine XO_conv (fun _ => SL_nilSl eRun) ?_
  refine XO_dv (dv_append (E' := eRun) (xs := []) (ys := xs.take i0) (A := A) (a := none) (a2 := a) (c := 0) (c2 := c) (hy := by rw [List.length_take, Nat.min_eq_left hai]; rfl) (hv := View.take i0 hV) (hb := by simp; omega)) (hk := ?_)
  rintro _ _ ⟨a1, c1, rfl, rfl⟩
  rw [List.nil_append]
  repeat (first | refine Zq ?_ | refine Zs ?_ | refine ZT ?_ | refine ZF ?_ | refine Zc ?_ | refine XO_gU (hk := ?_))
  (refine XO_dv dv_alloc (hk := ?_); rintro _ _ ⟨cb, rfl, rfl⟩; (repeat (first | refine Zq ?_ | refine Zs ?_ | refine ZT ?_ | refine ZF ?_ | refine Zc ?_ | refine XO_gU (hk := ?_))); refine XO_dv0 dv_storeW (hk := ?_); rintro _ _ rfl; (repeat (first | refine Zq ?_ | refine Zs ?_ | refine ZT ?_ | refine ZF ?_ | refine Zc ?_ | refine XO_gU (hk := ?_))))
  refine X_loop (ι := Nat × Int × Int) (fun q => i0 ≤ q.1 ∧ q.1 ≤ xs.length ∧ mergeI (page, n) (xs.drop i0) = mergeI q.2 (xs.drop q.1) ∧ 0 ≤ q.2.1 ∧ q.2.1 ≤ 1048576 ∧ 0 ≤ q.2.2 ∧ q.2.2 ≤ 1048576 * (q.1 + 1 : Int))
    (fun q => [(0, .slice a xs.length c), (10, .int .i64 (q.1 : Int)), (12, .pointer (some ⟨cb, 0, none⟩)), (11, .slice a1 (xs.take i0).length c1)])
    (fun q => pt cb (.cells [.int .i64 q.2.1, .int .i64 q.2.2].toArray 97 (0, 0)) :: Sl eRun a1 c1 (xs.take i0) :: A :: F) (fun q => xs.length - q.1) (i0, (page, n)) ⟨Nat.le_refl _, hai, rfl, by show 0 ≤ page; omega, by show page ≤ _; omega, by show 0 ≤ n; omega, by show n ≤ 1048576 * ((i0 : Int) + 1); omega⟩ ?_ (by ((try simp only [List.cons_append, List.nil_append]); repeat (first | exact ent_refl | refine ent_take (by repeat (first | exact Find.here | apply Find.there)) ?_ | refine ent_drop ?_))) ?_
  · (repeat (first | exact Env.sub_nil _ | refine Env.sub_cons rfl ?_))
  rintro ⟨i, r1, r2⟩ ⟨hi0, hil, hm, hr0, hr1, hr2, hr3⟩
  dsimp only at hi0 hil hm hr0 hr1 hr2 hr3 ⊢
  repeat (first | refine Zq ?_ | refine Zs ?_ | refine ZT ?_ | refine ZF ?_ | refine Zc ?_ | refine XO_gU (hk := ?_))
  repeat (first | refine XD_pick (h := ?_) | refine Dq ?_ | refine Ds ?_ | refine XDi_gF (h := ?_) | refine XDi_gU (h := ?_) | refine X_draws (h := ?_))
  refine XDi_either (hT := fun h => ?_) (hF := fun h => ?_) <;> simp only [decide_eq_true_eq, decide_eq_false_iff_not] at h
  · have hlt : i < xs.length := by omega
    obtain ⟨g1, g2, g3⟩ := hB xs[i] (List.getElem_mem hlt)
    have hdr : xs.drop i = xs[i] :: xs.drop (i + 1) := List.drop_eq_getElem_cons hlt
    refine XDi_view hV (by omega) ?_
    rintro b o rfl
    repeat (first | refine XD_pick (h := ?_) | refine Dq ?_ | refine Ds ?_ | refine XDi_gF (h := ?_) | refine XDi_gU (h := ?_) | refine X_draws (h := ?_))
    refine XDi_rvA (rv_velf (i := i) (f := 0) (hV := hV)) (h := ?_)
    repeat (first | refine XD_pick (h := ?_) | refine Dq ?_ | refine Ds ?_ | refine XDi_gF (h := ?_) | refine XDi_gU (h := ?_) | refine X_draws (h := ?_))
    refine XD_one (h := ?_)
    refine XDa_dvA (dv_call (end_spec r1 r2 hr0 hr2 (by omega))) (hk := ?_)
    rintro _ _ ⟨_, ⟨rfl, rfl⟩, rfl⟩
    refine ⟨?_, ?_⟩
    · repeat (first | exact keeps_fnil | refine keeps_skip (h := ?_) | refine keeps_takeA (hv := by first | exact rv_load | exact rv_loadW | exact rv_velf (i := i) (f := 0) (hV := hV)) (h := ?_))
    repeat (first | refine XD_pick (h := ?_) | refine Dq ?_ | refine Ds ?_ | refine XDi_gF (h := ?_) | refine XDi_gU (h := ?_) | refine X_draws (h := ?_))
    (refine XD_end (h := ?_); repeat (first | refine Zq ?_ | refine Zs ?_ | refine ZT ?_ | refine ZF ?_ | refine Zc ?_ | refine XO_gU (hk := ?_)))
    refine X_cond rfl (fun h2 => ?_) (fun h2 => ?_) <;> simp only [decide_eq_true_eq, decide_eq_false_iff_not] at h2
    · have hm2 : mergeI (r1, r2) (xs.drop i) = mergeI (min xs[i].1 r1, xs[i].2 + r2) (xs.drop (i + 1)) := by
        rw [hdr, mergeI, if_pos h2]
      repeat (first | refine Zq ?_ | refine Zs ?_ | refine ZT ?_ | refine ZF ?_ | refine Zc ?_ | refine XO_gU (hk := ?_))
      repeat (first | refine XD_pick (h := ?_) | refine Dq ?_ | refine Ds ?_ | refine XDi_gF (h := ?_) | refine XDi_gU (h := ?_) | refine X_draws (h := ?_))
      refine XDi_rvA (rv_velf (i := i) (f := 0) (hV := hV)) (h := ?_)
      repeat (first | refine XD_pick (h := ?_) | refine Dq ?_ | refine Ds ?_ | refine XDi_gF (h := ?_) | refine XDi_gU (h := ?_) | refine X_draws (h := ?_))
      refine XDi_rvA (rv_velf (i := i) (f := 1) (hV := hV)) (h := ?_)
      repeat (first | refine XD_pick (h := ?_) | refine Dq ?_ | refine Ds ?_ | refine XDi_gF (h := ?_) | refine XDi_gU (h := ?_) | refine X_draws (h := ?_))
      refine XD_one (h := ?_)
      refine XDa_dvk0 dv_storeW (K := _) (hk := ?_)
      rintro _ _ rfl
      refine ⟨by (repeat (first | exact keeps_nil | exact keeps_fnil | refine keeps_skip (h := ?_) | refine keeps_takeQ (h := ?_))), ?_⟩
      (refine XD_end (h := ?_); repeat (first | refine Zq ?_ | refine Zs ?_ | refine ZT ?_ | refine ZF ?_ | refine Zc ?_ | refine XO_gU (hk := ?_)))
      refine X_round (i + 1, (min xs[i].1 r1, xs[i].2 + r2)) ⟨by show i0 ≤ i + 1; omega, by show i + 1 ≤ _; omega, by show _ = mergeI _ _; rw [hm, hm2], by show 0 ≤ min _ _; omega, by show min _ _ ≤ _; omega, by show 0 ≤ _ + _; omega, by show _ + _ ≤ 1048576 * (((i + 1 : Nat) : Int) + 1); push_cast; omega⟩ (by show xs.length - (i + 1) < xs.length - i; omega) (by (repeat (first | exact Env.sub_nil _ | refine Env.sub_cons rfl ?_))) (by ((try simp only [List.cons_append, List.nil_append]); repeat (first | exact ent_refl | refine ent_take (by repeat (first | exact Find.here | apply Find.there)) ?_ | refine ent_drop ?_)))
    · have hm2 : mergeI (r1, r2) (xs.drop i) = ((r1, r2), xs.drop i) := by
        rw [hdr, mergeI, if_neg h2]
      rw [hm, hm2]
      dsimp only
      repeat (first | refine Zq ?_ | refine Zs ?_ | refine ZT ?_ | refine ZF ?_ | refine Zc ?_ | refine XO_gU (hk := ?_))
      repeat (first | refine XD_pick (h := ?_) | refine Dq ?_ | refine Ds ?_ | refine XDi_gF (h := ?_) | refine XDi_gU (h := ?_) | refine X_draws (h := ?_))
      refine XD_one (h := ?_)
      refine XDa_dvA (dv_lit (E' := eRun) [(r1, r2)]) (hk := ?_)
      rintro _ _ ⟨lb, rfl, rfl⟩
      refine ⟨by (repeat (first | exact keeps_nil | exact keeps_fnil | refine keeps_skip (h := ?_) | refine keeps_takeQ (h := ?_))), ?_⟩
      repeat (first | refine XD_pick (h := ?_) | refine Dq ?_ | refine Ds ?_ | refine XDi_gF (h := ?_) | refine XDi_gU (h := ?_) | refine X_draws (h := ?_))
      refine XD_one (h := ?_)
      refine XDa_dvA (dv_append (E' := eRun) (xs := xs.take i0) (ys := [(r1, r2)]) (A := Sl eRun (some ⟨lb, 0, none⟩) 1 [(r1, r2)]) (a := a1) (a2 := some ⟨lb, 0, none⟩) (c := c1) (c2 := 1) (hv := Sl.view) (hb := by simp; omega)) (hk := ?_)
      rintro _ _ ⟨a2, c2, rfl, rfl⟩
      refine ⟨by (repeat (first | exact keeps_nil | exact keeps_fnil | refine keeps_skip (h := ?_) | refine keeps_takeQ (h := ?_))), ?_⟩
      repeat (first | refine XD_pick (h := ?_) | refine Dq ?_ | refine Ds ?_ | refine XDi_gF (h := ?_) | refine XDi_gU (h := ?_) | refine X_draws (h := ?_))
      refine XD_one (h := ?_)
      refine XDa_dvA (dv_append (E' := eRun) (xs := xs.take i0 ++ [(r1, r2)]) (ys := xs.drop i) (A := A) (a := a2) (c := c2) (c2 := c - i) (hy := by rw [List.length_drop]; rfl) (hv := View.drop i rfl hc hV) (hb := by simp; omega)) (hk := ?_)
      rintro _ _ ⟨a3, c3, rfl, rfl⟩
      refine ⟨by (repeat (first | exact keeps_nil | exact keeps_fnil | refine keeps_skip (h := ?_) | refine keeps_takeQ (h := ?_))), ?_⟩
      rw [show xs.take i0 ++ [(r1, r2)] ++ xs.drop i = xs.take i0 ++ (r1, r2) :: xs.drop i from by simp]
      repeat (first | refine XD_pick (h := ?_) | refine Dq ?_ | refine Ds ?_ | refine XDi_gF (h := ?_) | refine XDi_gU (h := ?_) | refine X_draws (h := ?_))
      (refine XD_one (h := ?_); refine XDa_dvA (dv_of_rv (rv_of_pv pv_assign)) (hk := ?_); rintro _ _ ⟨rfl, rfl⟩; refine ⟨by (repeat (first | exact keeps_nil | exact keeps_fnil | refine keeps_skip (h := ?_) | refine keeps_takeQ (h := ?_))), ?_⟩)
      (refine XD_one (h := ?_); refine XDa_dvA (dv_of_rv (rv_of_pv pv_assign)) (hk := ?_); rintro _ _ ⟨rfl, rfl⟩; refine ⟨by (repeat (first | exact keeps_nil | exact keeps_fnil | refine keeps_skip (h := ?_) | refine keeps_takeQ (h := ?_))), ?_⟩)
      (refine XD_end (h := ?_); repeat (first | refine Zq ?_ | refine Zs ?_ | refine ZT ?_ | refine ZF ?_ | refine Zc ?_ | refine XO_gU (hk := ?_)))
      refine XE_ret (.inl rfl) (tells_tmps rfl rfl) ⟨_, ⟨a3, c3, rfl, rfl⟩, by ((try simp only [List.cons_append, List.nil_append]); repeat (first | exact ent_refl | refine ent_take (by repeat (first | exact Find.here | apply Find.there)) ?_ | refine ent_drop ?_))⟩
  · obtain rfl : i = xs.length := by omega
    have hm2 : mergeI (r1, r2) (xs.drop xs.length) = ((r1, r2), xs.drop xs.length) := by
      rw [List.drop_length, mergeI]
    repeat (first | refine XD_pick (h := ?_) | refine Dq ?_ | refine Ds ?_ | refine XDi_gF (h := ?_) | refine XDi_gU (h := ?_) | refine X_draws (h := ?_))
    (refine XD_head (h := ?_); first | refine XDi_gF (h := ?_) | refine XDi_gU (h := ?_))
    repeat (first | refine XD_pick (h := ?_) | refine Dq ?_ | refine Ds ?_ | refine XDi_gF (h := ?_) | refine XDi_gU (h := ?_) | refine X_draws (h := ?_))
    (refine XD_end (h := ?_); repeat (first | refine Zq ?_ | refine Zs ?_ | refine ZT ?_ | refine ZF ?_ | refine Zc ?_ | refine XO_gU (hk := ?_)))
    refine X_cond rfl (fun h => by cases h) (fun _ => ?_)
    rw [hm, hm2]
    dsimp only
    repeat (first | refine Zq ?_ | refine Zs ?_ | refine ZT ?_ | refine ZF ?_ | refine Zc ?_ | refine XO_gU (hk := ?_))
    repeat (first | refine XD_pick (h := ?_) | refine Dq ?_ | refine Ds ?_ | refine XDi_gF (h := ?_) | refine XDi_gU (h := ?_) | refine X_draws (h := ?_))
    refine XD_one (h := ?_)
    refine XDa_dvA (dv_lit (E' := eRun) [(r1, r2)]) (hk := ?_)
    rintro _ _ ⟨lb, rfl, rfl⟩
    refine ⟨by (repeat (first | exact keeps_nil | exact keeps_fnil | refine keeps_skip (h := ?_) | refine keeps_takeQ (h := ?_))), ?_⟩
    repeat (first | refine XD_pick (h := ?_) | refine Dq ?_ | refine Ds ?_ | refine XDi_gF (h := ?_) | refine XDi_gU (h := ?_) | refine X_draws (h := ?_))
    refine XD_one (h := ?_)
    refine XDa_dvA (dv_append (E' := eRun) (xs := xs.take i0) (ys := [(r1, r2)]) (A := Sl eRun (some ⟨lb, 0, none⟩) 1 [(r1, r2)]) (a := a1) (a2 := some ⟨lb, 0, none⟩) (c := c1) (c2 := 1) (hv := Sl.view) (hb := by simp; omega)) (hk := ?_)
    rintro _ _ ⟨a2, c2, rfl, rfl⟩
    refine ⟨by (repeat (first | exact keeps_nil | exact keeps_fnil | refine keeps_skip (h := ?_) | refine keeps_takeQ (h := ?_))), ?_⟩
    repeat (first | refine XD_pick (h := ?_) | refine Dq ?_ | refine Ds ?_ | refine XDi_gF (h := ?_) | refine XDi_gU (h := ?_) | refine X_draws (h := ?_))
    refine XD_one (h := ?_)
    refine XDa_dvA (dv_append (E' := eRun) (xs := xs.take i0 ++ [(r1, r2)]) (ys := xs.drop xs.length) (A := A) (a := a2) (c := c2) (c2 := c - xs.length) (hy := by rw [List.length_drop]; rfl) (hv := View.drop xs.length rfl hc hV) (hb := by simp; omega)) (hk := ?_)
    rintro _ _ ⟨a3, c3, rfl, rfl⟩
    refine ⟨by (repeat (first | exact keeps_nil | exact keeps_fnil | refine keeps_skip (h := ?_) | refine keeps_takeQ (h := ?_))), ?_⟩
    rw [show xs.take i0 ++ [(r1, r2)] ++ xs.drop xs.length = xs.take i0 ++ (r1, r2) :: xs.drop xs.length from by simp]
    repeat (first | refine XD_pick (h := ?_) | refine Dq ?_ | refine Ds ?_ | refine XDi_gF (h := ?_) | refine XDi_gU (h := ?_) | refine X_draws (h := ?_))
    (refine XD_one (h := ?_); refine XDa_dvA (dv_of_rv (rv_of_pv pv_assign)) (hk := ?_); rintro _ _ ⟨rfl, rfl⟩; refine ⟨by (repeat (first | exact keeps_nil | exact keeps_fnil | refine keeps_skip (h := ?_) | refine keeps_takeQ (h := ?_))), ?_⟩)
    (refine XD_one (h := ?_); refine XDa_dvA (dv_of_rv (rv_of_pv pv_assign)) (hk := ?_); rintro _ _ ⟨rfl, rfl⟩; refine ⟨by (repeat (first | exact keeps_nil | exact keeps_fnil | refine keeps_skip (h := ?_) | refine keeps_takeQ (h := ?_))), ?_⟩)
    (refine XD_end (h := ?_); repeat (first | refine Zq ?_ | refine Zs ?_ | refine ZT ?_ | refine ZF ?_ | refine Zc ?_ | refine XO_gU (hk := ?_)))
    refine XE_ret (.inl rfl) (tells_tmps rfl rfl) ⟨_, ⟨a3, c3, rfl, rfl⟩, by ((try simp only [List.cons_append, List.nil_append]); repeat (first | exact ent_refl | refine ent_take (by repeat (first | exact Find.here | apply Find.there)) ?_ | refine ent_drop ?_))⟩
end Go.Proofs.YtamecmklcnohjaaGreat.Sep
namespace Go.Proofs.YtamecmklcnohjaaGreat.Sep
open Go.RowKit
set_option linter.unusedSimpArgs false
set_option linter.unusedVariables false
/-! the plain law of free runs: they stay in order, and which pages they have -/
def RightFrom (P : Int) : Int → List (Int × Int) → Prop
  | _, [] => True
  | lo, r :: l => lo ≤ r.1 ∧ 1 ≤ r.2 ∧ r.1 + r.2 ≤ P ∧ RightFrom P (r.1 + r.2 + 1) l
def ind (x : Int) (r : Int × Int) : Int := if r.1 ≤ x ∧ x < r.1 + r.2 then 1 else 0
def cnt (x : Int) : List (Int × Int) → Int
  | [] => 0
  | r :: l => ind x r + cnt x l
theorem ind_nn (x : Int) (r : Int × Int) : 0 ≤ ind x r := by unfold ind; split <;> omega
theorem cnt_nn (x : Int) : ∀ l, 0 ≤ cnt x l
  | [] => by simp [cnt]
  | r :: l => by have := ind_nn x r; have := cnt_nn x l; simp only [cnt]; omega
theorem cnt_append (x : Int) : ∀ l l', cnt x (l ++ l') = cnt x l + cnt x l'
  | [], l' => by simp [cnt]
  | r :: l, l' => by simp only [List.cons_append, cnt, cnt_append x l l']; omega
theorem tot_cons (r : Int × Int) (l : List (Int × Int)) : totI (r :: l) = r.2 + totI l := by simp [totI]
theorem tot_append (l l' : List (Int × Int)) : totI (l ++ l') = totI l + totI l' := by simp [totI, List.sum_append]
theorem rf_mono {P lo lo' : Int} {l : List (Int × Int)} (h : lo' ≤ lo) (hr : RightFrom P lo l) : RightFrom P lo' l := by
  cases l with
  | nil => trivial
  | cons r l => obtain ⟨h1, h2, h3, h4⟩ := hr; exact ⟨by omega, h2, h3, h4⟩
theorem rf_mem {P : Int} : ∀ {l : List (Int × Int)} {lo : Int}, RightFrom P lo l → ∀ r ∈ l, lo ≤ r.1 ∧ 1 ≤ r.2 ∧ r.1 + r.2 ≤ P
  | [], _, _, r, hr => by cases hr
  | q :: l, lo, ⟨h1, h2, h3, h4⟩, r, hr => by
    rcases List.mem_cons.1 hr with rfl | hr
    · exact ⟨h1, h2, h3⟩
    · have := rf_mem h4 r hr; exact ⟨by omega, this.2⟩
theorem rf_len {P : Int} : ∀ {l : List (Int × Int)} {lo : Int}, lo ≤ P + 1 → RightFrom P lo l → (l.length : Int) ≤ P + 1 - lo
  | [], lo, h, _ => by simp; omega
  | r :: l, lo, h, ⟨h1, h2, h3, h4⟩ => by
    have := rf_len (by omega) h4
    simp; omega
theorem rf_bd {P : Int} {l : List (Int × Int)} (hP : P ≤ 1048576) (h : RightFrom P 0 l) : Bd l := fun r hr => by
  have := rf_mem h r hr; omega
theorem rf_len' {P : Int} {l : List (Int × Int)} (h0 : 0 ≤ P) (hP : P ≤ 1048576) (h : RightFrom P 0 l) : l.length ≤ 1048576 := by
  cases l with
  | nil => simp
  | cons r l =>
    obtain ⟨h1, h2, h3, h4⟩ := h
    have := rf_len (by omega) h4
    simp; omega
/-! taken -/
theorem rf_erase {P : Int} : ∀ {l : List (Int × Int)} {lo : Int} (i : Nat), RightFrom P lo l → RightFrom P lo (l.eraseIdx i)
  | [], _, _, _ => by simp [RightFrom]
  | r :: l, lo, 0, ⟨h1, h2, h3, h4⟩ => by simpa using rf_mono (by omega) h4
  | r :: l, lo, i + 1, ⟨h1, h2, h3, h4⟩ => by simpa using ⟨h1, h2, h3, rf_erase i h4⟩
theorem rf_set {P n : Int} (h0 : 1 ≤ n) : ∀ {l : List (Int × Int)} {lo : Int} (i : Nat), RightFrom P lo l → n < (l.getD i (0, 0)).2 → RightFrom P lo (l.set i ((l.getD i (0, 0)).1 + n, (l.getD i (0, 0)).2 - n))
  | [], _, _, _, _ => by simp [RightFrom]
  | r :: l, lo, 0, ⟨h1, h2, h3, h4⟩, hn => by
    simp only [List.getD_cons_zero] at hn
    simp only [List.getD_cons_zero, List.set_cons_zero, RightFrom]
    exact ⟨by omega, by omega, by omega, by rw [show r.1 + n + (r.2 - n) + 1 = r.1 + r.2 + 1 from by omega]; exact h4⟩
  | r :: l, lo, i + 1, ⟨h1, h2, h3, h4⟩, hn => by
    simp only [List.getD_cons_succ] at hn
    simp only [List.getD_cons_succ, List.set_cons_succ, RightFrom]
    exact ⟨h1, h2, h3, rf_set h0 i h4 hn⟩
theorem cnt_take {n : Int} (x : Int) (h0 : 1 ≤ n) : ∀ (l : List (Int × Int)) (i : Nat), i < l.length → n ≤ (l.getD i (0, 0)).2 →
    cnt x l = cnt x (takeAt l n i).2 + ind x ((takeAt l n i).1, n) ∧ totI l = totI (takeAt l n i).2 + n
  | [], i, h, _ => by simp at h
  | r :: l, 0, _, hn => by
    simp only [List.getD_cons_zero] at hn
    simp only [takeAt, List.getD_cons_zero]
    by_cases hq : r.2 = n
    · rw [if_pos hq]
      simp only [List.eraseIdx_cons_zero, cnt, tot_cons]
      subst hq
      exact ⟨Int.add_comm _ _, Int.add_comm _ _⟩
    · rw [if_neg hq]
      simp only [List.set_cons_zero, cnt, tot_cons]
      refine ⟨?_, by omega⟩
      unfold ind
      simp only
      repeat' split
      all_goals omega
  | r :: l, i + 1, hi, hn => by
    simp only [List.getD_cons_succ] at hn
    have ih := cnt_take x h0 l i (by simpa using hi) hn
    simp only [takeAt, List.getD_cons_succ] at ih ⊢
    by_cases hq : (l.getD i (0, 0)).2 = n
    · rw [if_pos hq] at ih ⊢
      simp only [List.eraseIdx_cons_succ, cnt, tot_cons]
      omega
    · rw [if_neg hq] at ih ⊢
      simp only [List.set_cons_succ, cnt, tot_cons]
      omega
theorem takeI_right {P n : Int} {l ys : List (Int × Int)} {p : Int} (hr : RightFrom P 0 l) (h : takeI l n = some (p, ys)) :
    RightFrom P 0 ys ∧ 1 ≤ n ∧ 0 ≤ p ∧ p + n ≤ P ∧ (∀ x, cnt x l = cnt x ys + ind x (p, n)) ∧ totI l = totI ys + n := by
  unfold takeI at h
  cases hb : bestU l n l.length with
  | none => rw [hb] at h; cases h
  | some i =>
    rw [hb, Option.map_some, Option.some.injEq] at h
    have hi := bestU_lt hb
    obtain ⟨hn0, hn1⟩ := bestU_ge hb
    have hg : l.getD i (0, 0) = l[i] := by simp [List.getD, hi]
    have hm := rf_mem hr l[i] (List.getElem_mem hi)
    have h1 : ∀ x, _ := fun x => cnt_take x (show 1 ≤ n by omega) l i hi hn1
    rw [h] at h1
    have hp : p = (l.getD i (0, 0)).1 := by rw [takeAt] at h; exact (Prod.mk.inj h).1.symm
    have hys : ys = if (l.getD i (0, 0)).2 = n then l.eraseIdx i else l.set i ((l.getD i (0, 0)).1 + n, (l.getD i (0, 0)).2 - n) := by rw [takeAt] at h; exact (Prod.mk.inj h).2.symm
    refine ⟨?_, by omega, by rw [hp, hg]; omega, by rw [hp, hg]; rw [hg] at hn1; omega, fun x => (h1 x).1, (h1 0).2⟩
    rw [hys]
    split
    · exact rf_erase i hr
    · rename_i hne
      exact rf_set (by omega) i hr (by omega)
/-! given back -/
theorem merge_stop {P : Int} {r : Int × Int} {l : List (Int × Int)} (h : RightFrom P (r.1 + r.2 + 1) l) : mergeI r l = (r, l) := by
  cases l with
  | nil => rfl
  | cons x l => rw [mergeI, if_neg (by have := h.1; omega)]
theorem merge_right {P lo : Int} {r : Int × Int} {l : List (Int × Int)} (hr2 : 1 ≤ r.2) (hrP : r.1 + r.2 ≤ P) (h : RightFrom P lo l) (hd : ∀ x ∈ l, r.1 + r.2 ≤ x.1) :
    (mergeI r l).1.1 = r.1 ∧ RightFrom P r.1 ((mergeI r l).1 :: (mergeI r l).2) ∧ (∀ x, cnt x ((mergeI r l).1 :: (mergeI r l).2) = cnt x (r :: l)) ∧ totI ((mergeI r l).1 :: (mergeI r l).2) = totI (r :: l) := by
  cases l with
  | nil => exact ⟨rfl, ⟨Int.le_refl _, hr2, hrP, trivial⟩, fun _ => rfl, rfl⟩
  | cons y t =>
    obtain ⟨h1, h2, h3, h4⟩ := h
    have hy := hd y (by simp)
    by_cases hc : y.1 ≤ r.1 + r.2
    · have hm : mergeI r (y :: t) = ((r.1, y.2 + r.2), t) := by
        rw [mergeI, if_pos hc, show min y.1 r.1 = r.1 from by omega]
        exact merge_stop (P := P) (rf_mono (by show r.1 + (y.2 + r.2) + 1 ≤ _; omega) h4)
      rw [hm]
      refine ⟨rfl, ⟨Int.le_refl _, by show 1 ≤ y.2 + r.2; omega, by show r.1 + (y.2 + r.2) ≤ P; omega, rf_mono (by show r.1 + (y.2 + r.2) + 1 ≤ _; omega) h4⟩, fun x => ?_, by simp only [tot_cons]; omega⟩
      simp only [cnt]
      unfold ind
      simp only
      repeat' split
      all_goals omega
    · have hm : mergeI r (y :: t) = (r, y :: t) := by rw [mergeI, if_neg hc]
      rw [hm]
      exact ⟨rfl, ⟨Int.le_refl _, hr2, hrP, ⟨by show r.1 + r.2 + 1 ≤ y.1; omega, h2, h3, h4⟩⟩, fun _ => rfl, rfl⟩
theorem giveL_nil (p n : Int) : giveL [] p n = [(p, n)] := rfl
theorem giveL_cons (x : Int × Int) (xs : List (Int × Int)) (p n : Int) : giveL (x :: xs) p n = if p ≤ x.1 + x.2 then (mergeI (p, n) (x :: xs)).1 :: (mergeI (p, n) (x :: xs)).2 else x :: giveL xs p n := by
  unfold giveL afterI
  rw [List.findIdx_cons]
  by_cases h : p ≤ x.1 + x.2
  · simp [h]
  · simp [h]
theorem give_right {P p n : Int} (hn : 1 ≤ n) (hP : p + n ≤ P) : ∀ (xs : List (Int × Int)) (lo : Int), RightFrom P lo xs → lo ≤ p → (∀ r ∈ xs, p + n ≤ r.1 ∨ r.1 + r.2 ≤ p) →
    RightFrom P lo (giveL xs p n) ∧ (∀ x, cnt x (giveL xs p n) = cnt x xs + ind x (p, n)) ∧ totI (giveL xs p n) = totI xs + n
  | [], lo, _, hlo, _ => by
    rw [giveL_nil]
    exact ⟨⟨hlo, hn, hP, trivial⟩, fun x => by simp only [cnt]; omega, by simp [totI]⟩
  | y :: t, lo, ⟨h1, h2, h3, h4⟩, hlo, hd => by
    rw [giveL_cons]
    have hy := hd y (by simp)
    by_cases hc : p ≤ y.1 + y.2
    · rw [if_pos hc]
      by_cases he : y.1 + y.2 = p
      · -- the run ahead ends where the pages begin
        have ht : ∀ z ∈ t, p + n ≤ z.1 := fun z hz => by
          have := rf_mem h4 z hz
          rcases hd z (by simp [hz]) with h | h <;> omega
        have hm : mergeI (p, n) (y :: t) = mergeI (y.1, y.2 + n) t := by
          rw [mergeI, if_pos (by show y.1 ≤ p + n; omega), show min y.1 p = y.1 from by omega]
        rw [hm]
        obtain ⟨g1, g2, g3, g4⟩ := merge_right (P := P) (r := (y.1, y.2 + n)) (l := t) (by show 1 ≤ y.2 + n; omega) (by show y.1 + (y.2 + n) ≤ P; omega) h4 (fun z hz => by show y.1 + (y.2 + n) ≤ z.1; have := ht z hz; omega)
        refine ⟨rf_mono (by show lo ≤ y.1; exact h1) g2, fun x => ?_, ?_⟩
        · rw [g3 x]
          simp only [cnt]
          unfold ind
          simp only
          repeat' split
          all_goals omega
        · rw [g4]; simp only [tot_cons]; omega
      · have ht : ∀ z ∈ y :: t, p + n ≤ z.1 := fun z hz => by
          rcases List.mem_cons.1 hz with rfl | hz
          · omega
          · have := rf_mem h4 z hz; omega
        obtain ⟨g1, g2, g3, g4⟩ := merge_right (P := P) (r := (p, n)) (l := y :: t) hn hP ⟨h1, h2, h3, h4⟩ (fun z hz => ht z hz)
        refine ⟨rf_mono hlo g2, fun x => ?_, ?_⟩
        · rw [g3 x]; simp only [cnt]; omega
        · rw [g4]; simp only [tot_cons]; omega
    · rw [if_neg hc]
      obtain ⟨g1, g2, g3⟩ := give_right hn hP t (y.1 + y.2 + 1) h4 (by omega) (fun r hr => hd r (by simp [hr]))
      exact ⟨⟨h1, h2, h3, g1⟩, fun x => by simp only [cnt, g2 x]; omega, by simp only [tot_cons, g3]; omega⟩
theorem hasB_iff {p n : Int} {r : Int × Int} (h0 : 0 ≤ p) (hn : 1 ≤ n) : hasB p n r = true ↔ r.1 < p + n ∧ p < r.1 + r.2 := by
  unfold hasB
  rw [decide_eq_true_eq]
  constructor
  · rintro ⟨_, h | h, h3⟩
    · omega
    · exact ⟨by omega, h3⟩
  · rintro ⟨h1, h2⟩; exact ⟨by omega, .inr ⟨h0, by omega⟩, h2⟩
theorem giveI_right {P p n : Int} {l ys : List (Int × Int)} (hr : RightFrom P 0 l) (h : giveI l P p n = some ys) :
    RightFrom P 0 ys ∧ (∀ x, cnt x ys = cnt x l + ind x (p, n)) ∧ totI ys = totI l + n := by
  unfold giveI at h
  split at h
  · cases h
  rename_i hb
  cases h
  refine give_right (by omega) (by omega) l 0 hr (by omega) fun r hr => ?_
  have hh : ¬ hasB p n r = true := fun hh => hb (.inr (.inr (.inr (.inr (List.any_eq_true.2 ⟨r, hr, hh⟩)))))
  rw [hasB_iff (by omega) (by omega)] at hh
  omega
theorem cnt_mem {x : Int} {r : Int × Int} : ∀ {l : List (Int × Int)}, r ∈ l → ind x r ≤ cnt x l
  | [], h => by cases h
  | q :: l, h => by
    rcases List.mem_cons.1 h with rfl | h
    · have := cnt_nn x l; simp only [cnt]; omega
    · have := cnt_mem (x := x) h; have := ind_nn x q; simp only [cnt]; omega
/-- What overlaps nothing can be given back. -/
theorem giveI_some {P p n : Int} {l : List (Int × Int)} (hr : RightFrom P 0 l) (h0 : 0 ≤ p) (hn : 1 ≤ n) (hP : p + n ≤ P) (hd : ∀ x, cnt x l + ind x (p, n) ≤ 1) : giveI l P p n = some (giveL l p n) := by
  unfold giveI
  rw [if_neg]
  rintro (h | h | h | h | h)
  · omega
  · omega
  · omega
  · omega
  · obtain ⟨r, hr1, hh⟩ := List.any_eq_true.1 h
    rw [hasB_iff h0 hn] at hh
    have hm := rf_mem hr r hr1
    have h1 := cnt_mem (x := max p r.1) hr1
    have h2 := hd (max p r.1)
    have h3 : ind (max p r.1) r = 1 := by unfold ind; rw [if_pos]; omega
    have h4 : ind (max p r.1) (p, n) = 1 := by unfold ind; rw [if_pos]; simp only; omega
    omega
end Go.Proofs.YtamecmklcnohjaaGreat.Sep
namespace Go.Proofs.YtamecmklcnohjaaGreat.Sep
open Go.RowKit
set_option linter.unusedSimpArgs false
set_option linter.unusedVariables false

/-- Pages that are taken and given back: how many, what is free, and what was done. -/
def Pg (b : Nat) (P : Int) (fr : List (Int × Int)) (t : Int) : HP := fun H => ∃ x : Option Addr × Nat, SL [pt b (.cells [.int .i64 P, .slice x.1 fr.length x.2, .int .i64 t].toArray 192 (0, 0)), Sl eRun x.1 x.2 fr] H
theorem Pg.open {b : Nat} {P : Int} {fr : List (Int × Int)} {t : Int} : ∀ H, Pg b P fr t H → ∃ x : Option Addr × Nat, True ∧ SL [pt b (.cells [.int .i64 P, .slice x.1 fr.length x.2, .int .i64 t].toArray 192 (0, 0)), Sl eRun x.1 x.2 fr] H := fun H ⟨x, h⟩ => ⟨x, trivial, h⟩
theorem Pg.fold {b : Nat} {P : Int} {fr : List (Int × Int)} {t : Int} {a : Option Addr} {c : Nat} : ∀ H, SL [pt b (.cells [.int .i64 P, .slice a fr.length c, .int .i64 t].toArray 192 (0, 0)), Sl eRun a c fr] H → Pg b P fr t H := fun H h => ⟨(a, c), h⟩
def tickI (t : Int) (m : Nat) : Int := IntKind.i64.wrap (t + (1 + (m : Int)))
set_option maxHeartbeats 8000000
attribute [local irreducible] X XE XO XD XDi XDa PV RV DV pt base Spec Sl Mp Keeps Pg

theorem clone_spec (A : HP) (a : Option Addr) (c m : Nat) (xs : List (Int × Int)) (hm : m = xs.length) (hV : View A eRun a xs) (hl : xs.length ≤ 1048576) :
    Spec Tryz.prog 135 [.slice a m c] [A] (fun v L => ∃ a' c', v = .slice a' xs.length c' ∧ L = [A, Sl eRun a' c' xs]) := by
  subst hm
  refine Spec.intro (IsEnt.out) Tryz.func135 rfl Tryz.ntmps135 (by simp) (fun w0 F => ?_)
  simp only [envOf, List.zipIdx, List.map, List.cons_append, List.nil_append, Nat.zero_add, Nat.reduceAdd]
  repeat (first | refine Zq ?_ | refine Zs ?_ | refine ZT ?_ | refine ZF ?_ | refine Zc ?_ | refine XO_gU (hk := ?_))
  refine XO_pv pv_eqnilS (hk := ?_)
  repeat (first | refine Zq ?_ | refine Zs ?_ | refine ZT ?_ | refine ZF ?_ | refine Zc ?_ | refine XO_gU (hk := ?_))
  cases a with
  | none =>
    refine X_cond rfl (fun _ => ?_) (fun h => by cases h)
    refine X_fact (A := A) (p := xs = []) (by (repeat (first | exact Find.here | apply Find.there))) (fun H hH => by rcases hV H hH with h | ⟨_, h, _⟩; exact h; cases h) (fun hx => ?_)
    subst hx
    repeat (first | refine Zq ?_ | refine Zs ?_ | refine ZT ?_ | refine ZF ?_ | refine Zc ?_ | refine XO_gU (hk := ?_))
    refine XE_conv (fun _ => SL_nilSl eRun) ?_
    refine XE_ret (.inl rfl) (tells_tmps rfl rfl) ⟨_, ⟨none, 0, rfl, rfl⟩, by ((try simp only [List.cons_append, List.nil_append]); repeat (first | exact ent_refl | refine ent_take (by repeat (first | exact Find.here | apply Find.there)) ?_ | refine ent_drop ?_))⟩
  | some ad =>
    refine X_cond rfl (fun h => by cases h) (fun _ => ?_)
    repeat (first | refine Zq ?_ | refine Zs ?_ | refine ZT ?_ | refine ZF ?_ | refine Zc ?_ | refine XO_gU (hk := ?_))
    refine XO_dv (dv_lit (E' := eRun) []) (hk := ?_)
    rintro _ _ ⟨lb, rfl, rfl⟩
    repeat (first | refine Zq ?_ | refine Zs ?_ | refine ZT ?_ | refine ZF ?_ | refine Zc ?_ | refine XO_gU (hk := ?_))
    refine XO_dv (dv_append (E' := eRun) (xs := []) (ys := xs) (A := A) (hv := hV) (hb := by simp; omega)) (hk := ?_)
    rintro _ _ ⟨a3, c3, rfl, rfl⟩
    rw [List.nil_append]
    repeat (first | refine Zq ?_ | refine Zs ?_ | refine ZT ?_ | refine ZF ?_ | refine Zc ?_ | refine XO_gU (hk := ?_))
    refine XE_ret (.inl rfl) (tells_tmps rfl rfl) ⟨_, ⟨a3, c3, rfl, rfl⟩, by ((try simp only [List.cons_append, List.nil_append]); repeat (first | exact ent_refl | refine ent_take (by repeat (first | exact Find.here | apply Find.there)) ?_ | refine ent_drop ?_))⟩
theorem pnew_spec (p : Int) : Spec Tryz.prog 54 [.int .i64 p] [] (fun v L => ∃ b, v = .pointer (some ⟨b, 0, none⟩) ∧ L = [Pg b (min (max p 1) 1048576) [(0, min (max p 1) 1048576)] 0]) := by
  refine Spec.intro (IsEnt.out) Tryz.func54 rfl Tryz.ntmps54 (by simp) (fun w0 F => ?_)
  simp only [envOf, List.zipIdx, List.map, List.cons_append, List.nil_append, Nat.zero_add, Nat.reduceAdd]
  repeat (first | refine Zq ?_ | refine Zs ?_ | refine ZT ?_ | refine ZF ?_ | refine Zc ?_ | refine XO_gU (hk := ?_))
  refine XO_dv (dv_lit (E' := eRun) [(0, min (max p 1) 1048576)]) (hk := ?_)
  rintro _ _ ⟨lb, rfl, rfl⟩
  repeat (first | refine Zq ?_ | refine Zs ?_ | refine ZT ?_ | refine ZF ?_ | refine Zc ?_ | refine XO_gU (hk := ?_))
  refine XO_pv (pv_buildG [.int .i64 (min (max p 1) 1048576), .slice (some ⟨lb, 0, none⟩) 1 1, .int .i64 0]) (hk := ?_)
  repeat (first | refine Zq ?_ | refine Zs ?_ | refine ZT ?_ | refine ZF ?_ | refine Zc ?_ | refine XO_gU (hk := ?_))
  refine XO_dv dv_box (hk := ?_)
  rintro _ _ ⟨b, rfl, rfl⟩
  repeat (first | refine Zq ?_ | refine Zs ?_ | refine ZT ?_ | refine ZF ?_ | refine Zc ?_ | refine XO_gU (hk := ?_))
  refine XE_ret (.inl rfl) (tells_tmps rfl rfl) ⟨_, ⟨b, rfl, rfl⟩, ?_⟩
  refine ent_fold (by repeat (first | exact FindAll.nil | exact Find.here | apply Find.there | apply FindAll.cons)) (Pg.fold (a := some ⟨lb, 0, none⟩) (c := 1)) ?_
  ((try simp only [List.cons_append, List.nil_append]); repeat (first | exact ent_refl | refine ent_take (by repeat (first | exact Find.here | apply Find.there)) ?_ | refine ent_drop ?_))
theorem done_spec (b m m' c c' : Nat) (P t : Int) (a a' : Option Addr) (hm : m ≤ 1048576) : Spec Tryz.prog 133 [.pointer (some ⟨b, 0, none⟩), .slice a' m' c'] [pt b (.cells [.int .i64 P, .slice a m c, .int .i64 t].toArray 192 (0, 0))]
    (fun v L => v = .int .i64 0 ∧ L = [pt b (.cells [.int .i64 P, .slice a' m' c', .int .i64 (tickI t m)].toArray 192 (0, 0))]) := by
  refine Spec.intro (IsEnt.out) Tryz.func133 rfl Tryz.ntmps133 (by simp) (fun w0 F => ?_)
  simp only [envOf, List.zipIdx, List.map, List.cons_append, List.nil_append, Nat.zero_add, Nat.reduceAdd]
  repeat (first | refine Zq ?_ | refine Zs ?_ | refine ZT ?_ | refine ZF ?_ | refine Zc ?_ | refine XO_gU (hk := ?_))
  repeat (first | refine XD_pick (h := ?_) | refine Dq ?_ | refine Ds ?_ | refine XDi_gF (h := ?_) | refine XDi_gU (h := ?_) | refine X_draws (h := ?_))
  refine XD_one (h := ?_)
  refine XDa_dvk0 dv_store (K := _) (hk := ?_)
  rintro _ _ rfl
  refine ⟨by (repeat (first | exact keeps_nil | exact keeps_fnil | refine keeps_skip (h := ?_) | refine keeps_takeQ (h := ?_))), ?_⟩
  (refine XD_end (h := ?_); repeat (first | refine Zq ?_ | refine Zs ?_ | refine ZT ?_ | refine ZF ?_ | refine Zc ?_ | refine XO_gU (hk := ?_)))
  refine XO_dv0 dv_store (hk := ?_)
  rintro _ _ rfl
  repeat (first | refine Zq ?_ | refine Zs ?_ | refine ZT ?_ | refine ZF ?_ | refine Zc ?_ | refine XO_gU (hk := ?_))
  refine XE_ret (.inl rfl) (tells_tmps rfl rfl) ⟨_, ⟨rfl, rfl⟩, by ((try simp only [List.cons_append, List.nil_append]); repeat (first | exact ent_refl | refine ent_take (by repeat (first | exact Find.here | apply Find.there)) ?_ | refine ent_drop ?_))⟩
def takeP (b : Nat) (P : Int) (fr : List (Int × Int)) (t n : Int) : Value → List HP → Prop :=
  if n < 1 then fun v L => v = .tuple #[.int .i64 0, .int .i64 1] ∧ L = [Pg b P fr t] else match takeI fr n with
  | none => fun v L => v = .tuple #[.int .i64 0, .int .i64 4] ∧ L = [Pg b P fr t]
  | some q => fun v L => v = .tuple #[.int .i64 q.1, .int .i64 0] ∧ L = [Pg b P q.2 (tickI t fr.length)]
theorem ptake_spec (b : Nat) (P t n : Int) (fr : List (Int × Int)) (hl : fr.length ≤ 1048576) (hB : Bd fr) : Spec Tryz.prog 128 [.pointer (some ⟨b, 0, none⟩), .int .i64 n] [Pg b P fr t] (takeP b P fr t n) := by
  refine Spec.intro (IsEnt.out) Tryz.func128 rfl Tryz.ntmps128 (by simp) (fun w0 F => ?_)
  simp only [envOf, List.zipIdx, List.map, List.cons_append, List.nil_append, Nat.zero_add, Nat.reduceAdd]
  repeat (first | refine Zq ?_ | refine Zs ?_ | refine ZT ?_ | refine ZF ?_ | refine Zc ?_ | refine XO_gU (hk := ?_))
  refine X_cond rfl (fun h => ?_) (fun h => ?_) <;> simp only [decide_eq_true_eq, decide_eq_false_iff_not] at h
  · unfold takeP
    rw [if_pos h]
    repeat (first | refine Zq ?_ | refine Zs ?_ | refine ZT ?_ | refine ZF ?_ | refine Zc ?_ | refine XO_gU (hk := ?_))
    refine XE_ret (.inl rfl) (tells_tmps rfl rfl) ⟨_, ⟨rfl, rfl⟩, by ((try simp only [List.cons_append, List.nil_append]); repeat (first | exact ent_refl | refine ent_take (by repeat (first | exact Find.here | apply Find.there)) ?_ | refine ent_drop ?_))⟩
  unfold takeP
  rw [if_neg h]
  refine X_open .here Pg.open ?_
  rintro ⟨a, c⟩ -
  dsimp only [List.cons_append, List.nil_append]
  repeat (first | refine Zq ?_ | refine Zs ?_ | refine ZT ?_ | refine ZF ?_ | refine Zc ?_ | refine XO_gU (hk := ?_))
  refine XO_call (take_spec (Sl eRun a c fr) a c fr n Sl.view hl hB) (hk := ?_)
  intro v L' hpost
  cases ht : takeI fr n with
  | none =>
    rw [ht] at hpost
    obtain ⟨rfl, rfl⟩ := hpost
    repeat (first | refine Zq ?_ | refine Zs ?_ | refine ZT ?_ | refine ZF ?_ | refine Zc ?_ | refine XO_gU (hk := ?_))
    refine X_cond rfl (fun _ => ?_) (fun h => by cases h)
    repeat (first | refine Zq ?_ | refine Zs ?_ | refine ZT ?_ | refine ZF ?_ | refine Zc ?_ | refine XO_gU (hk := ?_))
    refine XE_ret (.inl rfl) (tells_tmps rfl rfl) ⟨_, ⟨rfl, rfl⟩, ?_⟩
    (try simp only [List.cons_append, List.nil_append])
    refine ent_fold (by repeat (first | exact FindAll.nil | exact Find.here | apply Find.there | apply FindAll.cons)) Pg.fold ?_
    ((try simp only [List.cons_append, List.nil_append]); repeat (first | exact ent_refl | refine ent_take (by repeat (first | exact Find.here | apply Find.there)) ?_ | refine ent_drop ?_))
  | some q =>
    obtain ⟨p, ys⟩ := q
    rw [ht] at hpost
    obtain ⟨nb, c', rfl, rfl⟩ := hpost
    repeat (first | refine Zq ?_ | refine Zs ?_ | refine ZT ?_ | refine ZF ?_ | refine Zc ?_ | refine XO_gU (hk := ?_))
    refine X_cond rfl (fun h => by cases h) (fun _ => ?_)
    repeat (first | refine Zq ?_ | refine Zs ?_ | refine ZT ?_ | refine ZF ?_ | refine Zc ?_ | refine XO_gU (hk := ?_))
    refine XO_call (done_spec b fr.length ys.length c c' P t a (some ⟨nb, 0, none⟩) hl) (hk := ?_)
    rintro _ _ ⟨rfl, rfl⟩
    repeat (first | refine Zq ?_ | refine Zs ?_ | refine ZT ?_ | refine ZF ?_ | refine Zc ?_ | refine XO_gU (hk := ?_))
    refine XE_ret (.inl rfl) (tells_tmps rfl rfl) ⟨_, ⟨rfl, rfl⟩, ?_⟩
    (try simp only [List.cons_append, List.nil_append])
    refine ent_fold (by repeat (first | exact FindAll.nil | exact Find.here | apply Find.there | apply FindAll.cons)) Pg.fold ?_
    ((try simp only [List.cons_append, List.nil_append]); repeat (first | exact ent_refl | refine ent_take (by repeat (first | exact Find.here | apply Find.there)) ?_ | refine ent_drop ?_))
def giveP (b : Nat) (P : Int) (fr : List (Int × Int)) (t page n : Int) : Value → List HP → Prop := match giveI fr P page n with
  | none => fun v L => v = .int .i64 1 ∧ L = [Pg b P fr t]
  | some ys => fun v L => v = .int .i64 0 ∧ L = [Pg b P ys (tickI t fr.length)]
theorem pgive_spec (b : Nat) (P t page n : Int) (fr : List (Int × Int)) (hl : fr.length ≤ 1048576) (hB : Bd fr) (p0 : 0 ≤ P) (p1 : P ≤ 1048576) (n0 : -9223372036854775808 ≤ n) (n1 : n ≤ 9223372036854775807) (q0 : -9223372036854775808 ≤ page) (q1 : page ≤ 9223372036854775807) :
    Spec Tryz.prog 78 [.pointer (some ⟨b, 0, none⟩), .int .i64 page, .int .i64 n] [Pg b P fr t] (giveP b P fr t page n) := by
  refine Spec.intro (IsEnt.out) Tryz.func78 rfl Tryz.ntmps78 (by simp) (fun w0 F => ?_)
  simp only [envOf, List.zipIdx, List.map, List.cons_append, List.nil_append, Nat.zero_add, Nat.reduceAdd]
  repeat (first | refine Zq ?_ | refine Zs ?_ | refine ZT ?_ | refine ZF ?_ | refine Zc ?_ | refine XO_gU (hk := ?_))
  refine X_cond rfl (fun h => by cases h) (fun _ => ?_)
  refine X_open .here Pg.open ?_
  rintro ⟨a, c⟩ -
  dsimp only [List.cons_append, List.nil_append]
  refine X_fact (A := Sl eRun a c fr) (by (repeat (first | exact Find.here | apply Find.there))) Sl.cap (fun hc => ?_)
  repeat (first | refine Zq ?_ | refine Zs ?_ | refine ZT ?_ | refine ZF ?_ | refine Zc ?_ | refine XO_gU (hk := ?_))
  repeat (first | refine XD_pick (h := ?_) | refine Dq ?_ | refine Ds ?_ | refine XDi_gF (h := ?_) | refine XDi_gU (h := ?_) | refine X_draws (h := ?_))
  refine XD_one (h := ?_)
  refine XDa_dvA (dv_call (give_spec (Sl eRun a c fr) a c fr P page n Sl.view hc hl hB p0 p1 n0 n1 q0 q1)) (hk := ?_)
  rintro v _ ⟨L', hpost, rfl⟩
  unfold giveP
  cases ht : giveI fr P page n with
  | none =>
    rw [ht] at hpost
    obtain ⟨rfl, rfl⟩ := hpost
    refine ⟨by (repeat (first | exact keeps_nil | exact keeps_fnil | refine keeps_skip (h := ?_) | refine keeps_takeQ (h := ?_))), ?_⟩
    repeat (first | refine XD_pick (h := ?_) | refine Dq ?_ | refine Ds ?_ | refine XDi_gF (h := ?_) | refine XDi_gU (h := ?_) | refine X_draws (h := ?_))
    (refine XD_one (h := ?_); refine XDa_dvA (dv_of_rv (rv_of_pv pv_assign)) (hk := ?_); rintro _ _ ⟨rfl, rfl⟩; refine ⟨by (repeat (first | exact keeps_nil | exact keeps_fnil | refine keeps_skip (h := ?_) | refine keeps_takeQ (h := ?_))), ?_⟩)
    (refine XD_one (h := ?_); refine XDa_dvA (dv_of_rv (rv_of_pv pv_assign)) (hk := ?_); rintro _ _ ⟨rfl, rfl⟩; refine ⟨by (repeat (first | exact keeps_nil | exact keeps_fnil | refine keeps_skip (h := ?_) | refine keeps_takeQ (h := ?_))), ?_⟩)
    (refine XD_end (h := ?_); repeat (first | refine Zq ?_ | refine Zs ?_ | refine ZT ?_ | refine ZF ?_ | refine Zc ?_ | refine XO_gU (hk := ?_)))
    refine X_cond rfl (fun _ => ?_) (fun h => by cases h)
    repeat (first | refine Zq ?_ | refine Zs ?_ | refine ZT ?_ | refine ZF ?_ | refine Zc ?_ | refine XO_gU (hk := ?_))
    refine XE_ret (.inl rfl) (tells_tmps rfl rfl) ⟨_, ⟨rfl, rfl⟩, ?_⟩
    (try simp only [List.cons_append, List.nil_append])
    refine ent_fold (by repeat (first | exact FindAll.nil | exact Find.here | apply Find.there | apply FindAll.cons)) Pg.fold ?_
    ((try simp only [List.cons_append, List.nil_append]); repeat (first | exact ent_refl | refine ent_take (by repeat (first | exact Find.here | apply Find.there)) ?_ | refine ent_drop ?_))
  | some ys =>
    rw [ht] at hpost
    obtain ⟨a', c', rfl, rfl⟩ := hpost
    refine ⟨by (repeat (first | exact keeps_nil | exact keeps_fnil | refine keeps_skip (h := ?_) | refine keeps_takeQ (h := ?_))), ?_⟩
    repeat (first | refine XD_pick (h := ?_) | refine Dq ?_ | refine Ds ?_ | refine XDi_gF (h := ?_) | refine XDi_gU (h := ?_) | refine X_draws (h := ?_))
    (refine XD_one (h := ?_); refine XDa_dvA (dv_of_rv (rv_of_pv pv_assign)) (hk := ?_); rintro _ _ ⟨rfl, rfl⟩; refine ⟨by (repeat (first | exact keeps_nil | exact keeps_fnil | refine keeps_skip (h := ?_) | refine keeps_takeQ (h := ?_))), ?_⟩)
    (refine XD_one (h := ?_); refine XDa_dvA (dv_of_rv (rv_of_pv pv_assign)) (hk := ?_); rintro _ _ ⟨rfl, rfl⟩; refine ⟨by (repeat (first | exact keeps_nil | exact keeps_fnil | refine keeps_skip (h := ?_) | refine keeps_takeQ (h := ?_))), ?_⟩)
    (refine XD_end (h := ?_); repeat (first | refine Zq ?_ | refine Zs ?_ | refine ZT ?_ | refine ZF ?_ | refine Zc ?_ | refine XO_gU (hk := ?_)))
    refine X_cond rfl (fun h => by cases h) (fun _ => ?_)
    repeat (first | refine Zq ?_ | refine Zs ?_ | refine ZT ?_ | refine ZF ?_ | refine Zc ?_ | refine XO_gU (hk := ?_))
    refine XO_call (done_spec b fr.length ys.length c c' P t a a' hl) (hk := ?_)
    rintro _ _ ⟨rfl, rfl⟩
    repeat (first | refine Zq ?_ | refine Zs ?_ | refine ZT ?_ | refine ZF ?_ | refine Zc ?_ | refine XO_gU (hk := ?_))
    refine XE_ret (.inl rfl) (tells_tmps rfl rfl) ⟨_, ⟨rfl, rfl⟩, ?_⟩
    (try simp only [List.cons_append, List.nil_append])
    refine ent_fold (by repeat (first | exact FindAll.nil | exact Find.here | apply Find.there | apply FindAll.cons)) Pg.fold ?_
    ((try simp only [List.cons_append, List.nil_append]); repeat (first | exact ent_refl | refine ent_take (by repeat (first | exact Find.here | apply Find.there)) ?_ | refine ent_drop ?_))
theorem pruns_spec (b : Nat) (P t : Int) (fr : List (Int × Int)) (hl : fr.length ≤ 1048576) : Spec Tryz.prog 82 [.pointer (some ⟨b, 0, none⟩)] [Pg b P fr t] (fun v L => ∃ a c, v = .slice a fr.length c ∧ L = [Pg b P fr t, Sl eRun a c fr]) := by
  refine Spec.intro (IsEnt.out) Tryz.func82 rfl Tryz.ntmps82 (by simp) (fun w0 F => ?_)
  simp only [envOf, List.zipIdx, List.map, List.cons_append, List.nil_append, Nat.zero_add, Nat.reduceAdd]
  repeat (first | refine Zq ?_ | refine Zs ?_ | refine ZT ?_ | refine ZF ?_ | refine Zc ?_ | refine XO_gU (hk := ?_))
  refine X_cond rfl (fun h => by cases h) (fun _ => ?_)
  refine X_open .here Pg.open ?_
  rintro ⟨a, c⟩ -
  dsimp only [List.cons_append, List.nil_append]
  repeat (first | refine Zq ?_ | refine Zs ?_ | refine ZT ?_ | refine ZF ?_ | refine Zc ?_ | refine XO_gU (hk := ?_))
  refine XO_call (clone_spec (Sl eRun a c fr) a c fr.length fr rfl Sl.view hl) (hk := ?_)
  rintro _ _ ⟨a', c', rfl, rfl⟩
  repeat (first | refine Zq ?_ | refine Zs ?_ | refine ZT ?_ | refine ZF ?_ | refine Zc ?_ | refine XO_gU (hk := ?_))
  refine XE_ret (.inl rfl) (tells_tmps rfl rfl) ⟨_, ⟨a', c', rfl, rfl⟩, ?_⟩
  (try simp only [List.cons_append, List.nil_append])
  refine ent_fold (by repeat (first | exact FindAll.nil | exact Find.here | apply Find.there | apply FindAll.cons)) Pg.fold ?_
  ((try simp only [List.cons_append, List.nil_append]); repeat (first | exact ent_refl | refine ent_take (by repeat (first | exact Find.here | apply Find.there)) ?_ | refine ent_drop ?_))
theorem pfree_spec (b : Nat) (P t : Int) (fr : List (Int × Int)) (hl : fr.length ≤ 1048576) (hB : Bd fr) : Spec Tryz.prog 81 [.pointer (some ⟨b, 0, none⟩)] [Pg b P fr t] (fun v L => v = .int .i64 (totI fr) ∧ L = [Pg b P fr t]) := by
  refine Spec.intro (IsEnt.out) Tryz.func81 rfl Tryz.ntmps81 (by simp) (fun w0 F => ?_)
  simp only [envOf, List.zipIdx, List.map, List.cons_append, List.nil_append, Nat.zero_add, Nat.reduceAdd]
  repeat (first | refine Zq ?_ | refine Zs ?_ | refine ZT ?_ | refine ZF ?_ | refine Zc ?_ | refine XO_gU (hk := ?_))
  refine XO_call (pruns_spec b P t fr hl) (hk := ?_)
  rintro _ _ ⟨a', c', rfl, rfl⟩
  repeat (first | refine Zq ?_ | refine Zs ?_ | refine ZT ?_ | refine ZF ?_ | refine Zc ?_ | refine XO_gU (hk := ?_))
  refine XO_call (total_spec (Sl eRun a' c' fr) a' c' fr Sl.view hl hB) (hk := ?_)
  rintro _ _ ⟨rfl, rfl⟩
  repeat (first | refine Zq ?_ | refine Zs ?_ | refine ZT ?_ | refine ZF ?_ | refine Zc ?_ | refine XO_gU (hk := ?_))
  refine XE_ret (.inl rfl) (tells_tmps rfl rfl) ⟨_, ⟨rfl, rfl⟩, by ((try simp only [List.cons_append, List.nil_append]); repeat (first | exact ent_refl | refine ent_take (by repeat (first | exact Find.here | apply Find.there)) ?_ | refine ent_drop ?_))⟩
end Go.Proofs.YtamecmklcnohjaaGreat.Sep
namespace Go.Proofs.YtamecmklcnohjaaGreat.Sep
open Go.RowKit
set_option linter.unusedSimpArgs false
set_option linter.unusedVariables false
set_option maxHeartbeats 8000000
attribute [local irreducible] X XE XO XD XDi XDa PV RV DV pt base Spec Sl Mp Keeps

def cpages (c : Int) : Int := if 0 ≤ c ∧ c < 7 then ((2 ^ c.toNat : Nat) : Int) else 0
def cclass (p : Int) : Int := if p < 1 then -1 else if p ≤ 1 then 0 else if p ≤ 2 then 1 else if p ≤ 4 then 2 else if p ≤ 8 then 3 else if p ≤ 16 then 4 else if p ≤ 32 then 5 else if p ≤ 64 then 6 else -1
theorem seven {c : Int} (h0 : 0 ≤ c) (h1 : c < 7) : c = 0 ∨ c = 1 ∨ c = 2 ∨ c = 3 ∨ c = 4 ∨ c = 5 ∨ c = 6 := by omega
theorem cpages_spec (c : Int) : Spec Tryz.prog 115 [.int .i64 c] [] (fun v L => v = .int .i64 (cpages c) ∧ L = []) := by
  refine Spec.intro (IsEnt.out) Tryz.func115 rfl Tryz.ntmps115 (by simp) (fun w0 F => ?_)
  simp only [envOf, List.zipIdx, List.map, List.cons_append, List.nil_append, Nat.zero_add, Nat.reduceAdd]
  repeat (first | refine Zq ?_ | refine Zs ?_ | refine ZT ?_ | refine ZF ?_ | refine Zc ?_ | refine XO_gU (hk := ?_))
  refine XO_either (hT := fun h => ?_) (hF := fun h => ?_) <;> simp only [decide_eq_true_eq, decide_eq_false_iff_not] at h
  · repeat (first | refine Zq ?_ | refine Zs ?_ | refine ZT ?_ | refine ZF ?_ | refine Zc ?_ | refine XO_gU (hk := ?_))
    refine X_cond rfl (fun _ => ?_) (fun h => by cases h)
    repeat (first | refine Zq ?_ | refine Zs ?_ | refine ZT ?_ | refine ZF ?_ | refine Zc ?_ | refine XO_gU (hk := ?_))
    unfold cpages
    rw [if_neg (by omega)]
    refine XE_ret (.inl rfl) (tells_tmps rfl rfl) ⟨_, ⟨rfl, rfl⟩, by ((try simp only [List.cons_append, List.nil_append]); repeat (first | exact ent_refl | refine ent_take (by repeat (first | exact Find.here | apply Find.there)) ?_ | refine ent_drop ?_))⟩
  · repeat (first | refine Zq ?_ | refine Zs ?_ | refine ZT ?_ | refine ZF ?_ | refine Zc ?_ | refine XO_gU (hk := ?_))
    refine X_cond rfl (fun h2 => ?_) (fun h2 => ?_) <;> simp only [decide_eq_true_eq, decide_eq_false_iff_not] at h2
    · repeat (first | refine Zq ?_ | refine Zs ?_ | refine ZT ?_ | refine ZF ?_ | refine Zc ?_ | refine XO_gU (hk := ?_))
      unfold cpages
      rw [if_neg (by omega)]
      refine XE_ret (.inl rfl) (tells_tmps rfl rfl) ⟨_, ⟨rfl, rfl⟩, by ((try simp only [List.cons_append, List.nil_append]); repeat (first | exact ent_refl | refine ent_take (by repeat (first | exact Find.here | apply Find.there)) ?_ | refine ent_drop ?_))⟩
    · repeat (first | refine Zq ?_ | refine Zs ?_ | refine ZT ?_ | refine ZF ?_ | refine Zc ?_ | refine XO_gU (hk := ?_))
      refine XO_pv (pv_shlN (b := c)) (hk := ?_)
      repeat (first | refine Zq ?_ | refine Zs ?_ | refine ZT ?_ | refine ZF ?_ | refine Zc ?_ | refine XO_gU (hk := ?_))
      have e1 : IntKind.i64.wrap (1 * ((2 ^ min c.toNat IntKind.i64.bits : Nat) : Int)) = cpages c := by
        rcases seven (c := c) (by omega) (by omega) with rfl | rfl | rfl | rfl | rfl | rfl | rfl <;> rfl
      rw [e1]
      refine XE_ret (.inl rfl) (tells_tmps rfl rfl) ⟨_, ⟨rfl, rfl⟩, by ((try simp only [List.cons_append, List.nil_append]); repeat (first | exact ent_refl | refine ent_take (by repeat (first | exact Find.here | apply Find.there)) ?_ | refine ent_drop ?_))⟩
theorem cclass_spec (p : Int) : Spec Tryz.prog 116 [.int .i64 p] [] (fun v L => v = .int .i64 (cclass p) ∧ L = []) := by
  refine Spec.intro (IsEnt.out) Tryz.func116 rfl Tryz.ntmps116 (by simp) (fun w0 F => ?_)
  simp only [envOf, List.zipIdx, List.map, List.cons_append, List.nil_append, Nat.zero_add, Nat.reduceAdd]
  repeat (first | refine Zq ?_ | refine Zs ?_ | refine ZT ?_ | refine ZF ?_ | refine Zc ?_ | refine XO_gU (hk := ?_))
  refine X_loop (ι := Nat) (fun k => k ≤ 7 ∧ ∀ j : Nat, j < k → ¬ (0 < p ∧ p ≤ cpages j)) (fun k => [(0, .int .i64 p), (4, .int .i64 k)]) (fun _ => F) (fun k => 7 - k) 0 ⟨Nat.zero_le _, fun j h => by omega⟩ ?_ (fun _ h => h) ?_
  · (repeat (first | exact Env.sub_nil _ | refine Env.sub_cons rfl ?_))
  rintro k ⟨hk, hj⟩
  dsimp only at hk hj ⊢
  repeat (first | refine Zq ?_ | refine Zs ?_ | refine ZT ?_ | refine ZF ?_ | refine Zc ?_ | refine XO_gU (hk := ?_))
  refine X_cond rfl (fun hc => ?_) (fun hc => ?_) <;> simp only [decide_eq_true_eq, decide_eq_false_iff_not] at hc
  · repeat (first | refine Zq ?_ | refine Zs ?_ | refine ZT ?_ | refine ZF ?_ | refine Zc ?_ | refine XO_gU (hk := ?_))
    refine XO_either (hT := fun h => ?_) (hF := fun h => ?_) <;> simp only [decide_eq_true_eq, decide_eq_false_iff_not] at h
    · repeat (first | refine Zq ?_ | refine Zs ?_ | refine ZT ?_ | refine ZF ?_ | refine Zc ?_ | refine XO_gU (hk := ?_))
      refine XO_call (cpages_spec k) (hk := ?_)
      rintro _ _ ⟨rfl, rfl⟩
      repeat (first | refine Zq ?_ | refine Zs ?_ | refine ZT ?_ | refine ZF ?_ | refine Zc ?_ | refine XO_gU (hk := ?_))
      refine X_cond rfl (fun h2 => ?_) (fun h2 => ?_) <;> simp only [decide_eq_true_eq, decide_eq_false_iff_not] at h2
      · have hcl : cclass p = k := by
          have key : ∀ j : Nat, j < k → cpages j < p := fun j hjk => by have := hj j hjk; omega
          have hk7 : k < 7 := by omega
          have h7 : k = 0 ∨ k = 1 ∨ k = 2 ∨ k = 3 ∨ k = 4 ∨ k = 5 ∨ k = 6 := by omega
          rcases h7 with rfl | rfl | rfl | rfl | rfl | rfl | rfl
          · have h3 : p ≤ 1 := h2
            unfold cclass; split <;> omega
          · have h3 : p ≤ 2 := h2
            have h4 : (1 : Int) < p := key 0 (by decide)
            unfold cclass; repeat' split
            all_goals omega
          · have h3 : p ≤ 4 := h2
            have h4 : (2 : Int) < p := key 1 (by decide)
            unfold cclass; repeat' split
            all_goals omega
          · have h3 : p ≤ 8 := h2
            have h4 : (4 : Int) < p := key 2 (by decide)
            unfold cclass; repeat' split
            all_goals omega
          · have h3 : p ≤ 16 := h2
            have h4 : (8 : Int) < p := key 3 (by decide)
            unfold cclass; repeat' split
            all_goals omega
          · have h3 : p ≤ 32 := h2
            have h4 : (16 : Int) < p := key 4 (by decide)
            unfold cclass; repeat' split
            all_goals omega
          · have h3 : p ≤ 64 := h2
            have h4 : (32 : Int) < p := key 5 (by decide)
            unfold cclass; repeat' split
            all_goals omega
        repeat (first | refine Zq ?_ | refine Zs ?_ | refine ZT ?_ | refine ZF ?_ | refine Zc ?_ | refine XO_gU (hk := ?_))
        rw [← hcl]
        refine XE_ret (.inl rfl) (tells_tmps rfl rfl) ⟨_, ⟨rfl, rfl⟩, by ((try simp only [List.cons_append, List.nil_append]); repeat (first | exact ent_refl | refine ent_take (by repeat (first | exact Find.here | apply Find.there)) ?_ | refine ent_drop ?_))⟩
      · repeat (first | refine Zq ?_ | refine Zs ?_ | refine ZT ?_ | refine ZF ?_ | refine Zc ?_ | refine XO_gU (hk := ?_))
        refine X_round (k + 1) ?_ ?_ ?_ (fun _ h => h)
        · refine ⟨by omega, fun j hjk => ?_⟩
          rcases Nat.lt_or_ge j k with hlt | hge
          · exact hj j hlt
          · obtain rfl : j = k := by omega
            exact fun h3 => h2 h3.2
        · show 7 - (k + 1) < 7 - k; omega
        · (repeat (first | exact Env.sub_nil _ | refine Env.sub_cons rfl ?_))
    · repeat (first | refine Zq ?_ | refine Zs ?_ | refine ZT ?_ | refine ZF ?_ | refine Zc ?_ | refine XO_gU (hk := ?_))
      refine X_cond rfl (fun h => by cases h) (fun _ => ?_)
      repeat (first | refine Zq ?_ | refine Zs ?_ | refine ZT ?_ | refine ZF ?_ | refine Zc ?_ | refine XO_gU (hk := ?_))
      refine X_round (k + 1) ?_ ?_ ?_ (fun _ h => h)
      · refine ⟨by omega, fun j hjk h3 => h h3.1⟩
      · show 7 - (k + 1) < 7 - k; omega
      · (repeat (first | exact Env.sub_nil _ | refine Env.sub_cons rfl ?_))
  · obtain rfl : k = 7 := by omega
    have hcl : cclass p = -1 := by
      by_cases h0 : 0 < p
      · have h4 : (64 : Int) < p := by
          have := hj 6 (by decide)
          have e : cpages ((6 : Nat) : Int) = 64 := rfl
          rw [e] at this; omega
        unfold cclass; repeat' split
        all_goals omega
      · unfold cclass; rw [if_pos (by omega)]
    repeat (first | refine Zq ?_ | refine Zs ?_ | refine ZT ?_ | refine ZF ?_ | refine Zc ?_ | refine XO_gU (hk := ?_))
    rw [← hcl]
    refine XE_ret (.inl rfl) (tells_tmps rfl rfl) ⟨_, ⟨rfl, rfl⟩, by ((try simp only [List.cons_append, List.nil_append]); repeat (first | exact ent_refl | refine ent_take (by repeat (first | exact Find.here | apply Find.there)) ?_ | refine ent_drop ?_))⟩
end Go.Proofs.YtamecmklcnohjaaGreat.Sep
namespace Go.Proofs.YtamecmklcnohjaaGreat.Sep
open Go.RowKit
set_option linter.unusedSimpArgs false
set_option linter.unusedVariables false

/-- What is kept: a stack for each of seven classes. -/
def KcRel (fl : List Int) (ks : Nat → List Int) : Prop := fl.length = 35 ∧ ∀ k, k < 7 → (ks k).length ≤ 4 ∧ fl.getD (k * 5 + 4) 0 = ((ks k).length : Int) ∧ ∀ j, j < (ks k).length → fl.getD (k * 5 + j) 0 = (ks k).getD j 0
def Kc (b : Nat) (ks : Nat → List Int) : HP := fun H => ∃ fl, KcRel fl ks ∧ SL [Sl (eI .i64) (some ⟨b, 0, none⟩) 35 fl] H
theorem Kc.open {b : Nat} {ks : Nat → List Int} : ∀ H, Kc b ks H → ∃ fl, KcRel fl ks ∧ SL [Sl (eI .i64) (some ⟨b, 0, none⟩) 35 fl] H := fun H h => h
theorem Kc.fold {b : Nat} {fl : List Int} {ks : Nat → List Int} (h : KcRel fl ks) : ∀ H, SL [Sl (eI .i64) (some ⟨b, 0, none⟩) 35 fl] H → Kc b ks H := fun H hs => ⟨fl, h, hs⟩
def upd {α : Type} (ks : Nat → α) (c : Nat) (l : α) : Nat → α := fun k => if k = c then l else ks k
set_option maxHeartbeats 8000000
attribute [local irreducible] X XE XO XD XDi XDa PV RV DV pt base Spec Sl Mp Keeps Kc

theorem KcRel.none : KcRel (List.replicate 35 0) (fun _ => []) := by
  refine ⟨by simp, fun k hk => ⟨Nat.zero_le _, ?_, fun j hj => by simp at hj⟩⟩
  have : k = 0 ∨ k = 1 ∨ k = 2 ∨ k = 3 ∨ k = 4 ∨ k = 5 ∨ k = 6 := by omega
  rcases this with rfl | rfl | rfl | rfl | rfl | rfl | rfl <;> rfl
theorem getD_set {fl : List Int} {i j : Nat} {v : Int} (hi : i < fl.length) : (fl.set i v).getD j 0 = if i = j then v else fl.getD j 0 := by
  simp only [List.getD, List.getElem?_set]
  by_cases h : i = j
  · subst h; simp [hi]
  · simp [h]
theorem KcRel.push {fl : List Int} {ks : Nat → List Int} {c : Nat} {p : Int} (h : KcRel fl ks) (hc : c < 7) (hn : (ks c).length < 4) : KcRel ((fl.set (c * 5 + (ks c).length) p).set (c * 5 + 4) ((ks c).length + 1)) (upd ks c (ks c ++ [p])) := by
  obtain ⟨hl, hk⟩ := h
  have l1 : c * 5 + (ks c).length < fl.length := by omega
  have l2 : c * 5 + 4 < (fl.set (c * 5 + (ks c).length) p).length := by simp; omega
  refine ⟨by simp [hl], fun k hk7 => ?_⟩
  obtain ⟨g1, g2, g3⟩ := hk k hk7
  unfold upd
  by_cases hkc : k = c
  · subst hkc
    simp only [if_true]
    refine ⟨by simp; omega, ?_, fun j hj => ?_⟩
    · rw [getD_set l2, if_pos rfl]; simp
    · rw [getD_set l2, if_neg (by simp at hj; omega), getD_set l1]
      by_cases hj2 : j = (ks k).length
      · subst hj2; rw [if_pos rfl]; simp [List.getD]
      · simp at hj
        rw [if_neg (by omega), g3 j (by omega)]
        simp [List.getD, List.getElem?_append_left (show j < (ks k).length by omega)]
  · simp only [if_neg hkc]
    refine ⟨g1, ?_, fun j hj => ?_⟩
    · rw [getD_set l2, if_neg (by omega), getD_set l1, if_neg (by omega)]; exact g2
    · rw [getD_set l2, if_neg (by omega), getD_set l1, if_neg (by omega)]; exact g3 j hj
theorem KcRel.pop {fl : List Int} {ks : Nat → List Int} {c : Nat} (h : KcRel fl ks) (hc : c < 7) : KcRel (fl.set (c * 5 + 4) ((ks c).length - 1 : Nat)) (upd ks c (ks c).dropLast) := by
  obtain ⟨hl, hk⟩ := h
  have l2 : c * 5 + 4 < fl.length := by omega
  refine ⟨by simp [hl], fun k hk7 => ?_⟩
  obtain ⟨g1, g2, g3⟩ := hk k hk7
  unfold upd
  by_cases hkc : k = c
  · subst hkc
    simp only [if_true]
    refine ⟨by simp; omega, ?_, fun j hj => ?_⟩
    · rw [getD_set l2, if_pos rfl]; simp
    · simp at hj
      rw [getD_set l2, if_neg (by omega), g3 j (by omega)]
      rw [List.getD, List.getD, List.getElem?_dropLast, if_pos (by omega)]
  · simp only [if_neg hkc]
    refine ⟨g1, ?_, fun j hj => ?_⟩
    · rw [getD_set l2, if_neg (by omega)]; exact g2
    · rw [getD_set l2, if_neg (by omega)]; exact g3 j hj
theorem cnew_spec : Spec Tryz.prog 55 [] [] (fun v L => ∃ b, v = .pointer (some ⟨b, 0, none⟩) ∧ L = [Kc b (fun _ => [])]) := by
  refine Spec.intro (IsEnt.out) Tryz.func55 rfl Tryz.ntmps55 (by simp) (fun w0 F => ?_)
  simp only [envOf, List.zipIdx, List.map, List.cons_append, List.nil_append, Nat.zero_add, Nat.reduceAdd]
  repeat (first | refine Zq ?_ | refine Zs ?_ | refine ZT ?_ | refine ZF ?_ | refine Zc ?_ | refine XO_gU (hk := ?_))
  refine XO_dv dv_box (hk := ?_)
  rintro _ _ ⟨b, rfl, rfl⟩
  refine XO_conv (fun _ h => SL.head (Sl.of_pt (E' := eI .i64) (xs := List.replicate 35 0) rfl) h) ?_
  repeat (first | refine Zq ?_ | refine Zs ?_ | refine ZT ?_ | refine ZF ?_ | refine Zc ?_ | refine XO_gU (hk := ?_))
  refine XE_ret (.inl rfl) (tells_tmps rfl rfl) ⟨_, ⟨b, rfl, rfl⟩, ?_⟩
  refine ent_fold (by repeat (first | exact FindAll.nil | exact Find.here | apply Find.there | apply FindAll.cons)) (Kc.fold KcRel.none) ?_
  ((try simp only [List.cons_append, List.nil_append]); repeat (first | exact ent_refl | refine ent_take (by repeat (first | exact Find.here | apply Find.there)) ?_ | refine ent_drop ?_))
/-- Where a class's stack lies. -/
def ofC (b : Nat) (c : Int) : Option Addr := if 0 ≤ c ∧ c < 7 then some ⟨b, c.toNat * 5, none⟩ else none
theorem cpages_pos {c : Int} (h0 : 0 ≤ c) (h1 : c < 7) : 0 < cpages c := by
  unfold cpages
  rw [if_pos ⟨h0, h1⟩]
  have := Nat.two_pow_pos c.toNat
  omega
theorem cof_spec (b : Nat) (c : Int) : Spec Tryz.prog 165 [.pointer (some ⟨b, 0, none⟩), .int .i64 c] [] (fun v L => v = .pointer (ofC b c) ∧ L = []) := by
  refine Spec.intro (IsEnt.out) Tryz.func165 rfl Tryz.ntmps165 (by simp) (fun w0 F => ?_)
  simp only [envOf, List.zipIdx, List.map, List.cons_append, List.nil_append, Nat.zero_add, Nat.reduceAdd]
  repeat (first | refine Zq ?_ | refine Zs ?_ | refine ZT ?_ | refine ZF ?_ | refine Zc ?_ | refine XO_gU (hk := ?_))
  refine XO_call (cpages_spec c) (hk := ?_)
  rintro _ _ ⟨rfl, rfl⟩
  repeat (first | refine Zq ?_ | refine Zs ?_ | refine ZT ?_ | refine ZF ?_ | refine Zc ?_ | refine XO_gU (hk := ?_))
  refine X_cond rfl (fun h => ?_) (fun h => ?_)
  · have h0 : cpages c = 0 := by simpa using h
    have hn : ¬ (0 ≤ c ∧ c < 7) := fun h' => by have := cpages_pos h'.1 h'.2; omega
    have ho : ofC b c = none := by unfold ofC; rw [if_neg hn]
    rw [ho]
    repeat (first | refine Zq ?_ | refine Zs ?_ | refine ZT ?_ | refine ZF ?_ | refine Zc ?_ | refine XO_gU (hk := ?_))
    refine XE_ret (.inl rfl) (tells_tmps rfl rfl) ⟨_, ⟨rfl, rfl⟩, by ((try simp only [List.cons_append, List.nil_append]); repeat (first | exact ent_refl | refine ent_take (by repeat (first | exact Find.here | apply Find.there)) ?_ | refine ent_drop ?_))⟩
  · have h0 : ¬ cpages c = 0 := by simpa using h
    have hn : 0 ≤ c ∧ c < 7 := by
      refine Decidable.byContradiction fun h' => h0 ?_
      unfold cpages; rw [if_neg h']
    have ho : ofC b c = some ⟨b, c.toNat * 5, none⟩ := by unfold ofC; rw [if_pos hn]
    rw [ho]
    repeat (first | refine Zq ?_ | refine Zs ?_ | refine ZT ?_ | refine ZF ?_ | refine Zc ?_ | refine XO_gU (hk := ?_))
    refine XE_ret (.inl rfl) (tells_tmps rfl rfl) ⟨_, ⟨?_, rfl⟩, by ((try simp only [List.cons_append, List.nil_append]); repeat (first | exact ent_refl | refine ent_take (by repeat (first | exact Find.here | apply Find.there)) ?_ | refine ent_drop ?_))⟩
    show Value.pointer _ = _
    simp
def cpushP (b : Nat) (ks : Nat → List Int) (c p : Int) : Value → List HP → Prop :=
  if 0 ≤ c ∧ c < 7 ∧ 0 ≤ p ∧ (ks c.toNat).length < 4 then fun v L => v = .bool true ∧ L = [Kc b (upd ks c.toNat (ks c.toNat ++ [p]))] else fun v L => v = .bool false ∧ L = [Kc b ks]
theorem cpush_spec (b : Nat) (ks : Nat → List Int) (c p : Int) : Spec Tryz.prog 130 [.pointer (some ⟨b, 0, none⟩), .int .i64 c, .int .i64 p] [Kc b ks] (cpushP b ks c p) := by
  refine Spec.intro (IsEnt.out) Tryz.func130 rfl Tryz.ntmps130 (by simp) (fun w0 F => ?_)
  simp only [envOf, List.zipIdx, List.map, List.cons_append, List.nil_append, Nat.zero_add, Nat.reduceAdd]
  repeat (first | refine Zq ?_ | refine Zs ?_ | refine ZT ?_ | refine ZF ?_ | refine Zc ?_ | refine XO_gU (hk := ?_))
  refine XO_call (cof_spec b c) (hk := ?_)
  rintro _ _ ⟨rfl, rfl⟩
  by_cases hc : 0 ≤ c ∧ c < 7
  · have ho : ofC b c = some ⟨b, c.toNat * 5, none⟩ := by unfold ofC; rw [if_pos hc]
    rw [ho]
    repeat (first | refine Zq ?_ | refine Zs ?_ | refine ZT ?_ | refine ZF ?_ | refine Zc ?_ | refine XO_gU (hk := ?_))
    refine XO_either (hT := fun h => ?_) (hF := fun h => ?_) <;> simp only [decide_eq_true_eq, decide_eq_false_iff_not] at h
    · have hP : cpushP b ks c p = fun v L => v = .bool false ∧ L = [Kc b ks] := by unfold cpushP; rw [if_neg (by omega)]
      rw [hP]
      repeat (first | refine Zq ?_ | refine Zs ?_ | refine ZT ?_ | refine ZF ?_ | refine Zc ?_ | refine XO_gU (hk := ?_))
      refine X_cond rfl (fun _ => ?_) (fun h => by cases h)
      repeat (first | refine Zq ?_ | refine Zs ?_ | refine ZT ?_ | refine ZF ?_ | refine Zc ?_ | refine XO_gU (hk := ?_))
      refine XE_ret (.inl rfl) (tells_tmps rfl rfl) ⟨_, ⟨rfl, rfl⟩, by ((try simp only [List.cons_append, List.nil_append]); repeat (first | exact ent_refl | refine ent_take (by repeat (first | exact Find.here | apply Find.there)) ?_ | refine ent_drop ?_))⟩
    refine XO_open .here Kc.open ?_
    rintro fl ⟨hl, hk⟩
    dsimp only [List.cons_append, List.nil_append]
    obtain ⟨k1, k2, k3⟩ := hk c.toNat (by omega)
    repeat (first | refine Zq ?_ | refine Zs ?_ | refine ZT ?_ | refine ZF ?_ | refine Zc ?_ | refine XO_gU (hk := ?_))
    refine XO_rv (rv_at (i := c.toNat * 5 + 4)) (hk := ?_)
    rw [k2]
    repeat (first | refine Zq ?_ | refine Zs ?_ | refine ZT ?_ | refine ZF ?_ | refine Zc ?_ | refine XO_gU (hk := ?_))
    refine X_cond rfl (fun h2 => ?_) (fun h2 => ?_)
    · have h3 : ((ks c.toNat).length : Int) = 4 := by simpa using h2
      have hP : cpushP b ks c p = fun v L => v = .bool false ∧ L = [Kc b ks] := by unfold cpushP; rw [if_neg (by omega)]
      rw [hP]
      repeat (first | refine Zq ?_ | refine Zs ?_ | refine ZT ?_ | refine ZF ?_ | refine Zc ?_ | refine XO_gU (hk := ?_))
      refine XE_ret (.inl rfl) (tells_tmps rfl rfl) ⟨_, ⟨rfl, rfl⟩, ?_⟩
      refine ent_fold (by repeat (first | exact FindAll.nil | exact Find.here | apply Find.there | apply FindAll.cons)) (Kc.fold ⟨hl, hk⟩) ?_
      ((try simp only [List.cons_append, List.nil_append]); repeat (first | exact ent_refl | refine ent_take (by repeat (first | exact Find.here | apply Find.there)) ?_ | refine ent_drop ?_))
    · have h3 : ¬ ((ks c.toNat).length : Int) = 4 := by simpa using h2
      have hP : cpushP b ks c p = fun v L => v = .bool true ∧ L = [Kc b (upd ks c.toNat (ks c.toNat ++ [p]))] := by unfold cpushP; rw [if_pos (by omega)]
      rw [hP]
      have hpu := KcRel.push (p := p) ⟨hl, hk⟩ (show c.toNat < 7 by omega) (by omega)
      repeat (first | refine Zq ?_ | refine Zs ?_ | refine ZT ?_ | refine ZF ?_ | refine Zc ?_ | refine XO_gU (hk := ?_))
      repeat (first | refine XD_pick (h := ?_) | refine Dq ?_ | refine Ds ?_ | refine XDi_gF (h := ?_) | refine XDi_gU (h := ?_) | refine X_draws (h := ?_))
      refine XDi_rvA (rv_at (i := c.toNat * 5 + 4)) (h := ?_)
      rw [k2]
      repeat (first | refine XD_pick (h := ?_) | refine Dq ?_ | refine Ds ?_ | refine XDi_gF (h := ?_) | refine XDi_gU (h := ?_) | refine X_draws (h := ?_))
      refine XD_one (h := ?_)
      refine XDa_dvk0 (dv_putAt (kk := .i64) (i := c.toNat * 5 + (ks c.toNat).length * 1)) (K := _) (hk := ?_)
      rintro _ _ rfl
      refine ⟨by (repeat (first | exact keeps_nil | exact keeps_fnil | refine keeps_skip (h := ?_) | refine keeps_takeQ (h := ?_))), ?_⟩
      simp only [Nat.mul_one]
      (refine XD_end (h := ?_); repeat (first | refine Zq ?_ | refine Zs ?_ | refine ZT ?_ | refine ZF ?_ | refine Zc ?_ | refine XO_gU (hk := ?_)))
      refine XO_rv (rv_at (i := c.toNat * 5 + 4) (hl := by simp; omega)) (hk := ?_)
      rw [getD_set (by omega), if_neg (by omega), k2]
      repeat (first | refine Zq ?_ | refine Zs ?_ | refine ZT ?_ | refine ZF ?_ | refine Zc ?_ | refine XO_gU (hk := ?_))
      refine XO_dv0 (dv_putAt (kk := .i64) (i := c.toNat * 5 + 4) (hl := by simp; omega)) (hk := ?_)
      rintro _ _ rfl
      repeat (first | refine Zq ?_ | refine Zs ?_ | refine ZT ?_ | refine ZF ?_ | refine Zc ?_ | refine XO_gU (hk := ?_))
      refine XE_ret (.inl rfl) (tells_tmps rfl rfl) ⟨_, ⟨rfl, rfl⟩, ?_⟩
      refine ent_fold (by repeat (first | exact FindAll.nil | exact Find.here | apply Find.there | apply FindAll.cons)) (Kc.fold hpu) ?_
      ((try simp only [List.cons_append, List.nil_append]); repeat (first | exact ent_refl | refine ent_take (by repeat (first | exact Find.here | apply Find.there)) ?_ | refine ent_drop ?_))
  · have ho : ofC b c = none := by unfold ofC; rw [if_neg hc]
    have hP : cpushP b ks c p = fun v L => v = .bool false ∧ L = [Kc b ks] := by unfold cpushP; rw [if_neg (by omega)]
    rw [ho, hP]
    repeat (first | refine Zq ?_ | refine Zs ?_ | refine ZT ?_ | refine ZF ?_ | refine Zc ?_ | refine XO_gU (hk := ?_))
    refine X_cond rfl (fun _ => ?_) (fun h => by cases h)
    repeat (first | refine Zq ?_ | refine Zs ?_ | refine ZT ?_ | refine ZF ?_ | refine Zc ?_ | refine XO_gU (hk := ?_))
    refine XE_ret (.inl rfl) (tells_tmps rfl rfl) ⟨_, ⟨rfl, rfl⟩, by ((try simp only [List.cons_append, List.nil_append]); repeat (first | exact ent_refl | refine ent_take (by repeat (first | exact Find.here | apply Find.there)) ?_ | refine ent_drop ?_))⟩
def cpopP (b : Nat) (ks : Nat → List Int) (c : Int) : Value → List HP → Prop :=
  if 0 ≤ c ∧ c < 7 ∧ 0 < (ks c.toNat).length then fun v L => v = .tuple #[.int .i64 ((ks c.toNat).getD ((ks c.toNat).length - 1) 0), .bool true] ∧ L = [Kc b (upd ks c.toNat (ks c.toNat).dropLast)] else fun v L => v = .tuple #[.int .i64 0, .bool false] ∧ L = [Kc b ks]
theorem cpop_spec (b : Nat) (ks : Nat → List Int) (c : Int) : Spec Tryz.prog 127 [.pointer (some ⟨b, 0, none⟩), .int .i64 c] [Kc b ks] (cpopP b ks c) := by
  refine Spec.intro (IsEnt.out) Tryz.func127 rfl Tryz.ntmps127 (by simp) (fun w0 F => ?_)
  simp only [envOf, List.zipIdx, List.map, List.cons_append, List.nil_append, Nat.zero_add, Nat.reduceAdd]
  repeat (first | refine Zq ?_ | refine Zs ?_ | refine ZT ?_ | refine ZF ?_ | refine Zc ?_ | refine XO_gU (hk := ?_))
  refine XO_call (cof_spec b c) (hk := ?_)
  rintro _ _ ⟨rfl, rfl⟩
  by_cases hc : 0 ≤ c ∧ c < 7
  · have ho : ofC b c = some ⟨b, c.toNat * 5, none⟩ := by unfold ofC; rw [if_pos hc]
    rw [ho]
    repeat (first | refine Zq ?_ | refine Zs ?_ | refine ZT ?_ | refine ZF ?_ | refine Zc ?_ | refine XO_gU (hk := ?_))
    refine XO_open .here Kc.open ?_
    rintro fl ⟨hl, hk⟩
    dsimp only [List.cons_append, List.nil_append]
    obtain ⟨k1, k2, k3⟩ := hk c.toNat (by omega)
    repeat (first | refine Zq ?_ | refine Zs ?_ | refine ZT ?_ | refine ZF ?_ | refine Zc ?_ | refine XO_gU (hk := ?_))
    refine XO_rv (rv_at (i := c.toNat * 5 + 4)) (hk := ?_)
    rw [k2]
    repeat (first | refine Zq ?_ | refine Zs ?_ | refine ZT ?_ | refine ZF ?_ | refine Zc ?_ | refine XO_gU (hk := ?_))
    refine X_cond rfl (fun h2 => ?_) (fun h2 => ?_)
    · have h3 : ((ks c.toNat).length : Int) = 0 := by simpa using h2
      have hP : cpopP b ks c = fun v L => v = .tuple #[.int .i64 0, .bool false] ∧ L = [Kc b ks] := by unfold cpopP; rw [if_neg (by omega)]
      rw [hP]
      repeat (first | refine Zq ?_ | refine Zs ?_ | refine ZT ?_ | refine ZF ?_ | refine Zc ?_ | refine XO_gU (hk := ?_))
      refine XE_ret (.inl rfl) (tells_tmps rfl rfl) ⟨_, ⟨rfl, rfl⟩, ?_⟩
      refine ent_fold (by repeat (first | exact FindAll.nil | exact Find.here | apply Find.there | apply FindAll.cons)) (Kc.fold ⟨hl, hk⟩) ?_
      ((try simp only [List.cons_append, List.nil_append]); repeat (first | exact ent_refl | refine ent_take (by repeat (first | exact Find.here | apply Find.there)) ?_ | refine ent_drop ?_))
    · have h3 : ¬ ((ks c.toNat).length : Int) = 0 := by simpa using h2
      have hP : cpopP b ks c = fun v L => v = .tuple #[.int .i64 ((ks c.toNat).getD ((ks c.toNat).length - 1) 0), .bool true] ∧ L = [Kc b (upd ks c.toNat (ks c.toNat).dropLast)] := by unfold cpopP; rw [if_pos (by omega)]
      rw [hP]
      have hpo := KcRel.pop ⟨hl, hk⟩ (show c.toNat < 7 by omega)
      have k4 := k3 ((ks c.toNat).length - 1) (by omega)
      have k5 : (((ks c.toNat).length - 1 : Nat) : Int) = ((ks c.toNat).length : Int) - 1 := by omega
      repeat (first | refine Zq ?_ | refine Zs ?_ | refine ZT ?_ | refine ZF ?_ | refine Zc ?_ | refine XO_gU (hk := ?_))
      refine XO_rv (rv_at (i := c.toNat * 5 + 4)) (hk := ?_)
      rw [k2]
      repeat (first | refine Zq ?_ | refine Zs ?_ | refine ZT ?_ | refine ZF ?_ | refine Zc ?_ | refine XO_gU (hk := ?_))
      refine XO_dv0 (dv_putAt (kk := .i64) (i := c.toNat * 5 + 4)) (hk := ?_)
      rintro _ _ rfl
      rw [← k5]
      repeat (first | refine Zq ?_ | refine Zs ?_ | refine ZT ?_ | refine ZF ?_ | refine Zc ?_ | refine XO_gU (hk := ?_))
      repeat (first | refine XD_pick (h := ?_) | refine Dq ?_ | refine Ds ?_ | refine XDi_gF (h := ?_) | refine XDi_gU (h := ?_) | refine X_draws (h := ?_))
      refine XDi_rvA (rv_at (i := c.toNat * 5 + 4) (hl := by simp; omega)) (h := ?_)
      rw [getD_set (by omega), if_pos rfl]
      repeat (first | refine XD_pick (h := ?_) | refine Dq ?_ | refine Ds ?_ | refine XDi_gF (h := ?_) | refine XDi_gU (h := ?_) | refine X_draws (h := ?_))
      refine XDi_rvA (rv_at (i := c.toNat * 5 + ((ks c.toNat).length - 1) * 1) (hl := by simp; omega)) (h := ?_)
      simp only [Nat.mul_one]
      rw [getD_set (by omega), if_neg (by omega), k4]
      repeat (first | refine XD_pick (h := ?_) | refine Dq ?_ | refine Ds ?_ | refine XDi_gF (h := ?_) | refine XDi_gU (h := ?_) | refine X_draws (h := ?_))
      (refine XD_one (h := ?_); refine XDa_dvA (dv_of_rv (rv_of_pv pv_assign)) (hk := ?_); rintro _ _ ⟨rfl, rfl⟩; refine ⟨by (repeat (first | exact keeps_nil | exact keeps_fnil | refine keeps_skip (h := ?_) | refine keeps_takeQ (h := ?_))), ?_⟩)
      (refine XD_one (h := ?_); refine XDa_dvA (dv_of_rv (rv_of_pv pv_assign)) (hk := ?_); rintro _ _ ⟨rfl, rfl⟩; refine ⟨by (repeat (first | exact keeps_nil | exact keeps_fnil | refine keeps_skip (h := ?_) | refine keeps_takeQ (h := ?_))), ?_⟩)
      (refine XD_end (h := ?_); repeat (first | refine Zq ?_ | refine Zs ?_ | refine ZT ?_ | refine ZF ?_ | refine Zc ?_ | refine XO_gU (hk := ?_)))
      refine XE_ret (.inl rfl) (tells_tmps rfl rfl) ⟨_, ⟨rfl, rfl⟩, ?_⟩
      refine ent_fold (by repeat (first | exact FindAll.nil | exact Find.here | apply Find.there | apply FindAll.cons)) (Kc.fold hpo) ?_
      ((try simp only [List.cons_append, List.nil_append]); repeat (first | exact ent_refl | refine ent_take (by repeat (first | exact Find.here | apply Find.there)) ?_ | refine ent_drop ?_))
  · have ho : ofC b c = none := by unfold ofC; rw [if_neg hc]
    have hP : cpopP b ks c = fun v L => v = .tuple #[.int .i64 0, .bool false] ∧ L = [Kc b ks] := by unfold cpopP; rw [if_neg (by omega)]
    rw [ho, hP]
    repeat (first | refine Zq ?_ | refine Zs ?_ | refine ZT ?_ | refine ZF ?_ | refine Zc ?_ | refine XO_gU (hk := ?_))
    refine X_cond rfl (fun _ => ?_) (fun h => by cases h)
    repeat (first | refine Zq ?_ | refine Zs ?_ | refine ZT ?_ | refine ZF ?_ | refine Zc ?_ | refine XO_gU (hk := ?_))
    refine XE_ret (.inl rfl) (tells_tmps rfl rfl) ⟨_, ⟨rfl, rfl⟩, by ((try simp only [List.cons_append, List.nil_append]); repeat (first | exact ent_refl | refine ent_take (by repeat (first | exact Find.here | apply Find.there)) ?_ | refine ent_drop ?_))⟩
theorem clen_spec (b : Nat) (ks : Nat → List Int) (c : Int) (h0 : 0 ≤ c) (h1 : c < 7) : Spec Tryz.prog 131 [.pointer (some ⟨b, 0, none⟩), .int .i64 c] [Kc b ks] (fun v L => v = .int .i64 ((ks c.toNat).length : Int) ∧ L = [Kc b ks]) := by
  refine Spec.intro (IsEnt.out) Tryz.func131 rfl Tryz.ntmps131 (by simp) (fun w0 F => ?_)
  simp only [envOf, List.zipIdx, List.map, List.cons_append, List.nil_append, Nat.zero_add, Nat.reduceAdd]
  repeat (first | refine Zq ?_ | refine Zs ?_ | refine ZT ?_ | refine ZF ?_ | refine Zc ?_ | refine XO_gU (hk := ?_))
  refine XO_call (cof_spec b c) (hk := ?_)
  rintro _ _ ⟨rfl, rfl⟩
  have ho : ofC b c = some ⟨b, c.toNat * 5, none⟩ := by unfold ofC; rw [if_pos ⟨h0, h1⟩]
  rw [ho]
  repeat (first | refine Zq ?_ | refine Zs ?_ | refine ZT ?_ | refine ZF ?_ | refine Zc ?_ | refine XO_gU (hk := ?_))
  refine X_cond rfl (fun h => by cases h) (fun _ => ?_)
  refine X_open .here Kc.open ?_
  rintro fl ⟨hl, hk⟩
  dsimp only [List.cons_append, List.nil_append]
  obtain ⟨k1, k2, k3⟩ := hk c.toNat (by omega)
  repeat (first | refine Zq ?_ | refine Zs ?_ | refine ZT ?_ | refine ZF ?_ | refine Zc ?_ | refine XO_gU (hk := ?_))
  refine XO_rv (rv_at (i := c.toNat * 5 + 4)) (hk := ?_)
  rw [k2]
  repeat (first | refine Zq ?_ | refine Zs ?_ | refine ZT ?_ | refine ZF ?_ | refine Zc ?_ | refine XO_gU (hk := ?_))
  refine XE_ret (.inl rfl) (tells_tmps rfl rfl) ⟨_, ⟨rfl, rfl⟩, ?_⟩
  refine ent_fold (by repeat (first | exact FindAll.nil | exact Find.here | apply Find.there | apply FindAll.cons)) (Kc.fold ⟨hl, hk⟩) ?_
  ((try simp only [List.cons_append, List.nil_append]); repeat (first | exact ent_refl | refine ent_take (by repeat (first | exact Find.here | apply Find.there)) ?_ | refine ent_drop ?_))
def kpages (ks : Nat → List Int) : Nat → Int
  | 0 => 0
  | k + 1 => kpages ks k + (ks k).length * cpages k
def kall (ks : Nat → List Int) : Nat → List (Int × Int)
  | 0 => []
  | k + 1 => kall ks k ++ (ks k).map fun p => (p, cpages k)
end Go.Proofs.YtamecmklcnohjaaGreat.Sep
namespace Go.Proofs.YtamecmklcnohjaaGreat.Sep
open Go.RowKit
set_option linter.unusedSimpArgs false
set_option linter.unusedVariables false
set_option maxHeartbeats 8000000
attribute [local irreducible] X XE XO XD XDi XDa PV RV DV pt base Spec Sl Mp Keeps Kc

theorem Kc.bound {b : Nat} {ks : Nat → List Int} : ∀ H, Kc b ks H → ∀ k, k < 7 → (ks k).length ≤ 4 := by
  intro H h
  unfold Kc at h
  obtain ⟨fl, h, _⟩ := h
  exact fun k hk => (h.2 k hk).1
theorem cpages_le (k : Nat) (h : k < 7) : 1 ≤ cpages k ∧ cpages k ≤ 64 := by
  have : k = 0 ∨ k = 1 ∨ k = 2 ∨ k = 3 ∨ k = 4 ∨ k = 5 ∨ k = 6 := by omega
  rcases this with rfl | rfl | rfl | rfl | rfl | rfl | rfl <;> decide
theorem kmul_le {n : Nat} {k : Nat} (h : k < 7) (hn : n ≤ 4) : 0 ≤ (n : Int) * cpages k ∧ (n : Int) * cpages k ≤ 256 := by
  obtain ⟨h1, h2⟩ := cpages_le k h
  refine ⟨Int.mul_nonneg (by omega) (by omega), ?_⟩
  have := Int.mul_le_mul (show (n : Int) ≤ 4 by omega) h2 (by omega) (by decide)
  omega
theorem kpages_le {ks : Nat → List Int} (hb : ∀ k, k < 7 → (ks k).length ≤ 4) : ∀ k, k ≤ 7 → 0 ≤ kpages ks k ∧ kpages ks k ≤ 256 * k
  | 0, _ => by simp [kpages]
  | k + 1, h => by
    have h1 := kpages_le hb k (by omega)
    have h2 := kmul_le (n := (ks k).length) (show k < 7 by omega) (hb k (by omega))
    simp only [kpages]
    push_cast
    omega
theorem kall_le {ks : Nat → List Int} (hb : ∀ k, k < 7 → (ks k).length ≤ 4) : ∀ k, k ≤ 7 → (kall ks k).length ≤ 4 * k
  | 0, _ => by simp [kall]
  | k + 1, h => by
    have h1 := kall_le hb k (by omega)
    have h2 := hb k (by omega)
    simp only [kall, List.length_append, List.length_map]
    omega
theorem cpagesum_spec (b : Nat) (ks : Nat → List Int) : Spec Tryz.prog 80 [.pointer (some ⟨b, 0, none⟩)] [Kc b ks] (fun v L => v = .int .i64 (kpages ks 7) ∧ L = [Kc b ks]) := by
  refine Spec.intro (IsEnt.out) Tryz.func80 rfl Tryz.ntmps80 (by simp) (fun w0 F => ?_)
  simp only [envOf, List.zipIdx, List.map, List.cons_append, List.nil_append, Nat.zero_add, Nat.reduceAdd]
  refine X_fact (A := Kc b ks) .here Kc.bound (fun hb => ?_)
  repeat (first | refine Zq ?_ | refine Zs ?_ | refine ZT ?_ | refine ZF ?_ | refine Zc ?_ | refine XO_gU (hk := ?_))
  refine X_loop (ι := Nat) (fun k => k ≤ 7) (fun k => [(0, .pointer (some ⟨b, 0, none⟩)), (5, .int .i64 k), (3, .int .i64 (kpages ks k))]) (fun _ => Kc b ks :: F) (fun k => 7 - k) 0 (Nat.zero_le _) ?_ (by ((try simp only [List.cons_append, List.nil_append]); repeat (first | exact ent_refl | refine ent_take (by repeat (first | exact Find.here | apply Find.there)) ?_ | refine ent_drop ?_))) ?_
  · (repeat (first | exact Env.sub_nil _ | refine Env.sub_cons rfl ?_))
  intro k hk
  dsimp only at hk ⊢
  repeat (first | refine Zq ?_ | refine Zs ?_ | refine ZT ?_ | refine ZF ?_ | refine Zc ?_ | refine XO_gU (hk := ?_))
  refine X_cond rfl (fun hc => ?_) (fun hc => ?_) <;> simp only [decide_eq_true_eq, decide_eq_false_iff_not] at hc
  · have hk7 : k < 7 := by omega
    have h1 := kpages_le hb k hk
    have h2 := kmul_le (n := (ks k).length) hk7 (hb k hk7)
    repeat (first | refine Zq ?_ | refine Zs ?_ | refine ZT ?_ | refine ZF ?_ | refine Zc ?_ | refine XO_gU (hk := ?_))
    refine XO_call (clen_spec b ks k (by omega) (by omega)) (hk := ?_)
    rintro _ _ ⟨rfl, rfl⟩
    repeat (first | refine Zq ?_ | refine Zs ?_ | refine ZT ?_ | refine ZF ?_ | refine Zc ?_ | refine XO_gU (hk := ?_))
    refine XO_call (cpages_spec k) (hk := ?_)
    rintro _ _ ⟨rfl, rfl⟩
    simp only [Int.toNat_natCast]
    repeat (first | refine Zq ?_ | refine Zs ?_ | refine ZT ?_ | refine ZF ?_ | refine Zc ?_ | refine XO_gU (hk := ?_))
    refine X_round (k + 1) (by show k + 1 ≤ 7; omega) (by show 7 - (k + 1) < 7 - k; omega) (by (repeat (first | exact Env.sub_nil _ | refine Env.sub_cons rfl ?_))) (by ((try simp only [List.cons_append, List.nil_append]); repeat (first | exact ent_refl | refine ent_take (by repeat (first | exact Find.here | apply Find.there)) ?_ | refine ent_drop ?_)))
  · obtain rfl : k = 7 := by omega
    repeat (first | refine Zq ?_ | refine Zs ?_ | refine ZT ?_ | refine ZF ?_ | refine Zc ?_ | refine XO_gU (hk := ?_))
    refine XE_ret (.inl rfl) (tells_tmps rfl rfl) ⟨_, ⟨rfl, rfl⟩, by ((try simp only [List.cons_append, List.nil_append]); repeat (first | exact ent_refl | refine ent_take (by repeat (first | exact Find.here | apply Find.there)) ?_ | refine ent_drop ?_))⟩
theorem cclear_spec (b : Nat) (ks : Nat → List Int) : Spec Tryz.prog 79 [.pointer (some ⟨b, 0, none⟩)] [Kc b ks] (fun v L => v = .tuple #[] ∧ L = [Kc b (fun _ => [])]) := by
  refine Spec.intro (IsEnt.out) Tryz.func79 rfl Tryz.ntmps79 (by simp) (fun w0 F => ?_)
  simp only [envOf, List.zipIdx, List.map, List.cons_append, List.nil_append, Nat.zero_add, Nat.reduceAdd]
  repeat (first | refine Zq ?_ | refine Zs ?_ | refine ZT ?_ | refine ZF ?_ | refine Zc ?_ | refine XO_gU (hk := ?_))
  refine X_cond rfl (fun _ => ?_) (fun h => by cases h)
  refine X_open .here Kc.open ?_
  rintro fl ⟨hl, hk⟩
  dsimp only [List.cons_append, List.nil_append]
  repeat (first | refine Zq ?_ | refine Zs ?_ | refine ZT ?_ | refine ZF ?_ | refine Zc ?_ | refine XO_gU (hk := ?_))
  refine XO_dv0 (dv_putAll (E' := eI .i64) (ys := List.replicate 35 0) (hl := by simp [hl])) (hk := ?_)
  rintro _ _ rfl
  repeat (first | refine Zq ?_ | refine Zs ?_ | refine ZT ?_ | refine ZF ?_ | refine Zc ?_ | refine XO_gU (hk := ?_))
  refine XE_ret (.inr rfl) (tells_tmps rfl rfl) ⟨_, ⟨rfl, rfl⟩, ?_⟩
  refine ent_fold (by repeat (first | exact FindAll.nil | exact Find.here | apply Find.there | apply FindAll.cons)) (Kc.fold KcRel.none) ?_
  ((try simp only [List.cons_append, List.nil_append]); repeat (first | exact ent_refl | refine ent_take (by repeat (first | exact Find.here | apply Find.there)) ?_ | refine ent_drop ?_))
theorem kc_list {fl : List Int} {ks : Nat → List Int} {k : Nat} (h : KcRel fl ks) (hk : k < 7) : ((fl.drop (k * 5)).take 4).take (ks k).length = ks k := by
  obtain ⟨hl, h⟩ := h
  obtain ⟨h1, h2, h3⟩ := h k hk
  apply List.ext_getElem?
  intro j
  rw [List.take_take, Nat.min_eq_left h1]
  by_cases hj : j < (ks k).length
  · rw [List.getElem?_take_of_lt hj, List.getElem?_drop]
    have := h3 j hj
    have hlt : k * 5 + j < fl.length := by omega
    simp only [List.getD, List.getElem?_eq_getElem hj, List.getElem?_eq_getElem hlt, Option.getD_some] at this
    rw [List.getElem?_eq_getElem hj, List.getElem?_eq_getElem hlt, this]
  · rw [List.getElem?_eq_none (by simp; omega), List.getElem?_eq_none (by omega)]
theorem call_spec (b : Nat) (ks : Nat → List Int) : Spec Tryz.prog 77 [.pointer (some ⟨b, 0, none⟩)] [Kc b ks] (fun v L => ∃ a c, v = .slice a (kall ks 7).length c ∧ L = [Kc b ks, Sl eRun a c (kall ks 7)]) := by
  refine Spec.intro (IsEnt.out) Tryz.func77 rfl Tryz.ntmps77 (by simp) (fun w0 F => ?_)
  simp only [envOf, List.zipIdx, List.map, List.cons_append, List.nil_append, Nat.zero_add, Nat.reduceAdd]
  refine X_fact (A := Kc b ks) .here Kc.bound (fun hb => ?_)
  refine X_conv (fun _ => SL_nilSl eRun) ?_
  repeat (first | refine Zq ?_ | refine Zs ?_ | refine ZT ?_ | refine ZF ?_ | refine Zc ?_ | refine XO_gU (hk := ?_))
  refine X_loop (ι := Nat × Option Addr × Nat) (fun q => q.1 ≤ 7) (fun q => [(0, .pointer (some ⟨b, 0, none⟩)), (8, .int .i64 (q.1 : Int)), (3, .slice q.2.1 (kall ks q.1).length q.2.2)]) (fun q => Kc b ks :: Sl eRun q.2.1 q.2.2 (kall ks q.1) :: F) (fun q => 7 - q.1) (0, none, 0) (Nat.zero_le _) ?_ (by ((try simp only [List.cons_append, List.nil_append]); repeat (first | exact ent_refl | refine ent_take (by repeat (first | exact Find.here | apply Find.there)) ?_ | refine ent_drop ?_))) ?_
  · (repeat (first | exact Env.sub_nil _ | refine Env.sub_cons rfl ?_))
  rintro ⟨k, a, c⟩ hk
  dsimp only at hk ⊢
  repeat (first | refine Zq ?_ | refine Zs ?_ | refine ZT ?_ | refine ZF ?_ | refine Zc ?_ | refine XO_gU (hk := ?_))
  refine X_cond rfl (fun hc => ?_) (fun hc => ?_) <;> simp only [decide_eq_true_eq, decide_eq_false_iff_not] at hc
  · have hk7 : k < 7 := by omega
    have hbk := hb k hk7
    have hkl := kall_le hb k hk
    repeat (first | refine Zq ?_ | refine Zs ?_ | refine ZT ?_ | refine ZF ?_ | refine Zc ?_ | refine XO_gU (hk := ?_))
    refine XO_call (clen_spec b ks k (by omega) (by omega)) (hk := ?_)
    rintro _ _ ⟨rfl, rfl⟩
    simp only [Int.toNat_natCast]
    repeat (first | refine Zq ?_ | refine Zs ?_ | refine ZT ?_ | refine ZF ?_ | refine Zc ?_ | refine XO_gU (hk := ?_))
    refine XO_dv (dv_makeSlice (E' := eI .i64) 0) (hk := ?_)
    rintro _ _ ⟨nb, rfl, rfl⟩
    simp only [Int.toNat_natCast]
    repeat (first | refine Zq ?_ | refine Zs ?_ | refine ZT ?_ | refine ZF ?_ | refine Zc ?_ | refine XO_gU (hk := ?_))
    refine X_join (ι := Unit) (fun _ => True) (fun _ => [(0, .pointer (some ⟨b, 0, none⟩)), (8, .int .i64 (k : Int)), (4, .int .i64 (k : Int)), (3, .slice a (kall ks k).length c), (5, .slice (some ⟨nb, 0, none⟩) (ks k).length (ks k).length)]) (fun _ => Kc b ks :: Sl eRun a c (kall ks k) :: Sl (eI .i64) (some ⟨nb, 0, none⟩) (ks k).length (ks k) :: F) ?_ ?_
    · refine X_cond rfl (fun h => ?_) (fun h => ?_) <;> simp only [decide_eq_true_eq, decide_eq_false_iff_not] at h
      · refine X_open (by (repeat (first | exact Find.here | apply Find.there))) Kc.open ?_
        rintro fl hrel
        dsimp only [List.cons_append, List.nil_append]
        have hli := kc_list hrel hk7
        have hV : View (Sl (eI .i64) (some ⟨b, 0, none⟩) 35 fl) (eI .i64) (some ⟨b, k * 5, none⟩) (ks k) := by
          rw [← hli]; exact View.take _ (View.take _ (view_at (k * 5) Sl.view))
        obtain ⟨zs, hz, hzl⟩ : ∃ zs, zs = List.replicate (ks k).length (0 : Int) ∧ zs.length = (ks k).length := ⟨_, rfl, by simp⟩
        rw [← hz]
        repeat (first | refine Zq ?_ | refine Zs ?_ | refine ZT ?_ | refine ZF ?_ | refine Zc ?_ | refine XO_gU (hk := ?_))
        refine XO_dv (dv_copy (E' := eI .i64) (ys := ks k) (xs := zs) (m := 4) (a2 := some ⟨b, k * 5, none⟩) (A := Sl (eI .i64) (some ⟨b, 0, none⟩) 35 fl) (hx := by rw [hzl]; rfl) (hv := hV) (hn := by rw [hzl]; omega)) (hk := ?_)
        rintro _ _ ⟨rfl, rfl⟩
        rw [show ks k ++ zs.drop (ks k).length = ks k from by rw [List.drop_of_length_le (by omega), List.append_nil]]
        repeat (first | refine Zq ?_ | refine Zs ?_ | refine ZT ?_ | refine ZF ?_ | refine Zc ?_ | refine XO_gU (hk := ?_))
        refine X_meet () trivial (by (repeat (first | exact Env.sub_nil _ | refine Env.sub_cons rfl ?_))) ?_
        (try simp only [List.cons_append, List.nil_append])
        refine ent_fold (by repeat (first | exact FindAll.nil | exact Find.here | apply Find.there | apply FindAll.cons)) (Kc.fold hrel) ?_
        ((try simp only [List.cons_append, List.nil_append]); repeat (first | exact ent_refl | refine ent_take (by repeat (first | exact Find.here | apply Find.there)) ?_ | refine ent_drop ?_))
      · have h0 : ks k = [] := List.length_eq_zero_iff.1 (by omega)
        repeat (first | refine Zq ?_ | refine Zs ?_ | refine ZT ?_ | refine ZF ?_ | refine Zc ?_ | refine XO_gU (hk := ?_))
        refine X_meet () trivial (by (repeat (first | exact Env.sub_nil _ | refine Env.sub_cons rfl ?_))) ?_
        rw [h0]
        ((try simp only [List.cons_append, List.nil_append]); repeat (first | exact ent_refl | refine ent_take (by repeat (first | exact Find.here | apply Find.there)) ?_ | refine ent_drop ?_))
    · rintro - -
      repeat (first | refine Zq ?_ | refine Zs ?_ | refine ZT ?_ | refine ZF ?_ | refine Zc ?_ | refine XO_gU (hk := ?_))
      refine X_loop (ι := Nat × Option Addr × Nat) (fun q => q.1 ≤ (ks k).length) (fun q => [(0, .pointer (some ⟨b, 0, none⟩)), (8, .int .i64 (k : Int)), (4, .int .i64 (k : Int)), (27, .slice (some ⟨nb, 0, none⟩) (ks k).length (ks k).length), (28, .int .i64 ((ks k).length : Int)), (29, .int .i64 (q.1 : Int)), (3, .slice q.2.1 (kall ks k ++ ((ks k).take q.1).map fun p => (p, cpages k)).length q.2.2)])
        (fun q => Kc b ks :: Sl eRun q.2.1 q.2.2 (kall ks k ++ ((ks k).take q.1).map fun p => (p, cpages k)) :: Sl (eI .i64) (some ⟨nb, 0, none⟩) (ks k).length (ks k) :: F) (fun q => (ks k).length - q.1) (0, a, c) (Nat.zero_le _) ?_ ?_ ?_
      · simp only [List.take_zero, List.map_nil, List.append_nil]; (repeat (first | exact Env.sub_nil _ | refine Env.sub_cons rfl ?_))
      · simp only [List.take_zero, List.map_nil, List.append_nil]; ((try simp only [List.cons_append, List.nil_append]); repeat (first | exact ent_refl | refine ent_take (by repeat (first | exact Find.here | apply Find.there)) ?_ | refine ent_drop ?_))
      rintro ⟨j, a2, c2⟩ hj
      dsimp only at hj ⊢
      repeat (first | refine Zq ?_ | refine Zs ?_ | refine ZT ?_ | refine ZF ?_ | refine Zc ?_ | refine XO_gU (hk := ?_))
      refine X_cond rfl (fun hc2 => ?_) (fun hc2 => ?_) <;> simp only [decide_eq_true_eq, decide_eq_false_iff_not] at hc2
      · have hjl : j < (ks k).length := by omega
        repeat (first | refine Zq ?_ | refine Zs ?_ | refine ZT ?_ | refine ZF ?_ | refine Zc ?_ | refine XO_gU (hk := ?_))
        refine XO_rv (rv_elG (E' := eI .i64) (i := j) (s := 1) (x' := (ks k)[j]) (hget := by simp [hjl])) (hk := ?_)
        repeat (first | refine Zq ?_ | refine Zs ?_ | refine ZT ?_ | refine ZF ?_ | refine Zc ?_ | refine XO_gU (hk := ?_))
        refine XO_call (cpages_spec k) (hk := ?_)
        rintro _ _ ⟨rfl, rfl⟩
        repeat (first | refine Zq ?_ | refine Zs ?_ | refine ZT ?_ | refine ZF ?_ | refine Zc ?_ | refine XO_gU (hk := ?_))
        refine XO_dv (dv_lit (E' := eRun) [((ks k)[j], cpages k)]) (hk := ?_)
        rintro _ _ ⟨lb, rfl, rfl⟩
        repeat (first | refine Zq ?_ | refine Zs ?_ | refine ZT ?_ | refine ZF ?_ | refine Zc ?_ | refine XO_gU (hk := ?_))
        refine XO_dv (dv_append (E' := eRun) (xs := kall ks k ++ ((ks k).take j).map fun p => (p, cpages k)) (ys := [((ks k)[j], cpages k)]) (A := Sl eRun (some ⟨lb, 0, none⟩) 1 [((ks k)[j], cpages k)]) (a := a2) (a2 := some ⟨lb, 0, none⟩) (c := c2) (c2 := 1) (hv := Sl.view) (hb := by simp; omega)) (hk := ?_)
        rintro _ _ ⟨a3, c3, rfl, rfl⟩
        have hs : (kall ks k ++ ((ks k).take j).map fun p => (p, cpages k)) ++ [((ks k)[j], cpages k)] = kall ks k ++ ((ks k).take (j + 1)).map fun p => (p, cpages k) := by
          rw [List.take_succ_eq_append_getElem hjl, List.map_append, List.append_assoc]; rfl
        rw [hs]
        repeat (first | refine Zq ?_ | refine Zs ?_ | refine ZT ?_ | refine ZF ?_ | refine Zc ?_ | refine XO_gU (hk := ?_))
        refine X_round (j + 1, a3, c3) (by show j + 1 ≤ _; omega) (by show (ks k).length - (j + 1) < (ks k).length - j; omega) (by (repeat (first | exact Env.sub_nil _ | refine Env.sub_cons rfl ?_))) (by ((try simp only [List.cons_append, List.nil_append]); repeat (first | exact ent_refl | refine ent_take (by repeat (first | exact Find.here | apply Find.there)) ?_ | refine ent_drop ?_)))
      · obtain rfl : j = (ks k).length := by omega
        rw [List.take_length]
        repeat (first | refine Zq ?_ | refine Zs ?_ | refine ZT ?_ | refine ZF ?_ | refine Zc ?_ | refine XO_gU (hk := ?_))
        refine X_round (k + 1, a2, c2) (by show k + 1 ≤ 7; omega) (by show 7 - (k + 1) < 7 - k; omega) (by (repeat (first | exact Env.sub_nil _ | refine Env.sub_cons rfl ?_))) (by ((try simp only [List.cons_append, List.nil_append]); repeat (first | exact ent_refl | refine ent_take (by repeat (first | exact Find.here | apply Find.there)) ?_ | refine ent_drop ?_)))
  · obtain rfl : k = 7 := by omega
    repeat (first | refine Zq ?_ | refine Zs ?_ | refine ZT ?_ | refine ZF ?_ | refine Zc ?_ | refine XO_gU (hk := ?_))
    refine XE_ret (.inl rfl) (tells_tmps rfl rfl) ⟨_, ⟨a, c, rfl, rfl⟩, by ((try simp only [List.cons_append, List.nil_append]); repeat (first | exact ent_refl | refine ent_take (by repeat (first | exact Find.here | apply Find.there)) ?_ | refine ent_drop ?_))⟩
end Go.Proofs.YtamecmklcnohjaaGreat.Sep
namespace Go.Proofs.YtamecmklcnohjaaGreat.Sep
open Go.RowKit
set_option linter.unusedSimpArgs false
set_option linter.unusedVariables false
/-! pages, what is free, what is kept: what is computed -/
structure Co where
  P : Int
  fr : List (Int × Int)
  ks : Nat → List Int
  t : Int
structure CoOk (C : Co) : Prop where
  p1 : 1 ≤ C.P
  p2 : C.P ≤ 1048576
  right : RightFrom C.P 0 C.fr
  kept : ∀ k, k < 7 → (C.ks k).length ≤ 4 ∧ ∀ p ∈ C.ks k, 0 ≤ p ∧ p ≤ 1048576
def giveC (C : Co) (r : Int × Int) : Co := ⟨C.P, (giveI C.fr C.P r.1 r.2).getD C.fr, C.ks, if (giveI C.fr C.P r.1 r.2).isSome = true then tickI C.t C.fr.length else C.t⟩
def putC (C : Co) (r : Int × Int) : Co :=
  if cpages (cclass r.2) = r.2 ∧ 0 ≤ cclass r.2 ∧ cclass r.2 < 7 ∧ 0 ≤ r.1 ∧ (C.ks (cclass r.2).toNat).length < 4 then ⟨C.P, C.fr, upd C.ks (cclass r.2).toNat (C.ks (cclass r.2).toNat ++ [r.1]), C.t⟩ else giveC C r
def takeC (C : Co) (n : Int) : Co × Int × Int := if n < 1 then (C, 0, 1) else match takeI C.fr n with
  | none => (C, 0, 4)
  | some q => (⟨C.P, q.2, C.ks, tickI C.t C.fr.length⟩, q.1, 0)
def trimC (C : Co) : Co := ⟨C.P, ((kall C.ks 7).foldl giveC C).fr, fun _ => [], ((kall C.ks 7).foldl giveC C).t⟩
def trimN (C : Co) : Int := totI (kall C.ks 7)
def getC (C : Co) (n : Int) : Co × Int × Int :=
  if 0 ≤ cclass n ∧ cclass n < 7 ∧ 0 < (C.ks (cclass n).toNat).length then (⟨C.P, C.fr, upd C.ks (cclass n).toNat (C.ks (cclass n).toNat).dropLast, C.t⟩, (C.ks (cclass n).toNat).getD ((C.ks (cclass n).toNat).length - 1) 0, 0)
  else if (takeC C n).2.2 = 4 then (if 0 < trimN C then takeC (trimC C) n else (trimC C, (takeC C n).2)) else takeC C n
theorem giveC_ok {C : Co} (h : CoOk C) (r : Int × Int) : CoOk (giveC C r) := by
  refine ⟨h.p1, h.p2, ?_, h.kept⟩
  show RightFrom C.P 0 ((giveI C.fr C.P r.1 r.2).getD C.fr)
  cases hg : giveI C.fr C.P r.1 r.2 with
  | none => exact h.right
  | some ys => exact (giveI_right h.right hg).1
theorem fold_ok : ∀ (l : List (Int × Int)) {C : Co}, CoOk C → CoOk (l.foldl giveC C)
  | [], _, h => h
  | r :: l, _, h => fold_ok l (giveC_ok h r)
theorem fold_P : ∀ (l : List (Int × Int)) (C : Co), (l.foldl giveC C).P = C.P ∧ (l.foldl giveC C).ks = C.ks
  | [], _ => ⟨rfl, rfl⟩
  | r :: l, C => fold_P l (giveC C r)
theorem trimC_ok {C : Co} (h : CoOk C) : CoOk (trimC C) := by
  have := fold_ok (kall C.ks 7) h
  have h1 := this.right
  rw [(fold_P _ C).1] at h1
  exact ⟨h.p1, h.p2, h1, fun k hk => ⟨Nat.zero_le _, fun p hp => by cases hp⟩⟩
theorem takeC_ok {C : Co} (h : CoOk C) (n : Int) : CoOk (takeC C n).1 := by
  unfold takeC
  split
  · exact h
  · cases ht : takeI C.fr n with
    | none => exact h
    | some q =>
      obtain ⟨p, ys⟩ := q
      exact ⟨h.p1, h.p2, (takeI_right h.right ht).1, h.kept⟩
theorem upd_ok {C : Co} (h : CoOk C) {c : Nat} {l : List Int} (hl : l.length ≤ 4) (hm : ∀ p ∈ l, 0 ≤ p ∧ p ≤ 1048576) : CoOk ⟨C.P, C.fr, upd C.ks c l, C.t⟩ := by
  refine ⟨h.p1, h.p2, h.right, fun k hk => ?_⟩
  show (upd C.ks c l k).length ≤ 4 ∧ ∀ p ∈ upd C.ks c l k, _
  unfold upd
  split
  · exact ⟨hl, hm⟩
  · exact h.kept k hk
theorem putC_ok {C : Co} (h : CoOk C) {r : Int × Int} (hr : r.1 ≤ 1048576) : CoOk (putC C r) := by
  unfold putC
  split
  · rename_i hc
    refine upd_ok h (by simp; omega) fun p hp => ?_
    rcases List.mem_append.1 hp with hp | hp
    · exact (h.kept _ (by omega)).2 p hp
    · simp at hp; subst hp; exact ⟨hc.2.2.2.1, hr⟩
  · exact giveC_ok h r
theorem getC_ok {C : Co} (h : CoOk C) (n : Int) : CoOk (getC C n).1 := by
  unfold getC
  split
  · rename_i hc
    have := h.kept (cclass n).toNat (by omega)
    exact upd_ok h (by simp; omega) fun p hp => this.2 p ((List.dropLast_sublist _).mem hp)
  · split
    · split
      · exact takeC_ok (trimC_ok h) n
      · exact trimC_ok h
    · exact takeC_ok h n
theorem kall_mem {ks : Nat → List Int} : ∀ {k : Nat} {r : Int × Int}, r ∈ kall ks k → ∃ j, j < k ∧ r.1 ∈ ks j ∧ r.2 = cpages j
  | 0, r, h => by cases h
  | k + 1, r, h => by
    rcases List.mem_append.1 h with h | h
    · obtain ⟨j, h1, h2⟩ := kall_mem h; exact ⟨j, by omega, h2⟩
    · obtain ⟨p, hp, rfl⟩ := List.mem_map.1 h
      exact ⟨k, by omega, hp, rfl⟩
theorem kall_bd {C : Co} (h : CoOk C) {r : Int × Int} (hr : r ∈ kall C.ks 7) : 0 ≤ r.1 ∧ r.1 ≤ 1048576 ∧ 1 ≤ r.2 ∧ r.2 ≤ 64 := by
  obtain ⟨j, hj, h1, h2⟩ := kall_mem hr
  have h3 := (h.kept j hj).2 _ h1
  have h4 := cpages_le j hj
  rw [h2]; omega
theorem tot_le {l : List (Int × Int)} (h : ∀ r ∈ l, 1 ≤ r.2 ∧ r.2 ≤ 64) : 0 ≤ totI l ∧ totI l ≤ 64 * l.length := by
  induction l with
  | nil => simp [totI]
  | cons r l ih =>
    have h1 := h r (by simp)
    have h2 := ih fun q hq => h q (by simp [hq])
    rw [tot_cons]; simp; omega
section
attribute [local irreducible] Pg
def giveE (C : Co) (r : Int × Int) : Int := if (giveI C.fr C.P r.1 r.2).isSome = true then 0 else 1
theorem give_stepT {b : Nat} {D : Co} {r : Int × Int} {v : Value} {L : List HP} (h : giveP b D.P D.fr D.t r.1 r.2 v L) : v = .int .i64 (giveE D r) ∧ L = [Pg b (giveC D r).P (giveC D r).fr (giveC D r).t] := by
  unfold giveP at h
  unfold giveE giveC
  cases hg : giveI D.fr D.P r.1 r.2 with
  | none => rw [hg] at h; exact h
  | some ys => rw [hg] at h; exact h
theorem take_stepT {b : Nat} {n : Int} {C : Co} {v : Value} {L : List HP} (h : takeP b C.P C.fr C.t n v L) : v = .tuple #[.int .i64 (takeC C n).2.1, .int .i64 (takeC C n).2.2] ∧ L = [Pg b C.P (takeC C n).1.fr (takeC C n).1.t] := by
  unfold takeP at h
  unfold takeC
  split at h
  · rename_i hn
    rw [if_pos hn]
    exact h
  · rename_i hn
    rw [if_neg hn]
    cases ht : takeI C.fr n with
    | none => rw [ht] at h; exact h
    | some q => rw [ht] at h; exact h
theorem takeC_P (C : Co) (n : Int) : (takeC C n).1.P = C.P ∧ (takeC C n).1.ks = C.ks := by
  unfold takeC
  split
  · exact ⟨rfl, rfl⟩
  · cases takeI C.fr n <;> exact ⟨rfl, rfl⟩
theorem takeC_full {C : Co} {n : Int} (h : (takeC C n).2.2 = 4) : (takeC C n).1 = C ∧ (takeC C n).2 = (0, 4) := by
  unfold takeC at h ⊢
  split
  · rename_i hn
    rw [if_pos hn] at h; cases h
  · rename_i hn
    rw [if_neg hn] at h
    cases ht : takeI C.fr n with
    | none => exact ⟨rfl, rfl⟩
    | some q => rw [ht] at h; cases h
end
end Go.Proofs.YtamecmklcnohjaaGreat.Sep
