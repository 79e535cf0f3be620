import Derived.Test.YtamecmklcnohjaaGreatBn14
/- The law Law19R: it answers true whatever it is given, and what was there stays. No conditions. -/
namespace Go.Proofs.YtamecmklcnohjaaGreat.Sep
open Go.RowKit
set_option linter.unusedSimpArgs false
set_option linter.unusedVariables false
/-! a region has room just if the ledger says so, and both have the same marks and sums -/
theorem rg0 (k : Nat) : lk ((List.range k).map fun j : Nat => ((j : Int), emptySh)) (k : Int) = none := by
  rw [lk_none]; simp; intro x hx; omega
theorem gotM_empty : ∀ (M : List RgT), (∀ q ∈ M, q.2.2 = emptySh) → gotM M = []
  | [], _ => rfl
  | q :: M, h => by
    show gotR q.2.1 q.2.2 ++ gotM M = []
    rw [gotM_empty M fun r hr => h r (by simp [hr]), h q (by simp)]; rfl
theorem rall_empty {P : Int} {C : Co} {m : Int → Int} {M : List RgT} (hK : KInv C m []) (hP : C.P = P) (h : ∀ q ∈ M, q.2.2 = emptySh) : RAll P 0 C m M := by
  refine ⟨by rw [gotM_empty M h]; exact hK, hP, fun q hq => ?_, fun q hq p hp => ?_⟩
  · rw [h q hq]
    exact ⟨⟨(fun p hp => by cases hp), (fun r hr => by cases hr), by decide, by decide⟩, ⟨(fun r hr => by cases hr), (fun r hr => by cases hr)⟩, Nat.le_refl _, Nat.le_refl _⟩
  · rw [h q hq] at hp; cases hp
def objK (M : List RgT) (k : Nat) : Int := IntKind.u64.wrap (sumF Sh.obj ((M.take k).map (·.2)))
theorem objK_succ {M : List RgT} {k : Nat} {q : RgT} (h : M[k]? = some q) : IntKind.u64.wrap (objK M k + q.2.2.obj) = objK M (k + 1) := by
  obtain ⟨hk, he⟩ := List.getElem?_eq_some_iff.1 h
  unfold objK
  rw [wrap_add, List.take_succ_eq_append_getElem hk, List.map_append, sumF_append, he]
  simp [sumF]
theorem bne_of_eq' {a b : Int} (h : a = b) : (a != b) = false := by subst h; simp
set_option maxHeartbeats 8000000
attribute [local irreducible] X XE XO XD XDi XDa PV RV DV pt base Spec Sl Mp Keeps Pg Kc Pgs Spc Ck XL XLi Pl Rs Rg View Core Shd Shs Lg Star RgOf SlOf
theorem regions19 (pages : Int) (a1 : Option Addr) (c1 : Nat) (xs : List A19) (hp : 0 ≤ pages ∧ pages ≤ 65535) (hok : ∀ x ∈ xs, OkA19 x) (hl1 : xs.length ≤ maxLen) (W : World) (V1 : View (base W) eA19 a1 xs) :
    Calls Tryz.prog 3 #[.int .u16 pages, .slice a1 xs.length c1] W fun e w' => e = .returned (.bool true) ∧ Below W.heap.size W w' := by
  refine law_intro (args := [.int .u16 pages, .slice a1 xs.length c1]) Tryz.func3 rfl Tryz.ntmps3 (by simp) ?_
  simp only [envOf, List.zipIdx, List.map, List.cons_append, List.nil_append, Nat.zero_add, Nat.reduceAdd]
  repeat (first | refine Zq ?_ | refine Zs ?_ | refine ZT ?_ | refine ZF ?_ | refine Zc ?_ | refine XO_gU (hk := ?_))
  refine XO_call awake_spec (hk := ?_)
  rintro _ _ ⟨rfl, rfl⟩
  repeat (first | refine Zq ?_ | refine Zs ?_ | refine ZT ?_ | refine ZF ?_ | refine Zc ?_ | refine XO_gU (hk := ?_))
  refine X_cond rfl (fun h => by cases h) (fun _ => ?_)
  repeat (first | refine Zq ?_ | refine Zs ?_ | refine ZT ?_ | refine ZF ?_ | refine Zc ?_ | refine XO_gU (hk := ?_))
  refine X_cond rfl (fun h3 => ?_) (fun h3 => ?_) <;> simp only [decide_eq_true_eq, decide_eq_false_iff_not] at h3
  · repeat (first | refine Zq ?_ | refine Zs ?_ | refine ZT ?_ | refine ZF ?_ | refine Zc ?_ | refine XO_gU (hk := ?_))
    refine XE_ret (.inl rfl) (tells_tmps rfl rfl) ⟨_, ⟨rfl, rfl⟩, by ((try simp only [List.cons_append, List.nil_append]); repeat (first | exact ent_refl | refine ent_take (by repeat (first | exact Find.here | apply Find.there)) ?_ | refine ent_drop ?_))⟩
  repeat (first | refine Zq ?_ | refine Zs ?_ | refine ZT ?_ | refine ZF ?_ | refine Zc ?_ | refine XO_gU (hk := ?_))
  refine XO_call (lnew_spec pages) (hk := ?_)
  rintro _ _ ⟨l, mb, rfl, rfl⟩
  refine XO_conv (fun _ => Shs.nil) ?_
  refine XO_fold (by repeat (first | exact FindAll.nil | exact Find.here | apply Find.there | apply FindAll.cons)) (Lg.fold (l := l) (mb := mb) (C := ⟨min (max pages 1) 1048576, [(0, min (max pages 1) 1048576)], fun _ => [], 0⟩) (rg := []) (M := []) rfl) ?_
  repeat (first | refine Zq ?_ | refine Zs ?_ | refine ZT ?_ | refine ZF ?_ | refine Zc ?_ | refine XO_gU (hk := ?_))
  refine XO_call (knew_spec pages) (hk := ?_)
  rintro _ _ ⟨s, sb, rfl, rfl⟩
  have hK0 := knew pages (⟨fun _ => 0, 0⟩ : Mm).f
  have hP0 : (⟨min (max pages 1) 1048576, [(0, min (max pages 1) 1048576)], fun _ => [], 0⟩ : Co).P = min (max pages 1) 1048576 := rfl
  generalize (⟨min (max pages 1) 1048576, [(0, min (max pages 1) 1048576)], fun _ => [], 0⟩ : Co) = C0 at hK0 hP0 ⊢
  generalize hP : min (max pages 1) 1048576 = P at hP0 ⊢
  generalize (⟨fun _ => 0, 0⟩ : Mm) = m0 at hK0 ⊢
  repeat (first | refine Zq ?_ | refine Zs ?_ | refine ZT ?_ | refine ZF ?_ | refine Zc ?_ | refine XO_gU (hk := ?_))
  refine X_conv (fun _ h => SL_nilSl ePn h) ?_
  refine X_conv (fun _ h => Star.nil (f := RgOf s) h) ?_
  refine X_loop (ι := Nat × (Option Addr × Nat) × List Nat × List RgT) (fun y => y.1 ≤ 3 ∧ y.2.2.1.length = y.1 ∧ y.2.2.2.map (·.1) = y.2.2.1 ∧ y.2.2.2.map (·.2) = (List.range y.1).map fun j : Nat => ((j : Int), emptySh))
    (fun y => [(1, .slice a1 xs.length c1), (6, .pointer (some ⟨l, 0, none⟩)), (7, .pointer (some ⟨s, 0, none⟩)), (8, .slice y.2.1.1 y.2.2.1.length y.2.1.2), (9, .int .i64 (y.1 : Int))])
    (fun y => [Sl ePn y.2.1.1 y.2.1.2 y.2.2.1, Star (RgOf s) y.2.2.2, Lg l C0 (y.2.2.2.map (·.2)), Ck s sb C0, Spc sb P m0, base W]) (fun y => 3 - y.1) (0, (none, 0), [], []) ⟨by decide, rfl, rfl, rfl⟩ ?_ (by ((try simp only [List.cons_append, List.nil_append]); repeat (first | exact ent_refl | refine ent_take (by repeat (first | exact Find.here | apply Find.there)) ?_ | refine ent_drop ?_))) ?_
  · (repeat (first | exact Env.sub_nil _ | refine Env.sub_cons rfl ?_))
  rintro ⟨k, ⟨ra, rc⟩, bl, M⟩ ⟨hk, hbl, hMb, hMr⟩
  dsimp only at hk hbl hMb hMr ⊢
  repeat (first | refine Zq ?_ | refine Zs ?_ | refine ZT ?_ | refine ZF ?_ | refine Zc ?_ | refine XO_gU (hk := ?_))
  refine X_cond rfl (fun hc => ?_) (fun hc => ?_) <;> simp only [decide_eq_true_eq, decide_eq_false_iff_not] at hc
  · repeat (first | refine Zq ?_ | refine Zs ?_ | refine ZT ?_ | refine ZF ?_ | refine Zc ?_ | refine XO_gU (hk := ?_))
    refine XO_call (rnew_spec s (k : Int)) (hk := ?_)
    rintro _ _ ⟨r, rfl, rfl⟩
    repeat (first | refine Zq ?_ | refine Zs ?_ | refine ZT ?_ | refine ZF ?_ | refine Zc ?_ | refine XO_gU (hk := ?_))
    refine XO_lit (E' := ePn) [r] (hk := ?_)
    intro lb
    repeat (first | refine Zq ?_ | refine Zs ?_ | refine ZT ?_ | refine ZF ?_ | refine Zc ?_ | refine XO_gU (hk := ?_))
    refine XO_dv (dv_append (E' := ePn) (xs := bl) (ys := [r]) (hv := Sl.view) (hb := by simp; omega)) (hk := ?_)
    rintro _ _ ⟨b1, d1, rfl, rfl⟩
    repeat (first | refine Zq ?_ | refine Zs ?_ | refine ZT ?_ | refine ZF ?_ | refine Zc ?_ | refine XO_gU (hk := ?_))
    refine XO_call (begin_spec l C0 (M.map (·.2)) (k : Int)) (hk := ?_)
    rw [begin_new (by rw [hMr]; exact rg0 k)]
    rintro _ _ ⟨rfl, rfl⟩
    repeat (first | refine Zq ?_ | refine Zs ?_ | refine ZT ?_ | refine ZF ?_ | refine Zc ?_ | refine XO_gU (hk := ?_))
    refine X_cond rfl (fun h => by cases h) (fun _ => ?_)
    repeat (first | refine Zq ?_ | refine Zs ?_ | refine ZT ?_ | refine ZF ?_ | refine Zc ?_ | refine XO_gU (hk := ?_))
    refine XE_fold (S := [Rg r s (k : Int) emptySh, Star (RgOf s) M]) (by repeat (first | exact FindAll.nil | exact Find.here | apply Find.there | apply FindAll.cons)) Rgs.snoc ?_
    refine X_round (k + 1, (b1, d1), bl ++ [r], M ++ [(r, (k : Int), emptySh)]) ⟨by show k + 1 ≤ 3; omega, by simp [hbl], by simp [hMb], ?_⟩ (by show 3 - (k + 1) < 3 - k; omega) (by (repeat (first | exact Env.sub_nil _ | refine Env.sub_cons rfl ?_))) (by rw [List.map_append]; ((try simp only [List.cons_append, List.nil_append]); repeat (first | exact ent_refl | refine ent_take (by repeat (first | exact Find.here | apply Find.there)) ?_ | refine ent_drop ?_)))
    rw [List.map_append, hMr, List.range_succ, List.map_append]; rfl
  obtain rfl : k = 3 := by omega
  repeat (first | refine Zq ?_ | refine Zs ?_ | refine ZT ?_ | refine ZF ?_ | refine Zc ?_ | refine XO_gU (hk := ?_))
  refine XO_dv (dv_makeSlice (E' := eSlc) (none, 0, [])) (hk := ?_)
  rintro _ _ ⟨mb2, rfl, rfl⟩
  refine XO_conv (fun H h => star_nils 3 H h) ?_
  have hME : ∀ q ∈ M, q.2.2 = emptySh := fun q hq => by
    have : q.2 ∈ M.map (·.2) := List.mem_map.2 ⟨q, hq, rfl⟩
    rw [hMr] at this
    obtain ⟨j, _, hj⟩ := List.mem_map.1 this
    rw [← hj]
  have hMo : M.map (·.2.1) = [0, 1, 2] := by
    have : (M.map (·.2)).map (·.1) = [0, 1, 2] := by rw [hMr]; rfl
    rw [List.map_map] at this; exact this
  have hJ0 : LrJ P bl 0 0 ⟨C0, m0, M, List.replicate 3 (none, 0, [])⟩ := ⟨rall_empty hK0 hP0 hME, hMb, hMo, rfl, fun q hq => by
    have := List.eq_of_mem_replicate hq
    subst this
    exact ⟨Nat.le_refl _, fun k hk => by cases hk⟩⟩
  repeat (first | refine Zq ?_ | refine Zs ?_ | refine ZT ?_ | refine ZF ?_ | refine Zc ?_ | refine XO_gU (hk := ?_))
  refine X_loop (ι := Nat × LrZ) (fun y => y.1 ≤ xs.length ∧ LrJ P bl y.1 y.1 y.2)
    (fun y => [(1, .slice a1 xs.length c1), (6, .pointer (some ⟨l, 0, none⟩)), (7, .pointer (some ⟨s, 0, none⟩)), (8, .slice ra bl.length rc), (10, .slice (some ⟨mb2, 0, none⟩) 3 3), (11, .int .i64 (y.1 : Int))])
    (fun y => [Sl ePn ra rc bl, Star (RgOf s) y.2.M, Sl eSlc (some ⟨mb2, 0, none⟩) 3 y.2.Ms, Star SlOf y.2.Ms, Lg l y.2.C (y.2.M.map (·.2)), Ck s sb y.2.C, Spc sb P y.2.m, base W]) (fun y => xs.length - y.1) (0, ⟨C0, m0, M, List.replicate 3 (none, 0, [])⟩) ⟨Nat.zero_le _, hJ0⟩ ?_ (by ((try simp only [List.cons_append, List.nil_append]); repeat (first | exact ent_refl | refine ent_take (by repeat (first | exact Find.here | apply Find.there)) ?_ | refine ent_drop ?_))) ?_
  · (repeat (first | exact Env.sub_nil _ | refine Env.sub_cons rfl ?_))
  clear hJ0 hME hMo hMr hMb hK0 hP0
  rintro ⟨i, C, m, M, Ms⟩ ⟨hi, hJ⟩
  dsimp only at hi hJ ⊢
  repeat (first | refine Zq ?_ | refine Zs ?_ | refine ZT ?_ | refine ZF ?_ | refine Zc ?_ | refine XO_gU (hk := ?_))
  refine X_cond rfl (fun hc => ?_) (fun hc => ?_) <;> simp only [decide_eq_true_eq, decide_eq_false_iff_not] at hc
  case refine_2 =>
    repeat (first | refine Zq ?_ | refine Zs ?_ | refine ZT ?_ | refine ZF ?_ | refine Zc ?_ | refine XO_gU (hk := ?_))
    refine XE_ret (.inl rfl) (tells_tmps rfl rfl) ⟨_, ⟨rfl, rfl⟩, by ((try simp only [List.cons_append, List.nil_append]); repeat (first | exact ent_refl | refine ent_take (by repeat (first | exact Find.here | apply Find.there)) ?_ | refine ent_drop ?_))⟩
  have hil : i < xs.length := by omega
  have hget : xs[i]? = some xs[i] := List.getElem?_eq_getElem hil
  have hx := hok xs[i] (List.getElem_mem hil)
  generalize xs[i] = x at hget hx
  obtain ⟨hxd, hxi, hxs, hxa, hxk, hxm⟩ := hx
  obtain ⟨id, hid⟩ : ∃ id : Nat, (id : Int) = x.i % 3 := ⟨(x.i % 3).toNat, by omega⟩
  have hid3 : id < 3 := by omega
  refine X_view (A := base W) (by (repeat (first | exact Find.here | apply Find.there))) V1 (by omega) ?_
  rintro vb vo rfl
  repeat (first | refine Zq ?_ | refine Zs ?_ | refine ZT ?_ | refine ZF ?_ | refine Zc ?_ | refine XO_gU (hk := ?_))
  refine XO_dv (dv_alloc (row := [.int .u8 0, .int .u8 0, .int .u64 0, .int .u64 0, .int .u8 0, .int .i64 0, .int .i64 0, .int .u64 0, .int .u64 0, .int .u64 0])) (hk := ?_)
  rintro _ _ ⟨xb, rfl, rfl⟩
  refine XO_dv0 (dv_storeW (vs := [.int .u8 x.d, .int .u8 x.i, .int .u64 x.sz, .int .u64 x.al, .int .u8 x.k, .int .i64 x.mc, .int .i64 x.ml, .int .u64 x.at_, .int .u64 x.ob, .int .u64 x.pd])) (hk := ?_)
  rintro _ _ rfl
  clear hget
  refine XO_nil ?_
  refine XE_code ?_
  refine X_seq ?_
  refine X_region ?_
  (repeat (first | refine Zq ?_ | refine Zs ?_ | refine ZT ?_ | refine ZF ?_ | refine XO_gU (hk := ?_)))
  rw [← hid]
  refine XO_nil ?_
  refine XE_code ?_
  refine X_seq ?_
  refine X_join (ι := LrZ) (fun z => LrJ P bl (i + 1) (i) z) (fun z => [(1, .slice (some ⟨vb, vo, none⟩) xs.length c1), (6, .pointer (some ⟨l, 0, none⟩)), (7, .pointer (some ⟨s, 0, none⟩)), (8, .slice ra bl.length rc), (10, .slice (some ⟨mb2, 0, none⟩) 3 3), (11, .int .i64 (i : Int)), (12, .pointer (some ⟨xb, 0, none⟩)), (13, .int .i64 (id : Int))]) (fun z => [pt xb (.cells [.int .u8 x.d, .int .u8 x.i, .int .u64 x.sz, .int .u64 x.al, .int .u8 x.k, .int .i64 x.mc, .int .i64 x.ml, .int .u64 x.at_, .int .u64 x.ob, .int .u64 x.pd].toArray 38 (0, 0)), Sl ePn ra rc bl, Star (RgOf s) z.M, Sl eSlc (some ⟨mb2, 0, none⟩) 3 z.Ms, Star SlOf z.Ms, Lg l z.C (z.M.map (·.2)), Ck s sb z.C, Spc sb P z.m, base W]) ?_ ?_
  · obtain ⟨q, hq, hqo, hqk, hqi⟩ := os_one hJ.os hid3
    have hR := hJ.R.one hq
    have hho : 0 ≤ q.2.1 ∧ q.2.1 < 18446744073709551616 := by omega
    have hqb : bl[id]? = some q.1 := by rw [← hJ.bs, List.getElem?_map, hq]; rfl
    have hbl0 : 0 < bl.length := by obtain ⟨h1, _⟩ := List.getElem?_eq_some_iff.1 hqb; omega
    have hMl : id < M.length := (List.getElem?_eq_some_iff.1 hq).1
    repeat (first | refine Zq ?_ | refine Zs ?_ | refine ZT ?_ | refine ZF ?_ | refine Zc ?_ | refine XO_gU (hk := ?_))
    refine X_cond rfl (fun _ => ?_) (fun _ => ?_)
    · obtain ⟨C', m', S', at_, e, har⟩ := AR.ex P C m q.2.2 q.2.1 x.sz x.al
      have hR' := har.inv hR hho hxs.1 hxa.1 hxa.2
      have hsh := har.shadow hR hho hxs.1 hxa.1 hxa.2
      refine X_open (A := Star (RgOf s) M) (by (repeat (first | exact Find.here | apply Find.there))) (Rgs.out hq) ?_
      rintro ⟨⟩ -
      dsimp only [List.cons_append, List.nil_append]
      refine X_slopen (E' := ePn) (a := ra) (c := rc) (xs := bl) (by (repeat (first | exact Find.here | apply Find.there))) hbl0 ?_
      rintro rb ro rfl
      repeat (first | refine Zq ?_ | refine Zs ?_ | refine ZT ?_ | refine ZF ?_ | refine Zc ?_ | refine XO_gU (hk := ?_))
      repeat (first | refine XD_pick (h := ?_) | refine Dq ?_ | refine Ds ?_ | refine XDi_gF (h := ?_) | refine XDi_gU (h := ?_) | refine X_draws (h := ?_))
      refine XD_one (h := ?_)
      refine XDa_dvA (dv_call (ralloc_spec q.1 s sb hR hho hxs.1 hxs.2 hxa.1 hxa.2 har)) (hk := ?_)
      (rintro _ _ ⟨_, ⟨rfl, rfl⟩, rfl⟩; refine ⟨by (repeat (first | exact keeps_nil | exact keeps_fnil | refine keeps_skip (h := ?_) | refine keeps_takeQ (h := ?_))), ?_⟩)
      repeat (first | refine XD_pick (h := ?_) | refine Dq ?_ | refine Ds ?_ | refine XDi_gF (h := ?_) | refine XDi_gU (h := ?_) | refine X_draws (h := ?_))
      (refine XD_one (h := ?_); refine XDa_dvA (dv_of_rv (rv_of_pv pv_assign)) (hk := ?_); rintro _ _ ⟨rfl, rfl⟩; refine ⟨by (repeat (first | exact keeps_nil | exact keeps_fnil | refine keeps_skip (h := ?_) | refine keeps_takeQ (h := ?_))), ?_⟩)
      (refine XD_one (h := ?_); refine XDa_dvA (dv_of_rv (rv_of_pv pv_assign)) (hk := ?_); rintro _ _ ⟨rfl, rfl⟩; refine ⟨by (repeat (first | exact keeps_nil | exact keeps_fnil | refine keeps_skip (h := ?_) | refine keeps_takeQ (h := ?_))), ?_⟩)
      (refine XD_end (h := ?_); repeat (first | refine Zq ?_ | refine Zs ?_ | refine ZT ?_ | refine ZF ?_ | refine Zc ?_ | refine XO_gU (hk := ?_)))
      refine XO_call (lalloc_ok l C (M.map (·.2)) (id : Int) x.sz x.al q.2.2 hqk hJ.R.ok (hJ.R.hS (by omega)) hxs.1 hxs.2 hxa.1 hxa.2 hsh) (hk := ?_)
      rintro _ _ ⟨rfl, rfl⟩
      rw [hqi q.1 S', ← hqo]
      repeat (first | refine Zq ?_ | refine Zs ?_ | refine ZT ?_ | refine ZF ?_ | refine Zc ?_ | refine XO_gU (hk := ?_))
      refine X_cond rfl (fun h => by simp at h) (fun _ => ?_)
      repeat (first | refine Zq ?_ | refine Zs ?_ | refine ZT ?_ | refine ZF ?_ | refine Zc ?_ | refine XO_gU (hk := ?_))
      refine XE_fold (S := [Rg q.1 s q.2.1 S', Star (RgOf s) (M.eraseIdx id)]) (by repeat (first | exact FindAll.nil | exact Find.here | apply Find.there | apply FindAll.cons)) (Rgs.back hMl) ?_
      exact X_meet ⟨C', m', M.set id (q.1, q.2.1, S'), Ms⟩ (hJ.set (Nat.le_succ _) hq hR') (by (repeat (first | exact Env.sub_nil _ | refine Env.sub_cons rfl ?_))) (by ((try simp only [List.cons_append, List.nil_append]); repeat (first | exact ent_nil | exact ent_refl | refine ent_take (by repeat (first | exact Find.here | apply Find.there)) ?_ | refine ent_drop ?_)))
    · repeat (first | refine Zq ?_ | refine Zs ?_ | refine ZT ?_ | refine ZF ?_ | refine Zc ?_ | refine XO_gU (hk := ?_))
      exact X_meet ⟨C, m, M, Ms⟩ ⟨hJ.R.le (Nat.le_succ _), hJ.bs, hJ.os, hJ.ln, hJ.ms⟩ (by (repeat (first | exact Env.sub_nil _ | refine Env.sub_cons rfl ?_))) (by ((try simp only [List.cons_append, List.nil_append]); repeat (first | exact ent_nil | exact ent_refl | refine ent_take (by repeat (first | exact Find.here | apply Find.there)) ?_ | refine ent_drop ?_)))
  clear hJ
  clear C m M Ms
  rintro ⟨C, m, M, Ms⟩ hJ
  dsimp only at hJ ⊢
  refine X_seq ?_
  refine X_join (ι := LrZ) (fun z => LrJ P bl (i + 1) (i + 1) z) (fun z => [(1, .slice (some ⟨vb, vo, none⟩) xs.length c1), (6, .pointer (some ⟨l, 0, none⟩)), (7, .pointer (some ⟨s, 0, none⟩)), (8, .slice ra bl.length rc), (10, .slice (some ⟨mb2, 0, none⟩) 3 3), (11, .int .i64 (i : Int)), (12, .pointer (some ⟨xb, 0, none⟩)), (13, .int .i64 (id : Int))]) (fun z => [pt xb (.cells [.int .u8 x.d, .int .u8 x.i, .int .u64 x.sz, .int .u64 x.al, .int .u8 x.k, .int .i64 x.mc, .int .i64 x.ml, .int .u64 x.at_, .int .u64 x.ob, .int .u64 x.pd].toArray 38 (0, 0)), Sl ePn ra rc bl, Star (RgOf s) z.M, Sl eSlc (some ⟨mb2, 0, none⟩) 3 z.Ms, Star SlOf z.Ms, Lg l z.C (z.M.map (·.2)), Ck s sb z.C, Spc sb P z.m, base W]) ?_ ?_
  · obtain ⟨q, hq, hqo, hqk, hqi⟩ := os_one hJ.os hid3
    have hR := hJ.R.one hq
    have hlen := hR.len
    have hqb : bl[id]? = some q.1 := by rw [← hJ.bs, List.getElem?_map, hq]; rfl
    have hbl0 : 0 < bl.length := by obtain ⟨h1, _⟩ := List.getElem?_eq_some_iff.1 hqb; omega
    have hMsl : id < Ms.length := by rw [show Ms.length = 3 from hJ.ln]; exact hid3
    have hgm : Ms[id]? = some Ms[id] := List.getElem?_eq_getElem hMsl
    have hms := hJ.ms Ms[id] (List.getElem_mem hMsl)
    repeat (first | refine Zq ?_ | refine Zs ?_ | refine ZT ?_ | refine ZF ?_ | refine Zc ?_ | refine XO_gU (hk := ?_))
    refine X_cond rfl (fun _ => ?_) (fun _ => ?_)
    · generalize Ms[id] = u at hgm hms
      refine X_open (A := Star (RgOf s) M) (by (repeat (first | exact Find.here | apply Find.there))) (Rgs.out hq) ?_
      rintro ⟨⟩ -
      refine X_open (A := Star SlOf Ms) (by (repeat (first | exact Find.here | apply Find.there))) (Sls.out hgm) ?_
      rintro ⟨⟩ -
      dsimp only [List.cons_append, List.nil_append]
      refine X_slopen (E' := ePn) (a := ra) (c := rc) (xs := bl) (by (repeat (first | exact Find.here | apply Find.there))) hbl0 ?_
      rintro rb ro rfl
      repeat (first | refine Zq ?_ | refine Zs ?_ | refine ZT ?_ | refine ZF ?_ | refine Zc ?_ | refine XO_gU (hk := ?_))
      repeat (first | refine XD_pick (h := ?_) | refine Dq ?_ | refine Ds ?_ | refine XDi_gF (h := ?_) | refine XDi_gU (h := ?_) | refine X_draws (h := ?_))
      refine XD_one (h := ?_)
      refine XDa_dvA (dv_call (rmark_spec q.1 s q.2.1 q.2.2 hlen.1 hlen.2)) (hk := ?_)
      (rintro _ _ ⟨_, ⟨rfl, rfl⟩, rfl⟩; refine ⟨by (repeat (first | exact keeps_nil | exact keeps_fnil | refine keeps_skip (h := ?_) | refine keeps_takeQ (h := ?_))), ?_⟩)
      refine XD_one (h := ?_)
      refine XDa_dvA (dv_lit (E' := eM5) [((q.2.2.parts.length : Int), (q.2.2.larges.length : Int), topAt q.2.2, q.2.2.obj, q.2.2.pad)]) (hk := ?_)
      rintro _ _ ⟨lb, rfl, rfl⟩
      refine ⟨by (repeat (first | exact keeps_nil | exact keeps_fnil | refine keeps_skip (h := ?_) | refine keeps_takeQ (h := ?_))), ?_⟩
      refine XD_one (h := ?_)
      refine XDa_dvA (dv_append (E' := eM5) (xs := u.2.2) (ys := [((q.2.2.parts.length : Int), (q.2.2.larges.length : Int), topAt q.2.2, q.2.2.obj, q.2.2.pad)]) (hv := Sl.view) (hb := by simp; omega)) (hk := ?_)
      rintro _ _ ⟨a', c', rfl, rfl⟩
      refine ⟨by (repeat (first | exact keeps_nil | exact keeps_fnil | refine keeps_skip (h := ?_) | refine keeps_takeQ (h := ?_))), ?_⟩
      repeat (first | refine XD_pick (h := ?_) | refine Dq ?_ | refine Ds ?_ | refine XDi_gF (h := ?_) | refine XDi_gU (h := ?_) | refine X_draws (h := ?_))
      refine XD_one (h := ?_)
      refine XDa_dvk0 (dv_put1 (E' := eSlc) id (a', c', u.2.2 ++ [((q.2.2.parts.length : Int), (q.2.2.larges.length : Int), topAt q.2.2, q.2.2.obj, q.2.2.pad)])) (K := _) (hk := ?_)
      rintro _ _ rfl
      refine ⟨by (repeat (first | exact keeps_nil | exact keeps_fnil | refine keeps_skip (h := ?_) | refine keeps_takeQ (h := ?_))), ?_⟩
      (refine XD_end (h := ?_); repeat (first | refine Zq ?_ | refine Zs ?_ | refine ZT ?_ | refine ZF ?_ | refine Zc ?_ | refine XO_gU (hk := ?_)))
      have htb := top_bd hR.S.ok
      refine XE_fold (S := [Rg q.1 s q.2.1 q.2.2, Star (RgOf s) (M.eraseIdx id)]) (by repeat (first | exact FindAll.nil | exact Find.here | apply Find.there | apply FindAll.cons)) (Rgs.same hq) ?_
      refine XE_fold (S := [Sl eM5 a' c' (u.2.2 ++ [((q.2.2.parts.length : Int), (q.2.2.larges.length : Int), topAt q.2.2, q.2.2.obj, q.2.2.pad)]), Star SlOf (Ms.eraseIdx id)]) (by repeat (first | exact FindAll.nil | exact Find.here | apply Find.there | apply FindAll.cons)) (Sls.back hMsl) ?_
      refine X_meet ⟨C, m, M, Ms.set id (a', c', u.2.2 ++ [((q.2.2.parts.length : Int), (q.2.2.larges.length : Int), topAt q.2.2, q.2.2.obj, q.2.2.pad)])⟩ ⟨hJ.R, hJ.bs, hJ.os, by show (Ms.set id _).length = 3; rw [List.length_set]; exact hJ.ln, fun v hv => ?_⟩ (by (repeat (first | exact Env.sub_nil _ | refine Env.sub_cons rfl ?_))) (by ((try simp only [List.cons_append, List.nil_append]); repeat (first | exact ent_nil | exact ent_refl | refine ent_take (by repeat (first | exact Find.here | apply Find.there)) ?_ | refine ent_drop ?_)))
      rcases List.mem_or_eq_of_mem_set hv with h1 | h1
      · exact ⟨Nat.le_trans (hJ.ms v h1).1 (Nat.le_succ _), (hJ.ms v h1).2⟩
      · subst h1
        refine ⟨by show (u.2.2 ++ [_]).length ≤ i + 1; rw [List.length_append]; have := hms.1; simp; omega, fun k hk => ?_⟩
        rcases List.mem_append.1 hk with h2 | h2
        · exact hms.2 k h2
        · simp only [List.mem_singleton] at h2
          subst h2
          exact ⟨⟨by show (-9223372036854775808 : Int) ≤ q.2.2.parts.length; omega, by show (q.2.2.parts.length : Int) ≤ _; omega⟩, ⟨by show (-9223372036854775808 : Int) ≤ q.2.2.larges.length; omega, by show (q.2.2.larges.length : Int) ≤ _; omega⟩, ⟨htb.1, htb.2.1⟩, hR.S.ok.obj, hR.S.ok.pad⟩
    · repeat (first | refine Zq ?_ | refine Zs ?_ | refine ZT ?_ | refine ZF ?_ | refine Zc ?_ | refine XO_gU (hk := ?_))
      exact X_meet ⟨C, m, M, Ms⟩ ⟨hJ.R, hJ.bs, hJ.os, hJ.ln, fun q hq => ⟨Nat.le_trans (hJ.ms q hq).1 (Nat.le_succ _), (hJ.ms q hq).2⟩⟩ (by (repeat (first | exact Env.sub_nil _ | refine Env.sub_cons rfl ?_))) (by ((try simp only [List.cons_append, List.nil_append]); repeat (first | exact ent_nil | exact ent_refl | refine ent_take (by repeat (first | exact Find.here | apply Find.there)) ?_ | refine ent_drop ?_)))
  clear hJ
  clear C m M Ms
  rintro ⟨C, m, M, Ms⟩ hJ
  dsimp only at hJ ⊢
  refine X_seq ?_
  refine X_join (ι := LrZ) (fun z => LrJ P bl (i + 1) (i + 1) z) (fun z => [(1, .slice (some ⟨vb, vo, none⟩) xs.length c1), (6, .pointer (some ⟨l, 0, none⟩)), (7, .pointer (some ⟨s, 0, none⟩)), (8, .slice ra bl.length rc), (10, .slice (some ⟨mb2, 0, none⟩) 3 3), (11, .int .i64 (i : Int)), (12, .pointer (some ⟨xb, 0, none⟩)), (13, .int .i64 (id : Int))]) (fun z => [pt xb (.cells [.int .u8 x.d, .int .u8 x.i, .int .u64 x.sz, .int .u64 x.al, .int .u8 x.k, .int .i64 x.mc, .int .i64 x.ml, .int .u64 x.at_, .int .u64 x.ob, .int .u64 x.pd].toArray 38 (0, 0)), Sl ePn ra rc bl, Star (RgOf s) z.M, Sl eSlc (some ⟨mb2, 0, none⟩) 3 z.Ms, Star SlOf z.Ms, Lg l z.C (z.M.map (·.2)), Ck s sb z.C, Spc sb P z.m, base W]) ?_ ?_
  · obtain ⟨q, hq, hqo, hqk, hqi⟩ := os_one hJ.os hid3
    have hR := hJ.R.one hq
    have hlen := hR.len
    have hqb : bl[id]? = some q.1 := by rw [← hJ.bs, List.getElem?_map, hq]; rfl
    have hbl0 : 0 < bl.length := by obtain ⟨h1, _⟩ := List.getElem?_eq_some_iff.1 hqb; omega
    have hMl : id < M.length := (List.getElem?_eq_some_iff.1 hq).1
    have hMsl : id < Ms.length := by rw [show Ms.length = 3 from hJ.ln]; exact hid3
    have hgm : Ms[id]? = some Ms[id] := List.getElem?_eq_getElem hMsl
    have hms := hJ.ms Ms[id] (List.getElem_mem hMsl)
    generalize Ms[id] = u at hgm hms
    repeat (first | refine Zq ?_ | refine Zs ?_ | refine ZT ?_ | refine ZF ?_ | refine Zc ?_ | refine XO_gU (hk := ?_))
    refine XO_either (hT := fun h5 => ?_) (hF := fun h5 => ?_)
    · repeat (first | refine Zq ?_ | refine Zs ?_ | refine ZT ?_ | refine ZF ?_ | refine Zc ?_ | refine XO_gU (hk := ?_))
      refine X_cond rfl (fun _ => ?_) (fun _ => ?_)
      · repeat (first | refine Zq ?_ | refine Zs ?_ | refine ZT ?_ | refine ZF ?_ | refine Zc ?_ | refine XO_gU (hk := ?_))
        refine XO_dv (dv_alloc (row := [.int .i64 0, .int .i64 0, .int .u64 0, .int .u64 0, .int .u64 0])) (hk := ?_)
        rintro _ _ ⟨kb, rfl, rfl⟩
        refine XO_dv0 (dv_storeW (vs := [.int .i64 x.mc, .int .i64 x.ml, .int .u64 x.at_, .int .u64 x.ob, .int .u64 x.pd])) (hk := ?_)
        rintro _ _ rfl
        refine XO_nil ?_
        refine XE_code ?_
        refine X_seq ?_
        refine X_join (ι := M5) (fun k => OkM k.1 k.2.1 k.2.2.1 k.2.2.2.1 k.2.2.2.2) (fun _ => [(1, .slice (some ⟨vb, vo, none⟩) xs.length c1), (6, .pointer (some ⟨l, 0, none⟩)), (7, .pointer (some ⟨s, 0, none⟩)), (8, .slice ra bl.length rc), (10, .slice (some ⟨mb2, 0, none⟩) 3 3), (11, .int .i64 (i : Int)), (12, .pointer (some ⟨xb, 0, none⟩)), (13, .int .i64 (id : Int)), (16, .pointer (some ⟨kb, 0, none⟩))]) (fun k => [pt kb (.cells [.int .i64 k.1, .int .i64 k.2.1, .int .u64 k.2.2.1, .int .u64 k.2.2.2.1, .int .u64 k.2.2.2.2].toArray 36 (0, 0)), pt xb (.cells [.int .u8 x.d, .int .u8 x.i, .int .u64 x.sz, .int .u64 x.al, .int .u8 x.k, .int .i64 x.mc, .int .i64 x.ml, .int .u64 x.at_, .int .u64 x.ob, .int .u64 x.pd].toArray 38 (0, 0)), Sl ePn ra rc bl, Star (RgOf s) M, Sl eSlc (some ⟨mb2, 0, none⟩) 3 Ms, Star SlOf Ms, Lg l C (M.map (·.2)), Ck s sb C, Spc sb P m, base W]) ?_ ?_
        · obtain ⟨ua, uc, ul⟩ := u
          dsimp only at hgm hms
          repeat (first | refine Zq ?_ | refine Zs ?_ | refine ZT ?_ | refine ZF ?_ | refine Zc ?_ | refine XO_gU (hk := ?_))
          refine XO_either (hT := fun h6 => ?_) (hF := fun h6 => ?_)
          · refine XO_open (A := Star SlOf Ms) (by (repeat (first | exact Find.here | apply Find.there))) (Sls.out hgm) ?_
            rintro ⟨⟩ -
            dsimp only [List.cons_append, List.nil_append]
            repeat (first | refine Zq ?_ | refine Zs ?_ | refine ZT ?_ | refine ZF ?_ | refine Zc ?_ | refine XO_gU (hk := ?_))
            refine X_cond rfl (fun h7 => ?_) (fun h7 => ?_) <;> simp only [decide_eq_true_eq, decide_eq_false_iff_not] at h7
            · have hul0 : 0 < ul.length := by omega
              have hkk0 : 0 ≤ x.k % (ul.length : Int) := Int.emod_nonneg _ (by omega)
              have hkk1 : x.k % (ul.length : Int) < (ul.length : Int) := Int.emod_lt_of_pos _ (by omega)
              have hkl : (x.k % (ul.length : Int)).toNat < ul.length := by omega
              have hgk : ul[(x.k % (ul.length : Int)).toNat]? = some ul[(x.k % (ul.length : Int)).toNat] := List.getElem?_eq_getElem hkl
              have hkm := hms.2 _ (List.getElem_mem hkl)
              generalize ul[(x.k % (ul.length : Int)).toNat] = kq at hgk hkm
              refine X_slopen (E' := eM5) (a := ua) (c := uc) (xs := ul) (by (repeat (first | exact Find.here | apply Find.there))) hul0 ?_
              rintro ub uo rfl
              repeat (first | refine Zq ?_ | refine Zs ?_ | refine ZT ?_ | refine ZF ?_ | refine Zc ?_ | refine XO_gU (hk := ?_))
              repeat (first | refine XD_pick (h := ?_) | refine Dq ?_ | refine Ds ?_ | refine XDi_gF (h := ?_) | refine XDi_gU (h := ?_) | refine X_draws (h := ?_))
              refine XD_one (h := ?_)
              refine XDa_dvk0 (dv_storeW (vs := [.int .i64 kq.1, .int .i64 kq.2.1, .int .u64 kq.2.2.1, .int .u64 kq.2.2.2.1, .int .u64 kq.2.2.2.2])) (K := _) (hk := ?_)
              rintro _ _ rfl
              refine ⟨by (repeat (first | exact keeps_nil | exact keeps_fnil | refine keeps_skip (h := ?_) | refine keeps_takeQ (h := ?_))), ?_⟩
              (refine XD_end (h := ?_); repeat (first | refine Zq ?_ | refine Zs ?_ | refine ZT ?_ | refine ZF ?_ | refine Zc ?_ | refine XO_gU (hk := ?_)))
              refine XE_fold (S := [Sl eM5 (some ⟨ub, uo, none⟩) uc ul, Star SlOf (Ms.eraseIdx id)]) (by repeat (first | exact FindAll.nil | exact Find.here | apply Find.there | apply FindAll.cons)) (Sls.same hgm) ?_
              exact X_meet kq hkm (by (repeat (first | exact Env.sub_nil _ | refine Env.sub_cons rfl ?_))) (by ((try simp only [List.cons_append, List.nil_append]); repeat (first | exact ent_nil | exact ent_refl | refine ent_take (by repeat (first | exact Find.here | apply Find.there)) ?_ | refine ent_drop ?_)))
            · repeat (first | refine Zq ?_ | refine Zs ?_ | refine ZT ?_ | refine ZF ?_ | refine Zc ?_ | refine XO_gU (hk := ?_))
              refine XE_fold (S := [Sl eM5 ua uc ul, Star SlOf (Ms.eraseIdx id)]) (by repeat (first | exact FindAll.nil | exact Find.here | apply Find.there | apply FindAll.cons)) (Sls.same hgm) ?_
              exact X_meet (x.mc, x.ml, x.at_, x.ob, x.pd) hxm (by (repeat (first | exact Env.sub_nil _ | refine Env.sub_cons rfl ?_))) (by ((try simp only [List.cons_append, List.nil_append]); repeat (first | exact ent_nil | exact ent_refl | refine ent_take (by repeat (first | exact Find.here | apply Find.there)) ?_ | refine ent_drop ?_)))
          · repeat (first | refine Zq ?_ | refine Zs ?_ | refine ZT ?_ | refine ZF ?_ | refine Zc ?_ | refine XO_gU (hk := ?_))
            refine X_cond rfl (fun h => by cases h) (fun _ => ?_)
            repeat (first | refine Zq ?_ | refine Zs ?_ | refine ZT ?_ | refine ZF ?_ | refine Zc ?_ | refine XO_gU (hk := ?_))
            exact X_meet (x.mc, x.ml, x.at_, x.ob, x.pd) hxm (by (repeat (first | exact Env.sub_nil _ | refine Env.sub_cons rfl ?_))) (by ((try simp only [List.cons_append, List.nil_append]); repeat (first | exact ent_nil | exact ent_refl | refine ent_take (by repeat (first | exact Find.here | apply Find.there)) ?_ | refine ent_drop ?_)))
        rintro ⟨kc, kl, ka, ko, kp⟩ hkm
        dsimp only at hkm ⊢
        refine X_open (A := Star (RgOf s) M) (by (repeat (first | exact Find.here | apply Find.there))) (Rgs.out hq) ?_
        rintro ⟨⟩ -
        dsimp only [List.cons_append, List.nil_append]
        refine X_slopen (E' := ePn) (a := ra) (c := rc) (xs := bl) (by (repeat (first | exact Find.here | apply Find.there))) hbl0 ?_
        rintro rb ro rfl
        repeat (first | refine Zq ?_ | refine Zs ?_ | refine ZT ?_ | refine ZF ?_ | refine Zc ?_ | refine XO_gU (hk := ?_))
        repeat (first | refine XD_pick (h := ?_) | refine Dq ?_ | refine Ds ?_ | refine XDi_gF (h := ?_) | refine XDi_gU (h := ?_) | refine X_draws (h := ?_))
        by_cases hf : fitsS q.2.2 kc kl ka = true
        · have hR' := rew_inv (ob := ko) (pd := kp) hR hf hkm.at_.1 hkm.ob hkm.pd
          refine XD_one (h := ?_)
          refine XDa_dvA (dv_call (rrew_ok q.1 s sb (ob := ko) (pd := kp) hR hf hkm.at_.1 hkm.at_.2)) (hk := ?_)
          (rintro _ _ ⟨_, ⟨rfl, rfl⟩, rfl⟩; refine ⟨by (repeat (first | exact keeps_nil | exact keeps_fnil | refine keeps_skip (h := ?_) | refine keeps_takeQ (h := ?_))), ?_⟩)
          repeat (first | refine XD_pick (h := ?_) | refine Dq ?_ | refine Ds ?_ | refine XDi_gF (h := ?_) | refine XDi_gU (h := ?_) | refine X_draws (h := ?_))
          refine XD_one (h := ?_)
          refine XDa_dvA (dv_call (lrew_ok l C (M.map (·.2)) (id : Int) kc kl ka ko kp q.2.2 hqk hJ.R.ok (hJ.R.hS (by omega)) hkm.mc.1 hkm.mc.2 hkm.ml.1 hkm.ml.2 (rew_shadow hf))) (hk := ?_)
          (rintro _ _ ⟨_, ⟨rfl, rfl⟩, rfl⟩; refine ⟨by (repeat (first | exact keeps_nil | exact keeps_fnil | refine keeps_skip (h := ?_) | refine keeps_takeQ (h := ?_))), ?_⟩)
          dsimp only
          rw [hqi q.1 (setTop (cutS q.2.2 kc kl) ka ko kp), ← hqo]
          repeat (first | refine XD_pick (h := ?_) | refine Dq ?_ | refine Ds ?_ | refine XDi_gF (h := ?_) | refine XDi_gU (h := ?_) | refine X_draws (h := ?_))
          (refine XD_end (h := ?_); repeat (first | refine Zq ?_ | refine Zs ?_ | refine ZT ?_ | refine ZF ?_ | refine Zc ?_ | refine XO_gU (hk := ?_)))
          refine X_cond rfl (fun h => by simp at h) (fun _ => ?_)
          repeat (first | refine Zq ?_ | refine Zs ?_ | refine ZT ?_ | refine ZF ?_ | refine Zc ?_ | refine XO_gU (hk := ?_))
          refine XE_fold (S := [Rg q.1 s q.2.1 (setTop (cutS q.2.2 kc kl) ka ko kp), Star (RgOf s) (M.eraseIdx id)]) (by repeat (first | exact FindAll.nil | exact Find.here | apply Find.there | apply FindAll.cons)) (Rgs.back hMl) ?_
          exact X_meet ⟨putsC C q.2.2 kc kl, rewM P m q.2.2 kc kl ka, M.set id (q.1, q.2.1, setTop (cutS q.2.2 kc kl) ka ko kp), Ms⟩ (hJ.set (Nat.le_refl _) hq hR') (by (repeat (first | exact Env.sub_nil _ | refine Env.sub_cons rfl ?_))) (by ((try simp only [List.cons_append, List.nil_append]); repeat (first | exact ent_nil | exact ent_refl | refine ent_take (by repeat (first | exact Find.here | apply Find.there)) ?_ | refine ent_drop ?_)))
        · simp only [Bool.not_eq_true] at hf
          refine XD_one (h := ?_)
          refine XDa_dvA (dv_call (rrew_no q.1 s q.2.1 q.2.2 kc kl ka ko kp hlen.1 hlen.2 hf)) (hk := ?_)
          (rintro _ _ ⟨_, ⟨rfl, rfl⟩, rfl⟩; refine ⟨by (repeat (first | exact keeps_nil | exact keeps_fnil | refine keeps_skip (h := ?_) | refine keeps_takeQ (h := ?_))), ?_⟩)
          repeat (first | refine XD_pick (h := ?_) | refine Dq ?_ | refine Ds ?_ | refine XDi_gF (h := ?_) | refine XDi_gU (h := ?_) | refine X_draws (h := ?_))
          refine XD_one (h := ?_)
          refine XDa_dvA (dv_call (lrew_no l C (M.map (·.2)) (id : Int) kc kl ka ko kp q.2.2 hqk hJ.R.ok (hJ.R.hS (by omega)) hkm.mc.1 hkm.mc.2 hkm.ml.1 hkm.ml.2 (by unfold rewS; rw [hf]; rfl))) (hk := ?_)
          (rintro _ _ ⟨_, ⟨rfl, rfl⟩, rfl⟩; refine ⟨by (repeat (first | exact keeps_nil | exact keeps_fnil | refine keeps_skip (h := ?_) | refine keeps_takeQ (h := ?_))), ?_⟩)
          repeat (first | refine XD_pick (h := ?_) | refine Dq ?_ | refine Ds ?_ | refine XDi_gF (h := ?_) | refine XDi_gU (h := ?_) | refine X_draws (h := ?_))
          (refine XD_end (h := ?_); repeat (first | refine Zq ?_ | refine Zs ?_ | refine ZT ?_ | refine ZF ?_ | refine Zc ?_ | refine XO_gU (hk := ?_)))
          refine X_cond rfl (fun h => by simp at h) (fun _ => ?_)
          repeat (first | refine Zq ?_ | refine Zs ?_ | refine ZT ?_ | refine ZF ?_ | refine Zc ?_ | refine XO_gU (hk := ?_))
          refine XE_fold (S := [Rg q.1 s q.2.1 q.2.2, Star (RgOf s) (M.eraseIdx id)]) (by repeat (first | exact FindAll.nil | exact Find.here | apply Find.there | apply FindAll.cons)) (Rgs.same hq) ?_
          exact X_meet ⟨C, m, M, Ms⟩ hJ (by (repeat (first | exact Env.sub_nil _ | refine Env.sub_cons rfl ?_))) (by ((try simp only [List.cons_append, List.nil_append]); repeat (first | exact ent_nil | exact ent_refl | refine ent_take (by repeat (first | exact Find.here | apply Find.there)) ?_ | refine ent_drop ?_)))
      · repeat (first | refine Zq ?_ | refine Zs ?_ | refine ZT ?_ | refine ZF ?_ | refine Zc ?_ | refine XO_gU (hk := ?_))
        exact X_meet ⟨C, m, M, Ms⟩ hJ (by (repeat (first | exact Env.sub_nil _ | refine Env.sub_cons rfl ?_))) (by ((try simp only [List.cons_append, List.nil_append]); repeat (first | exact ent_nil | exact ent_refl | refine ent_take (by repeat (first | exact Find.here | apply Find.there)) ?_ | refine ent_drop ?_)))
    · repeat (first | refine Zq ?_ | refine Zs ?_ | refine ZT ?_ | refine ZF ?_ | refine Zc ?_ | refine XO_gU (hk := ?_))
      refine X_cond rfl (fun h => by cases h) (fun _ => ?_)
      repeat (first | refine Zq ?_ | refine Zs ?_ | refine ZT ?_ | refine ZF ?_ | refine Zc ?_ | refine XO_gU (hk := ?_))
      exact X_meet ⟨C, m, M, Ms⟩ hJ (by (repeat (first | exact Env.sub_nil _ | refine Env.sub_cons rfl ?_))) (by ((try simp only [List.cons_append, List.nil_append]); repeat (first | exact ent_nil | exact ent_refl | refine ent_take (by repeat (first | exact Find.here | apply Find.there)) ?_ | refine ent_drop ?_)))
  clear hJ
  clear C m M Ms
  rintro ⟨C, m, M, Ms⟩ hJ
  dsimp only at hJ ⊢
  refine X_seq ?_
  refine X_join (ι := LrZ) (fun z => LrJ P bl (i + 1) (i + 1) z) (fun z => [(1, .slice (some ⟨vb, vo, none⟩) xs.length c1), (6, .pointer (some ⟨l, 0, none⟩)), (7, .pointer (some ⟨s, 0, none⟩)), (8, .slice ra bl.length rc), (10, .slice (some ⟨mb2, 0, none⟩) 3 3), (11, .int .i64 (i : Int)), (12, .pointer (some ⟨xb, 0, none⟩)), (13, .int .i64 (id : Int))]) (fun z => [pt xb (.cells [.int .u8 x.d, .int .u8 x.i, .int .u64 x.sz, .int .u64 x.al, .int .u8 x.k, .int .i64 x.mc, .int .i64 x.ml, .int .u64 x.at_, .int .u64 x.ob, .int .u64 x.pd].toArray 38 (0, 0)), Sl ePn ra rc bl, Star (RgOf s) z.M, Sl eSlc (some ⟨mb2, 0, none⟩) 3 z.Ms, Star SlOf z.Ms, Lg l z.C (z.M.map (·.2)), Ck s sb z.C, Spc sb P z.m, base W]) ?_ ?_
  · repeat (first | refine Zq ?_ | refine Zs ?_ | refine ZT ?_ | refine ZF ?_ | refine Zc ?_ | refine XO_gU (hk := ?_))
    refine XO_either (hT := fun h5 => ?_) (hF := fun h5 => ?_)
    · repeat (first | refine Zq ?_ | refine Zs ?_ | refine ZT ?_ | refine ZF ?_ | refine Zc ?_ | refine XO_gU (hk := ?_))
      refine XO_call (ctrim_spec s sb C hJ.R.ok) (hk := ?_)
      rintro _ _ ⟨rfl, rfl⟩
      repeat (first | refine Zq ?_ | refine Zs ?_ | refine ZT ?_ | refine ZF ?_ | refine Zc ?_ | refine XO_gU (hk := ?_))
      refine XO_call (trimLg_spec l C (M.map (·.2)) hJ.R.ok) (hk := ?_)
      rintro _ _ ⟨rfl, rfl⟩
      repeat (first | refine Zq ?_ | refine Zs ?_ | refine ZT ?_ | refine ZF ?_ | refine Zc ?_ | refine XO_gU (hk := ?_))
      refine X_cond rfl (fun h => by simp at h) (fun _ => ?_)
      repeat (first | refine Zq ?_ | refine Zs ?_ | refine ZT ?_ | refine ZF ?_ | refine Zc ?_ | refine XO_gU (hk := ?_))
      exact X_meet ⟨trimC C, m, M, Ms⟩ ⟨⟨ktrim hJ.R.K, hJ.R.hP, hJ.R.S, hJ.R.po⟩, hJ.bs, hJ.os, hJ.ln, hJ.ms⟩ (by (repeat (first | exact Env.sub_nil _ | refine Env.sub_cons rfl ?_))) (by ((try simp only [List.cons_append, List.nil_append]); repeat (first | exact ent_nil | exact ent_refl | refine ent_take (by repeat (first | exact Find.here | apply Find.there)) ?_ | refine ent_drop ?_)))
    · repeat (first | refine Zq ?_ | refine Zs ?_ | refine ZT ?_ | refine ZF ?_ | refine Zc ?_ | refine XO_gU (hk := ?_))
      refine X_cond rfl (fun h => by cases h) (fun _ => ?_)
      repeat (first | refine Zq ?_ | refine Zs ?_ | refine ZT ?_ | refine ZF ?_ | refine Zc ?_ | refine XO_gU (hk := ?_))
      exact X_meet ⟨C, m, M, Ms⟩ hJ (by (repeat (first | exact Env.sub_nil _ | refine Env.sub_cons rfl ?_))) (by ((try simp only [List.cons_append, List.nil_append]); repeat (first | exact ent_nil | exact ent_refl | refine ent_take (by repeat (first | exact Find.here | apply Find.there)) ?_ | refine ent_drop ?_)))
  clear hJ
  clear C m M Ms
  rintro ⟨C, m, M, Ms⟩ hJ
  dsimp only at hJ ⊢
  have hbd := hJ.R.hB (by omega)
  have hMlen : M.length = 3 := by have h := congrArg List.length hJ.os; simpa using h
  obtain ⟨q, hq, hqo, hqk, hqi⟩ := os_one hJ.os hid3
  have hR := hJ.R.one hq
  have hlen := hR.len
  have hqb : bl[id]? = some q.1 := by rw [← hJ.bs, List.getElem?_map, hq]; rfl
  have hbl0 : 0 < bl.length := by obtain ⟨h1, _⟩ := List.getElem?_eq_some_iff.1 hqb; omega
  repeat (first | refine Zq ?_ | refine Zs ?_ | refine ZT ?_ | refine ZF ?_ | refine Zc ?_ | refine XO_gU (hk := ?_))
  refine XO_call (lmark_ok l C (M.map (·.2)) (id : Int) q.2.2 hqk (fun r hr => (hJ.R.hS (by omega) r hr).2.1)) (hk := ?_)
  rintro _ _ ⟨rfl, rfl⟩
  repeat (first | refine Zq ?_ | refine Zs ?_ | refine ZT ?_ | refine ZF ?_ | refine Zc ?_ | refine XO_gU (hk := ?_))
  refine XO_dv (dv_alloc (row := [.int .i64 0, .int .i64 0, .int .u64 0, .int .u64 0, .int .u64 0])) (hk := ?_)
  rintro _ _ ⟨kb, rfl, rfl⟩
  refine XO_dv0 (dv_storeW (vs := [.int .i64 (q.2.2.parts.length : Int), .int .i64 (q.2.2.larges.length : Int), .int .u64 (topAt q.2.2), .int .u64 q.2.2.obj, .int .u64 q.2.2.pad])) (hk := ?_)
  rintro _ _ rfl
  repeat (first | refine Zq ?_ | refine Zs ?_ | refine ZT ?_ | refine ZF ?_ | refine Zc ?_ | refine XO_gU (hk := ?_))
  refine XO_call (meter_spec l C (M.map (·.2)) hJ.R.ok hbd (by rw [List.length_map]; omega)) (hk := ?_)
  rintro _ _ ⟨rfl, rfl⟩
  refine XO_dv (dv_alloc (row := [.int .i64 0, .int .i64 0, .int .i64 0, .int .i64 0, .int .u64 0, .int .u64 0, .int .u64 0, .int .u64 0])) (hk := ?_)
  rintro _ _ ⟨yb, rfl, rfl⟩
  refine XO_dv0 (dv_storeW (vs := recCells mKs (meterL C (M.map (·.2))))) (hk := ?_)
  rintro _ _ rfl
  repeat (first | refine Zq ?_ | refine Zs ?_ | refine ZT ?_ | refine ZF ?_ | refine Zc ?_ | refine XO_gU (hk := ?_))
  refine X_loop (ι := Nat) (fun k => k ≤ 3)
    (fun k => [(1, .slice (some ⟨vb, vo, none⟩) xs.length c1), (6, .pointer (some ⟨l, 0, none⟩)), (7, .pointer (some ⟨s, 0, none⟩)), (8, .slice ra bl.length rc), (10, .slice (some ⟨mb2, 0, none⟩) 3 3), (11, .int .i64 (i : Int)), (13, .int .i64 (id : Int)), (17, .pointer (some ⟨kb, 0, none⟩)), (18, .bool true), (19, .pointer (some ⟨yb, 0, none⟩)), (20, .int .u64 (objK M k)), (21, .int .i64 (k : Int))])
    (fun k => [pt yb (.cells (recCells mKs (meterL C (M.map (·.2)))).toArray 51 (0, 0)), pt kb (.cells [.int .i64 (q.2.2.parts.length : Int), .int .i64 (q.2.2.larges.length : Int), .int .u64 (topAt q.2.2), .int .u64 q.2.2.obj, .int .u64 q.2.2.pad].toArray 36 (0, 0)), Sl ePn ra rc bl, Star (RgOf s) M, Sl eSlc (some ⟨mb2, 0, none⟩) 3 Ms, Star SlOf Ms, Lg l C (M.map (·.2)), Ck s sb C, Spc sb P m, base W]) (fun k => 3 - k) 0 (Nat.zero_le _) ?_ (by ((try simp only [List.cons_append, List.nil_append]); repeat (first | exact ent_nil | exact ent_refl | refine ent_take (by repeat (first | exact Find.here | apply Find.there)) ?_ | refine ent_drop ?_))) ?_
  · (repeat (first | exact Env.sub_nil _ | refine Env.sub_cons rfl ?_))
  intro k hk
  dsimp only
  repeat (first | refine Zq ?_ | refine Zs ?_ | refine ZT ?_ | refine ZF ?_ | refine Zc ?_ | refine XO_gU (hk := ?_))
  refine X_cond rfl (fun hc3 => ?_) (fun hc3 => ?_) <;> simp only [decide_eq_true_eq, decide_eq_false_iff_not] at hc3
  · obtain ⟨p, hp2, hpo, _, _⟩ := os_one hJ.os (id := k) (by omega)
    have hRp := hJ.R.one hp2
    have hlp := hRp.len
    have hbp := hRp.bd
    have hpb : bl[k]? = some p.1 := by rw [← hJ.bs, List.getElem?_map, hp2]; rfl
    clear hqb
    refine X_open (A := Star (RgOf s) M) (by (repeat (first | exact Find.here | apply Find.there))) (Rgs.out hp2) ?_
    rintro ⟨⟩ -
    dsimp only [List.cons_append, List.nil_append]
    refine X_slopen (E' := ePn) (a := ra) (c := rc) (xs := bl) (by (repeat (first | exact Find.here | apply Find.there))) hbl0 ?_
    rintro rb ro rfl
    repeat (first | refine Zq ?_ | refine Zs ?_ | refine ZT ?_ | refine ZF ?_ | refine Zc ?_ | refine XO_gU (hk := ?_))
    refine XO_call (rmeter_spec p.1 s p.2.1 p.2.2 hlp.1 hlp.2 hbp.1 hbp.2) (hk := ?_)
    rintro _ _ ⟨rfl, rfl⟩
    refine XO_pv (pv_fieldV (v := .int .u64 p.2.2.obj)) (hk := ?_)
    repeat (first | refine Zq ?_ | refine Zs ?_ | refine ZT ?_ | refine ZF ?_ | refine Zc ?_ | refine XO_gU (hk := ?_))
    rw [objK_succ hp2]
    refine XE_fold (S := [Rg p.1 s p.2.1 p.2.2, Star (RgOf s) (M.eraseIdx k)]) (by repeat (first | exact FindAll.nil | exact Find.here | apply Find.there | apply FindAll.cons)) (Rgs.same hp2) ?_
    exact X_round (k + 1) (by show k + 1 ≤ 3; omega) (by show 3 - (k + 1) < 3 - k; omega) (by (repeat (first | exact Env.sub_nil _ | refine Env.sub_cons rfl ?_))) (by ((try simp only [List.cons_append, List.nil_append]); repeat (first | exact ent_nil | exact ent_refl | refine ent_take (by repeat (first | exact Find.here | apply Find.there)) ?_ | refine ent_drop ?_)))
  obtain rfl : k = 3 := by omega
  repeat (first | refine Zq ?_ | refine Zs ?_ | refine ZT ?_ | refine ZF ?_ | refine Zc ?_ | refine XO_gU (hk := ?_))
  refine XO_call (kfree_spec s sb C hJ.R.ok) (hk := ?_)
  rintro _ _ ⟨rfl, rfl⟩
  repeat (first | refine Zq ?_ | refine Zs ?_ | refine ZT ?_ | refine ZF ?_ | refine Zc ?_ | refine XO_gU (hk := ?_))
  refine X_open (A := Star (RgOf s) M) (by (repeat (first | exact Find.here | apply Find.there))) (Rgs.out hq) ?_
  rintro ⟨⟩ -
  dsimp only [List.cons_append, List.nil_append]
  refine X_slopen (E' := ePn) (a := ra) (c := rc) (xs := bl) (by (repeat (first | exact Find.here | apply Find.there))) hbl0 ?_
  rintro rb ro rfl
  repeat (first | refine XD_pick (h := ?_) | refine Dq ?_ | refine Ds ?_ | refine XDi_gF (h := ?_) | refine XDi_gU (h := ?_) | refine X_draws (h := ?_))
  have hsum : objK M 3 = IntKind.u64.wrap (sumF Sh.obj (M.map (·.2))) := by unfold objK; rw [List.take_of_length_le (by omega)]
  refine XD_one (h := ?_)
  refine XDa_dvA (dv_call (rmark_spec q.1 s q.2.1 q.2.2 hlen.1 hlen.2)) (hk := ?_)
  (rintro _ _ ⟨_, ⟨rfl, rfl⟩, rfl⟩; refine ⟨by (repeat (first | exact keeps_nil | exact keeps_fnil | refine keeps_skip (h := ?_) | refine keeps_takeQ (h := ?_))), ?_⟩)
  refine XD_pick (h := ?_)
  refine Dp (pv_neRec [(q.2.2.parts.length : Int), (q.2.2.larges.length : Int), topAt q.2.2, q.2.2.obj, q.2.2.pad] [(q.2.2.parts.length : Int), (q.2.2.larges.length : Int), topAt q.2.2, q.2.2.obj, q.2.2.pad]) ?_
  rw [decide_eq_true rfl]
  rw [hsum]
  repeat (first | refine XD_pick (h := ?_) | refine Dq ?_ | refine Ds ?_ | refine XDi_gF (h := ?_) | refine XDi_gU (h := ?_) | refine X_draws (h := ?_))
  rw [show ((meterL C (M.map (·.2))).tail.tail.tail.tail.headD 0 != IntKind.u64.wrap (sumF Sh.obj (M.map (·.2)))) = false from bne_of_eq' rfl]
  repeat (first | refine XD_pick (h := ?_) | refine Dq ?_ | refine Ds ?_ | refine XDi_gF (h := ?_) | refine XDi_gU (h := ?_) | refine X_draws (h := ?_))
  rw [show ((meterL C (M.map (·.2))).tail.tail.headD 0 != totI C.fr) = false from bne_of_eq' rfl]
  repeat (first | refine XD_pick (h := ?_) | refine Dq ?_ | refine Ds ?_ | refine XDi_gF (h := ?_) | refine XDi_gU (h := ?_) | refine X_draws (h := ?_))
  rw [show ((meterL C (M.map (·.2))).tail.tail.tail.headD 0 != (C.fr.length : Int)) = false from bne_of_eq' rfl]
  repeat (first | refine XD_pick (h := ?_) | refine Dq ?_ | refine Ds ?_ | refine XDi_gF (h := ?_) | refine XDi_gU (h := ?_) | refine X_draws (h := ?_))
  (refine XD_end (h := ?_); repeat (first | refine Zq ?_ | refine Zs ?_ | refine ZT ?_ | refine ZF ?_ | refine Zc ?_ | refine XO_gU (hk := ?_)))
  refine X_cond rfl (fun h => by cases h) (fun _ => ?_)
  repeat (first | refine Zq ?_ | refine Zs ?_ | refine ZT ?_ | refine ZF ?_ | refine Zc ?_ | refine XO_gU (hk := ?_))
  refine XE_fold (S := [Rg q.1 s q.2.1 q.2.2, Star (RgOf s) (M.eraseIdx id)]) (by repeat (first | exact FindAll.nil | exact Find.here | apply Find.there | apply FindAll.cons)) (Rgs.same hq) ?_
  exact X_round (i + 1, ⟨C, m, M, Ms⟩) ⟨by show i + 1 ≤ xs.length; omega, hJ⟩ (by show xs.length - (i + 1) < xs.length - i; omega) (by (repeat (first | exact Env.sub_nil _ | refine Env.sub_cons rfl ?_))) (by ((try simp only [List.cons_append, List.nil_append]); repeat (first | exact ent_nil | exact ent_refl | refine ent_take (by repeat (first | exact Find.here | apply Find.there)) ?_ | refine ent_drop ?_)))
end Go.Proofs.YtamecmklcnohjaaGreat.Sep
