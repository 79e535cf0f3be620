import Derived.Test.YtgoocobeoejoaaaBn8
/- What the laws share: a separation logic over the model, and what the program's functions do, by it. Part 9 of 12: HeadF ChunkE KOps KLine. -/
namespace Go.Proofs.Ytgoocobeoejoaaa.Sep
open Go.RowKit
set_option linter.unusedSimpArgs false
set_option linter.unusedVariables false
/-! headers that are laid -/
set_option maxHeartbeats 8000000
attribute [local irreducible] X XE XO XD XDi XDa PV RV DV pt base Spec Sl Mp Keeps Pgs Spc Frz
theorem hwrite_spec (sb : Nat) (P : Int) (m : Mm) (page : Int) (h : Hd) (h1 : P ≤ 1048576) (hk : HdOk h) (hin : 0 ≤ page ∧ page < P) : Spec Try.prog 62 [.pointer (some ⟨sb, 0, none⟩), .int .i64 page, hdV h] [Spc sb P m]
    (fun v L => v = .int .i64 0 ∧ L = [Spc sb P (stM m (page * 4096) (hdB h))]) := by
  refine Spec.intro (IsEnt.out) Try.func62 rfl Try.ntmps62 (by simp) (fun w0 F => ?_)
  simp only [envOf, List.zipIdx, List.map, List.cons_append, List.nil_append, Nat.zero_add, Nat.reduceAdd]
  have h0 : 0 ≤ P := by omega
  have ha : hatI P page = page * 4096 := by unfold hatI; rw [if_pos hin]
  have hright := hright_spec h
  have hde : decide (HdOk h) = true := decide_eq_true hk
  rw [hde] at hright
  have hat := hat_spec sb P m page h0 h1
  rw [ha] at hat
  have hst : ∀ b31, Spec Try.prog 11 [.pointer (some ⟨sb, 0, none⟩), .int .u64 (page * 4096), .slice (some ⟨b31, 0, none⟩) 32 32] [Spc sb P m, Sl (eI .u8) (some ⟨b31, 0, none⟩) 32 (magicB ++ (bsOf (4 : Int).toNat [h.pages, h.kind] ++ bsOf (8 : Int).toNat [h.owner, h.next]))]
      (fun v L => v = .int .i64 0 ∧ L = [Spc sb P (stM m (page * 4096) (hdB h)), Sl (eI .u8) (some ⟨b31, 0, none⟩) 32 (hdB h)]) := fun b31 => by
    have e : magicB ++ (bsOf (4 : Int).toNat [h.pages, h.kind] ++ bsOf (8 : Int).toNat [h.owner, h.next]) = hdB h := by simp [bsOf, hdB]
    rw [e]
    have hB : Byt (hdB h) := by
      intro x hx
      simp only [hdB, List.mem_append] at hx
      rcases hx with hx | (hx | hx) | hx | hx
      · simp [magicB] at hx; omega
      all_goals exact leB_byt _ _ x hx
    have hs := Store_spec (Sl (eI .u8) (some ⟨b31, 0, none⟩) 32 (hdB h)) sb 32 (some ⟨b31, 0, none⟩) P m (page * 4096) (hdB h) Sl.view hB (by rw [hdB_len]; decide) (by rw [hdB_len]; decide) h0 h1 (by omega) (by omega)
    have hf : fitsI P (page * 4096) (hdB h).length 1048576 = 0 := by rw [hdB_len]; unfold fitsI; rw [if_pos (by omega), if_neg (by omega)]
    unfold storeV at hs
    rw [if_pos hf, hdB_len] at hs
    exact hs
  obtain ⟨k1, k2, k3, k4⟩ := hk
  unfold hdV at hright ⊢
  repeat (first | refine Zq ?_ | refine Zs ?_ | refine ZT ?_ | refine ZF ?_ | refine Zc ?_ | refine XO_gU (hk := ?_))
  refine XO_dv (dv_box (row := [.int .i64 h.pages, .int .i64 h.kind, .int .u64 h.owner, .int .u64 h.next])) (hk := ?_)
  rintro _ _ ⟨hb, rfl, rfl⟩
  repeat (first | refine Zq ?_ | refine Zs ?_ | refine ZT ?_ | refine ZF ?_ | refine Zc ?_ | refine XO_gU (hk := ?_))
  refine XO_call hright (hk := ?_)
  rintro _ _ ⟨rfl, rfl⟩
  repeat (first | refine Zq ?_ | refine Zs ?_ | refine ZT ?_ | refine ZF ?_ | refine Zc ?_ | refine XO_gU (hk := ?_))
  refine X_cond rfl (fun h => by cases h) (fun _ => ?_)
  repeat (first | refine Zq ?_ | refine Zs ?_ | refine ZT ?_ | refine ZF ?_ | refine Zc ?_ | refine XO_gU (hk := ?_))
  repeat (first | refine XD_pick (h := ?_) | refine Dq ?_ | refine Ds ?_ | refine XDi_gF (h := ?_) | refine XDi_gU (h := ?_) | refine X_draws (h := ?_))
  refine XD_cut5 [(0, .pointer (some ⟨sb, 0, none⟩), true)] [19, 18, 13, 12, 5, 4, 3, 17, 16, 15, 14, 11, 10, 9, 8, 7, 6, 2, 1, 0] (fun b14 b22 b23 b28 b29 => [(29, .slice (some ⟨b29, 0, none⟩) (bsOf (8 : Int).toNat [h.owner, h.next]).length (bsOf (8 : Int).toNat [h.owner, h.next]).length), (28, .slice (some ⟨b28, 0, none⟩) [h.owner, h.next].length [h.owner, h.next].length), (23, .slice (some ⟨b23, 0, none⟩) (bsOf (4 : Int).toNat [h.pages, h.kind]).length (bsOf (4 : Int).toNat [h.pages, h.kind]).length), (22, .slice (some ⟨b22, 0, none⟩) [h.pages, h.kind].length [h.pages, h.kind].length), (15, .slice (some ⟨b14, 0, none⟩) magicB.length magicB.length), (14, .slice (some ⟨b14, 0, none⟩) magicB.length magicB.length), (13, .int .u64 (page * 4096)), (27, .int .u64 h.next), (26, .pointer (some ⟨hb, 3, none⟩)), (25, .int .u64 h.owner), (24, .pointer (some ⟨hb, 2, none⟩)), (21, .int .u64 h.kind), (20, .int .i64 h.kind), (19, .pointer (some ⟨hb, 1, none⟩)), (18, .int .u64 h.pages), (17, .int .i64 h.pages), (16, .pointer (some ⟨hb, 0, none⟩)), (12, .int .i64 page), (11, .pointer (some ⟨sb, 0, none⟩)), (10, .pointer (some ⟨sb, 0, none⟩)), (9, .bool !true), (8, .bool true), (7, .agg #[.int .i64 h.pages, .int .i64 h.kind, .int .u64 h.owner, .int .u64 h.next]), (6, .int .i64 0), (5, .pointer (some ⟨hb, 0, none⟩)), (0, .pointer (some ⟨sb, 0, none⟩)), (1, .int .i64 page), (2, .agg #[.int .i64 h.pages, .int .i64 h.kind, .int .u64 h.owner, .int .u64 h.next])]) (fun b14 b22 b23 b28 b29 => Sl (eI .u8) (some ⟨b29, 0, none⟩) (bsOf (8 : Int).toNat [h.owner, h.next]).length (bsOf (8 : Int).toNat [h.owner, h.next]) :: Sl (eI .u64) (some ⟨b28, 0, none⟩) [h.owner, h.next].length [h.owner, h.next] :: Sl (eI .u8) (some ⟨b23, 0, none⟩) (bsOf (4 : Int).toNat [h.pages, h.kind]).length (bsOf (4 : Int).toNat [h.pages, h.kind]) :: Sl (eI .u64) (some ⟨b22, 0, none⟩) [h.pages, h.kind].length [h.pages, h.kind] :: Frz b14 magicB :: Spc sb P m :: pt hb (.cells [.int .i64 h.pages, .int .i64 h.kind, .int .u64 h.owner, .int .u64 h.next].toArray 133 (0, 0)) :: F) ?_ (fun s3_4_5_12_13_18_19 => ?_)
  · intro b14 b22 b23 b28 b29
    refine XD_one (h := ?_)
    refine XDa_dvA (dv_lit (E' := eSl) [(some ⟨b14, 0, none⟩, 8, 8), (some ⟨b23, 0, none⟩, 8, 8), (some ⟨b29, 0, none⟩, 16, 16)]) (hk := ?_)
    rintro _ _ ⟨b30, rfl, rfl⟩
    refine ⟨by (repeat (first | exact keeps_nil | exact keeps_fnil | refine keeps_skip (h := ?_) | refine keeps_takeQ (h := ?_))), ?_⟩
    refine XD_one (h := ?_)
    refine XDa_dvA (dv_call (join_spec _ (Frz b14 magicB) _ _ (some ⟨b30, 0, none⟩) (some ⟨b14, 0, none⟩) (some ⟨b23, 0, none⟩) (some ⟨b29, 0, none⟩) 3 8 8 16 magicB (bsOf (4 : Int).toNat [h.pages, h.kind]) (bsOf (8 : Int).toNat [h.owner, h.next]) Sl.view Frz.view Sl.view Sl.view rfl rfl rfl)) (hk := ?_)
    rintro _ _ ⟨_, ⟨b31, rfl, rfl⟩, rfl⟩
    refine ⟨by (repeat (first | exact keeps_nil | exact keeps_fnil | refine keeps_skip (h := ?_) | refine keeps_takeQ (h := ?_))), ?_⟩
    refine XD_one (h := ?_)
    refine XDa_dvA (dv_call (hst b31)) (hk := ?_)
    rintro _ _ ⟨_, ⟨rfl, rfl⟩, rfl⟩
    refine ⟨by (repeat (first | exact keeps_nil | exact keeps_fnil | refine keeps_skip (h := ?_) | refine keeps_takeQ (h := ?_))), ?_⟩
    repeat (first | refine XD_pick (h := ?_) | refine Dq ?_ | refine Ds ?_ | refine XDi_gF (h := ?_) | refine XDi_gU (h := ?_) | refine X_draws (h := ?_))
    (refine XD_one (h := ?_); refine XDa_dvA (dv_of_rv (rv_of_pv pv_assign)) (hk := ?_); rintro _ _ ⟨rfl, rfl⟩; refine ⟨by (repeat (first | exact keeps_nil | exact keeps_fnil | refine keeps_skip (h := ?_) | refine keeps_takeQ (h := ?_))), ?_⟩)
    (refine XD_end (h := ?_); repeat (first | refine Zq ?_ | refine Zs ?_ | refine ZT ?_ | refine ZF ?_ | refine Zc ?_ | refine XO_gU (hk := ?_)))
    refine XE_ret (.inl rfl) (tells_tmps rfl rfl) ⟨_, ⟨rfl, rfl⟩, by ((try simp only [List.cons_append, List.nil_append]); repeat (first | exact ent_refl | refine ent_take (by repeat (first | exact Find.here | apply Find.there)) ?_ | refine ent_drop ?_))⟩
  refine XD_cut5 [(0, .pointer (some ⟨sb, 0, none⟩), true)] [18, 13, 12, 5, 4, 3, 17, 16, 15, 14, 11, 10, 9, 8, 7, 6, 2, 1, 0] (fun b14 b22 b23 b28 b29 => [(28, .slice (some ⟨b28, 0, none⟩) [h.owner, h.next].length [h.owner, h.next].length), (23, .slice (some ⟨b23, 0, none⟩) (bsOf (4 : Int).toNat [h.pages, h.kind]).length (bsOf (4 : Int).toNat [h.pages, h.kind]).length), (22, .slice (some ⟨b22, 0, none⟩) [h.pages, h.kind].length [h.pages, h.kind].length), (15, .slice (some ⟨b14, 0, none⟩) magicB.length magicB.length), (14, .slice (some ⟨b14, 0, none⟩) magicB.length magicB.length), (13, .int .u64 (page * 4096)), (27, .int .u64 h.next), (26, .pointer (some ⟨hb, 3, none⟩)), (25, .int .u64 h.owner), (24, .pointer (some ⟨hb, 2, none⟩)), (21, .int .u64 h.kind), (20, .int .i64 h.kind), (19, .pointer (some ⟨hb, 1, none⟩)), (18, .int .u64 h.pages), (17, .int .i64 h.pages), (16, .pointer (some ⟨hb, 0, none⟩)), (12, .int .i64 page), (11, .pointer (some ⟨sb, 0, none⟩)), (10, .pointer (some ⟨sb, 0, none⟩)), (9, .bool !true), (8, .bool true), (7, .agg #[.int .i64 h.pages, .int .i64 h.kind, .int .u64 h.owner, .int .u64 h.next]), (6, .int .i64 0), (5, .pointer (some ⟨hb, 0, none⟩)), (0, .pointer (some ⟨sb, 0, none⟩)), (1, .int .i64 page), (2, .agg #[.int .i64 h.pages, .int .i64 h.kind, .int .u64 h.owner, .int .u64 h.next])]) (fun b14 b22 b23 b28 b29 => Sl (eI .u64) (some ⟨b28, 0, none⟩) [h.owner, h.next].length [h.owner, h.next] :: Sl (eI .u8) (some ⟨b23, 0, none⟩) (bsOf (4 : Int).toNat [h.pages, h.kind]).length (bsOf (4 : Int).toNat [h.pages, h.kind]) :: Sl (eI .u64) (some ⟨b22, 0, none⟩) [h.pages, h.kind].length [h.pages, h.kind] :: Frz b14 magicB :: Spc sb P m :: pt hb (.cells [.int .i64 h.pages, .int .i64 h.kind, .int .u64 h.owner, .int .u64 h.next].toArray 133 (0, 0)) :: F) ?_ (fun s3_4_5_12_13_18 => ?_)
  · intro b14 b22 b23 b28 b29
    refine XD_one (h := ?_)
    · refine XDa_dvA (dv_call (wbytes_spec _ _ _ [h.owner, h.next] 8 (by omega) (by simp) Sl.view)) (hk := ?_)
      rintro _ _ ⟨_, ⟨b29, rfl, rfl⟩, rfl⟩
      refine ⟨by (repeat (first | exact keeps_nil | exact keeps_fnil | refine keeps_skip (h := ?_) | refine keeps_takeQ (h := ?_))), ?_⟩
      exact XD_perm2 (s3_4_5_12_13_18_19 b14 b22 b23 b28 b29)
  refine XD_cut5 [(0, .pointer (some ⟨sb, 0, none⟩), true)] [19, 18, 13, 12, 4, 3, 17, 16, 15, 14, 11, 10, 9, 8, 7, 6, 2, 1, 0] (fun b14 b22 b23 b28 b29 => [(29, .slice (some ⟨b29, 0, none⟩) (bsOf (8 : Int).toNat [h.owner, h.next]).length (bsOf (8 : Int).toNat [h.owner, h.next]).length), (28, .slice (some ⟨b28, 0, none⟩) [h.owner, h.next].length [h.owner, h.next].length), (23, .slice (some ⟨b23, 0, none⟩) (bsOf (4 : Int).toNat [h.pages, h.kind]).length (bsOf (4 : Int).toNat [h.pages, h.kind]).length), (22, .slice (some ⟨b22, 0, none⟩) [h.pages, h.kind].length [h.pages, h.kind].length), (14, .slice (some ⟨b14, 0, none⟩) magicB.length magicB.length), (13, .int .u64 (page * 4096)), (27, .int .u64 h.next), (26, .pointer (some ⟨hb, 3, none⟩)), (25, .int .u64 h.owner), (24, .pointer (some ⟨hb, 2, none⟩)), (21, .int .u64 h.kind), (20, .int .i64 h.kind), (19, .pointer (some ⟨hb, 1, none⟩)), (18, .int .u64 h.pages), (17, .int .i64 h.pages), (16, .pointer (some ⟨hb, 0, none⟩)), (12, .int .i64 page), (11, .pointer (some ⟨sb, 0, none⟩)), (10, .pointer (some ⟨sb, 0, none⟩)), (9, .bool !true), (8, .bool true), (7, .agg #[.int .i64 h.pages, .int .i64 h.kind, .int .u64 h.owner, .int .u64 h.next]), (6, .int .i64 0), (5, .pointer (some ⟨hb, 0, none⟩)), (0, .pointer (some ⟨sb, 0, none⟩)), (1, .int .i64 page), (2, .agg #[.int .i64 h.pages, .int .i64 h.kind, .int .u64 h.owner, .int .u64 h.next])]) (fun b14 b22 b23 b28 b29 => Sl (eI .u8) (some ⟨b29, 0, none⟩) (bsOf (8 : Int).toNat [h.owner, h.next]).length (bsOf (8 : Int).toNat [h.owner, h.next]) :: Sl (eI .u64) (some ⟨b28, 0, none⟩) [h.owner, h.next].length [h.owner, h.next] :: Sl (eI .u8) (some ⟨b23, 0, none⟩) (bsOf (4 : Int).toNat [h.pages, h.kind]).length (bsOf (4 : Int).toNat [h.pages, h.kind]) :: Sl (eI .u64) (some ⟨b22, 0, none⟩) [h.pages, h.kind].length [h.pages, h.kind] :: Sl (eI .u8) (some ⟨b14, 0, none⟩) magicB.length magicB :: Spc sb P m :: pt hb (.cells [.int .i64 h.pages, .int .i64 h.kind, .int .u64 h.owner, .int .u64 h.next].toArray 133 (0, 0)) :: F) ?_ (fun s3_4_12_13_18_19 => ?_)
  · intro b14 b22 b23 b28 b29
    refine XD_one (h := ?_)
    · refine XDa_dvA (dv_convSl) (hk := ?_)
      rintro _ _ ⟨rfl, rfl⟩
      refine ⟨by (repeat (first | exact keeps_nil | exact keeps_fnil | refine keeps_skip (h := ?_) | refine keeps_takeQ (h := ?_))), ?_⟩
      exact XD_perm2 (s3_4_5_12_13_18_19 b14 b22 b23 b28 b29)
  refine XD_cut5 [(17, .int .u64 h.next, false), (16, .pointer (some ⟨hb, 3, none⟩), true), (15, .int .u64 h.owner, false), (14, .pointer (some ⟨hb, 2, none⟩), true), (0, .pointer (some ⟨sb, 0, none⟩), true)] [13, 12, 5, 4, 3, 17, 16, 15, 14, 11, 10, 9, 8, 7, 6, 2, 1, 0] (fun b14 b22 b23 b28 b29 => [(23, .slice (some ⟨b23, 0, none⟩) (bsOf (4 : Int).toNat [h.pages, h.kind]).length (bsOf (4 : Int).toNat [h.pages, h.kind]).length), (22, .slice (some ⟨b22, 0, none⟩) [h.pages, h.kind].length [h.pages, h.kind].length), (15, .slice (some ⟨b14, 0, none⟩) magicB.length magicB.length), (14, .slice (some ⟨b14, 0, none⟩) magicB.length magicB.length), (13, .int .u64 (page * 4096)), (27, .int .u64 h.next), (26, .pointer (some ⟨hb, 3, none⟩)), (25, .int .u64 h.owner), (24, .pointer (some ⟨hb, 2, none⟩)), (21, .int .u64 h.kind), (20, .int .i64 h.kind), (19, .pointer (some ⟨hb, 1, none⟩)), (18, .int .u64 h.pages), (17, .int .i64 h.pages), (16, .pointer (some ⟨hb, 0, none⟩)), (12, .int .i64 page), (11, .pointer (some ⟨sb, 0, none⟩)), (10, .pointer (some ⟨sb, 0, none⟩)), (9, .bool !true), (8, .bool true), (7, .agg #[.int .i64 h.pages, .int .i64 h.kind, .int .u64 h.owner, .int .u64 h.next]), (6, .int .i64 0), (5, .pointer (some ⟨hb, 0, none⟩)), (0, .pointer (some ⟨sb, 0, none⟩)), (1, .int .i64 page), (2, .agg #[.int .i64 h.pages, .int .i64 h.kind, .int .u64 h.owner, .int .u64 h.next])]) (fun b14 b22 b23 b28 b29 => Sl (eI .u8) (some ⟨b23, 0, none⟩) (bsOf (4 : Int).toNat [h.pages, h.kind]).length (bsOf (4 : Int).toNat [h.pages, h.kind]) :: Sl (eI .u64) (some ⟨b22, 0, none⟩) [h.pages, h.kind].length [h.pages, h.kind] :: Frz b14 magicB :: Spc sb P m :: pt hb (.cells [.int .i64 h.pages, .int .i64 h.kind, .int .u64 h.owner, .int .u64 h.next].toArray 133 (0, 0)) :: F) ?_ (fun s3_4_5_12_13 => ?_)
  · intro b14 b22 b23 b28 b29
    refine XD_one (h := ?_)
    · refine XDa_dvA (dv_lit (E' := eI .u64) [h.owner, h.next]) (hk := ?_)
      rintro _ _ ⟨b28, rfl, rfl⟩
      refine ⟨by (repeat (first | exact keeps_nil | exact keeps_fnil | refine keeps_skip (h := ?_) | refine keeps_takeQ (h := ?_))), ?_⟩
      exact XD_perm2 (s3_4_5_12_13_18 b14 b22 b23 b28 b29)
  refine XD_cut5 [(0, .pointer (some ⟨sb, 0, none⟩), true)] [18, 12, 5, 4, 3, 17, 16, 15, 14, 11, 10, 9, 8, 7, 6, 2, 1, 0] (fun b14 b22 b23 b28 b29 => [(28, .slice (some ⟨b28, 0, none⟩) [h.owner, h.next].length [h.owner, h.next].length), (22, .slice (some ⟨b22, 0, none⟩) [h.pages, h.kind].length [h.pages, h.kind].length), (15, .slice (some ⟨b14, 0, none⟩) magicB.length magicB.length), (14, .slice (some ⟨b14, 0, none⟩) magicB.length magicB.length), (13, .int .u64 (page * 4096)), (27, .int .u64 h.next), (26, .pointer (some ⟨hb, 3, none⟩)), (25, .int .u64 h.owner), (24, .pointer (some ⟨hb, 2, none⟩)), (21, .int .u64 h.kind), (20, .int .i64 h.kind), (19, .pointer (some ⟨hb, 1, none⟩)), (18, .int .u64 h.pages), (17, .int .i64 h.pages), (16, .pointer (some ⟨hb, 0, none⟩)), (12, .int .i64 page), (11, .pointer (some ⟨sb, 0, none⟩)), (10, .pointer (some ⟨sb, 0, none⟩)), (9, .bool !true), (8, .bool true), (7, .agg #[.int .i64 h.pages, .int .i64 h.kind, .int .u64 h.owner, .int .u64 h.next]), (6, .int .i64 0), (5, .pointer (some ⟨hb, 0, none⟩)), (0, .pointer (some ⟨sb, 0, none⟩)), (1, .int .i64 page), (2, .agg #[.int .i64 h.pages, .int .i64 h.kind, .int .u64 h.owner, .int .u64 h.next])]) (fun b14 b22 b23 b28 b29 => Sl (eI .u64) (some ⟨b28, 0, none⟩) [h.owner, h.next].length [h.owner, h.next] :: Sl (eI .u64) (some ⟨b22, 0, none⟩) [h.pages, h.kind].length [h.pages, h.kind] :: Frz b14 magicB :: Spc sb P m :: pt hb (.cells [.int .i64 h.pages, .int .i64 h.kind, .int .u64 h.owner, .int .u64 h.next].toArray 133 (0, 0)) :: F) ?_ (fun s3_4_5_12_18 => ?_)
  · intro b14 b22 b23 b28 b29
    refine XD_one (h := ?_)
    · refine XDa_dvA (dv_call (wbytes_spec _ _ _ [h.pages, h.kind] 4 (by omega) (by simp) Sl.view)) (hk := ?_)
      rintro _ _ ⟨_, ⟨b23, rfl, rfl⟩, rfl⟩
      refine ⟨by (repeat (first | exact keeps_nil | exact keeps_fnil | refine keeps_skip (h := ?_) | refine keeps_takeQ (h := ?_))), ?_⟩
      exact XD_perm2 (s3_4_5_12_13_18 b14 b22 b23 b28 b29)
  refine XD_cut5 [(0, .pointer (some ⟨sb, 0, none⟩), true)] [18, 13, 12, 4, 3, 17, 16, 15, 14, 11, 10, 9, 8, 7, 6, 2, 1, 0] (fun b14 b22 b23 b28 b29 => [(28, .slice (some ⟨b28, 0, none⟩) [h.owner, h.next].length [h.owner, h.next].length), (23, .slice (some ⟨b23, 0, none⟩) (bsOf (4 : Int).toNat [h.pages, h.kind]).length (bsOf (4 : Int).toNat [h.pages, h.kind]).length), (22, .slice (some ⟨b22, 0, none⟩) [h.pages, h.kind].length [h.pages, h.kind].length), (14, .slice (some ⟨b14, 0, none⟩) magicB.length magicB.length), (13, .int .u64 (page * 4096)), (27, .int .u64 h.next), (26, .pointer (some ⟨hb, 3, none⟩)), (25, .int .u64 h.owner), (24, .pointer (some ⟨hb, 2, none⟩)), (21, .int .u64 h.kind), (20, .int .i64 h.kind), (19, .pointer (some ⟨hb, 1, none⟩)), (18, .int .u64 h.pages), (17, .int .i64 h.pages), (16, .pointer (some ⟨hb, 0, none⟩)), (12, .int .i64 page), (11, .pointer (some ⟨sb, 0, none⟩)), (10, .pointer (some ⟨sb, 0, none⟩)), (9, .bool !true), (8, .bool true), (7, .agg #[.int .i64 h.pages, .int .i64 h.kind, .int .u64 h.owner, .int .u64 h.next]), (6, .int .i64 0), (5, .pointer (some ⟨hb, 0, none⟩)), (0, .pointer (some ⟨sb, 0, none⟩)), (1, .int .i64 page), (2, .agg #[.int .i64 h.pages, .int .i64 h.kind, .int .u64 h.owner, .int .u64 h.next])]) (fun b14 b22 b23 b28 b29 => Sl (eI .u64) (some ⟨b28, 0, none⟩) [h.owner, h.next].length [h.owner, h.next] :: Sl (eI .u8) (some ⟨b23, 0, none⟩) (bsOf (4 : Int).toNat [h.pages, h.kind]).length (bsOf (4 : Int).toNat [h.pages, h.kind]) :: Sl (eI .u64) (some ⟨b22, 0, none⟩) [h.pages, h.kind].length [h.pages, h.kind] :: Sl (eI .u8) (some ⟨b14, 0, none⟩) magicB.length magicB :: Spc sb P m :: pt hb (.cells [.int .i64 h.pages, .int .i64 h.kind, .int .u64 h.owner, .int .u64 h.next].toArray 133 (0, 0)) :: F) ?_ (fun s3_4_12_13_18 => ?_)
  · intro b14 b22 b23 b28 b29
    refine XD_two (h := ?_) (h' := ?_)
    · refine XDa_dvA (dv_convSl) (hk := ?_)
      rintro _ _ ⟨rfl, rfl⟩
      refine ⟨by (repeat (first | exact keeps_nil | exact keeps_fnil | refine keeps_skip (h := ?_) | refine keeps_takeQ (h := ?_))), ?_⟩
      exact XD_perm2 (s3_4_5_12_13_18 b14 b22 b23 b28 b29)
    · refine XDa_dvA (dv_call (wbytes_spec _ _ _ [h.owner, h.next] 8 (by omega) (by simp) Sl.view)) (hk := ?_)
      rintro _ _ ⟨_, ⟨b29, rfl, rfl⟩, rfl⟩
      refine ⟨by (repeat (first | exact keeps_nil | exact keeps_fnil | refine keeps_skip (h := ?_) | refine keeps_takeQ (h := ?_))), ?_⟩
      exact XD_perm2 (s3_4_12_13_18_19 b14 b22 b23 b28 b29)
  refine XD_cut5 [(0, .pointer (some ⟨sb, 0, none⟩), true)] [19, 18, 13, 12, 3, 17, 16, 15, 14, 11, 10, 9, 8, 7, 6, 2, 1, 0] (fun b14 b22 b23 b28 b29 => [(29, .slice (some ⟨b29, 0, none⟩) (bsOf (8 : Int).toNat [h.owner, h.next]).length (bsOf (8 : Int).toNat [h.owner, h.next]).length), (28, .slice (some ⟨b28, 0, none⟩) [h.owner, h.next].length [h.owner, h.next].length), (23, .slice (some ⟨b23, 0, none⟩) (bsOf (4 : Int).toNat [h.pages, h.kind]).length (bsOf (4 : Int).toNat [h.pages, h.kind]).length), (22, .slice (some ⟨b22, 0, none⟩) [h.pages, h.kind].length [h.pages, h.kind].length), (13, .int .u64 (page * 4096)), (27, .int .u64 h.next), (26, .pointer (some ⟨hb, 3, none⟩)), (25, .int .u64 h.owner), (24, .pointer (some ⟨hb, 2, none⟩)), (21, .int .u64 h.kind), (20, .int .i64 h.kind), (19, .pointer (some ⟨hb, 1, none⟩)), (18, .int .u64 h.pages), (17, .int .i64 h.pages), (16, .pointer (some ⟨hb, 0, none⟩)), (12, .int .i64 page), (11, .pointer (some ⟨sb, 0, none⟩)), (10, .pointer (some ⟨sb, 0, none⟩)), (9, .bool !true), (8, .bool true), (7, .agg #[.int .i64 h.pages, .int .i64 h.kind, .int .u64 h.owner, .int .u64 h.next]), (6, .int .i64 0), (5, .pointer (some ⟨hb, 0, none⟩)), (0, .pointer (some ⟨sb, 0, none⟩)), (1, .int .i64 page), (2, .agg #[.int .i64 h.pages, .int .i64 h.kind, .int .u64 h.owner, .int .u64 h.next])]) (fun b14 b22 b23 b28 b29 => Sl (eI .u8) (some ⟨b29, 0, none⟩) (bsOf (8 : Int).toNat [h.owner, h.next]).length (bsOf (8 : Int).toNat [h.owner, h.next]) :: Sl (eI .u64) (some ⟨b28, 0, none⟩) [h.owner, h.next].length [h.owner, h.next] :: Sl (eI .u8) (some ⟨b23, 0, none⟩) (bsOf (4 : Int).toNat [h.pages, h.kind]).length (bsOf (4 : Int).toNat [h.pages, h.kind]) :: Sl (eI .u64) (some ⟨b22, 0, none⟩) [h.pages, h.kind].length [h.pages, h.kind] :: Spc sb P m :: pt hb (.cells [.int .i64 h.pages, .int .i64 h.kind, .int .u64 h.owner, .int .u64 h.next].toArray 133 (0, 0)) :: F) ?_ (fun s3_12_13_18_19 => ?_)
  · intro b14 b22 b23 b28 b29
    refine XD_one (h := ?_)
    · refine XDa_dvA (dv_lit (E' := eI .u8) magicB) (hk := ?_)
      rintro _ _ ⟨b14, rfl, rfl⟩
      refine ⟨by (repeat (first | exact keeps_nil | exact keeps_fnil | refine keeps_skip (h := ?_) | refine keeps_takeQ (h := ?_))), ?_⟩
      exact XD_perm2 (s3_4_12_13_18_19 b14 b22 b23 b28 b29)
  refine XD_cut5 [(17, .int .u64 h.next, false), (16, .pointer (some ⟨hb, 3, none⟩), true), (15, .int .u64 h.owner, false), (14, .pointer (some ⟨hb, 2, none⟩), true), (0, .pointer (some ⟨sb, 0, none⟩), true)] [12, 5, 4, 3, 17, 16, 15, 14, 11, 10, 9, 8, 7, 6, 2, 1, 0] (fun b14 b22 b23 b28 b29 => [(22, .slice (some ⟨b22, 0, none⟩) [h.pages, h.kind].length [h.pages, h.kind].length), (15, .slice (some ⟨b14, 0, none⟩) magicB.length magicB.length), (14, .slice (some ⟨b14, 0, none⟩) magicB.length magicB.length), (13, .int .u64 (page * 4096)), (27, .int .u64 h.next), (26, .pointer (some ⟨hb, 3, none⟩)), (25, .int .u64 h.owner), (24, .pointer (some ⟨hb, 2, none⟩)), (21, .int .u64 h.kind), (20, .int .i64 h.kind), (19, .pointer (some ⟨hb, 1, none⟩)), (18, .int .u64 h.pages), (17, .int .i64 h.pages), (16, .pointer (some ⟨hb, 0, none⟩)), (12, .int .i64 page), (11, .pointer (some ⟨sb, 0, none⟩)), (10, .pointer (some ⟨sb, 0, none⟩)), (9, .bool !true), (8, .bool true), (7, .agg #[.int .i64 h.pages, .int .i64 h.kind, .int .u64 h.owner, .int .u64 h.next]), (6, .int .i64 0), (5, .pointer (some ⟨hb, 0, none⟩)), (0, .pointer (some ⟨sb, 0, none⟩)), (1, .int .i64 page), (2, .agg #[.int .i64 h.pages, .int .i64 h.kind, .int .u64 h.owner, .int .u64 h.next])]) (fun b14 b22 b23 b28 b29 => Sl (eI .u64) (some ⟨b22, 0, none⟩) [h.pages, h.kind].length [h.pages, h.kind] :: Frz b14 magicB :: Spc sb P m :: pt hb (.cells [.int .i64 h.pages, .int .i64 h.kind, .int .u64 h.owner, .int .u64 h.next].toArray 133 (0, 0)) :: F) ?_ (fun s3_4_5_12 => ?_)
  · intro b14 b22 b23 b28 b29
    refine XD_two (h := ?_) (h' := ?_)
    · refine XDa_dvA (dv_call (wbytes_spec _ _ _ [h.pages, h.kind] 4 (by omega) (by simp) Sl.view)) (hk := ?_)
      rintro _ _ ⟨_, ⟨b23, rfl, rfl⟩, rfl⟩
      refine ⟨by (repeat (first | exact keeps_nil | exact keeps_fnil | refine keeps_skip (h := ?_) | refine keeps_takeQ (h := ?_))), ?_⟩
      exact XD_perm2 (s3_4_5_12_13 b14 b22 b23 b28 b29)
    · refine XDa_dvA (dv_lit (E' := eI .u64) [h.owner, h.next]) (hk := ?_)
      rintro _ _ ⟨b28, rfl, rfl⟩
      refine ⟨by (repeat (first | exact keeps_nil | exact keeps_fnil | refine keeps_skip (h := ?_) | refine keeps_takeQ (h := ?_))), ?_⟩
      exact XD_perm2 (s3_4_5_12_18 b14 b22 b23 b28 b29)
  refine XD_cut5 [(11, .int .u64 h.kind, true), (10, .int .i64 h.kind, false), (9, .pointer (some ⟨hb, 1, none⟩), true), (8, .int .u64 h.pages, true), (7, .int .i64 h.pages, false), (6, .pointer (some ⟨hb, 0, none⟩), true), (0, .pointer (some ⟨sb, 0, none⟩), true)] [18, 5, 4, 3, 17, 16, 15, 14, 11, 10, 9, 8, 7, 6, 2, 1, 0] (fun b14 b22 b23 b28 b29 => [(28, .slice (some ⟨b28, 0, none⟩) [h.owner, h.next].length [h.owner, h.next].length), (15, .slice (some ⟨b14, 0, none⟩) magicB.length magicB.length), (14, .slice (some ⟨b14, 0, none⟩) magicB.length magicB.length), (13, .int .u64 (page * 4096)), (27, .int .u64 h.next), (26, .pointer (some ⟨hb, 3, none⟩)), (25, .int .u64 h.owner), (24, .pointer (some ⟨hb, 2, none⟩)), (21, .int .u64 h.kind), (20, .int .i64 h.kind), (19, .pointer (some ⟨hb, 1, none⟩)), (18, .int .u64 h.pages), (17, .int .i64 h.pages), (16, .pointer (some ⟨hb, 0, none⟩)), (12, .int .i64 page), (11, .pointer (some ⟨sb, 0, none⟩)), (10, .pointer (some ⟨sb, 0, none⟩)), (9, .bool !true), (8, .bool true), (7, .agg #[.int .i64 h.pages, .int .i64 h.kind, .int .u64 h.owner, .int .u64 h.next]), (6, .int .i64 0), (5, .pointer (some ⟨hb, 0, none⟩)), (0, .pointer (some ⟨sb, 0, none⟩)), (1, .int .i64 page), (2, .agg #[.int .i64 h.pages, .int .i64 h.kind, .int .u64 h.owner, .int .u64 h.next])]) (fun b14 b22 b23 b28 b29 => Sl (eI .u64) (some ⟨b28, 0, none⟩) [h.owner, h.next].length [h.owner, h.next] :: Frz b14 magicB :: Spc sb P m :: pt hb (.cells [.int .i64 h.pages, .int .i64 h.kind, .int .u64 h.owner, .int .u64 h.next].toArray 133 (0, 0)) :: F) ?_ (fun s3_4_5_18 => ?_)
  · intro b14 b22 b23 b28 b29
    refine XD_one (h := ?_)
    · refine XDa_dvA (dv_lit (E' := eI .u64) [h.pages, h.kind]) (hk := ?_)
      rintro _ _ ⟨b22, rfl, rfl⟩
      refine ⟨by (repeat (first | exact keeps_nil | exact keeps_fnil | refine keeps_skip (h := ?_) | refine keeps_takeQ (h := ?_))), ?_⟩
      exact XD_perm2 (s3_4_5_12_18 b14 b22 b23 b28 b29)
  refine XD_cut5 [(17, .int .u64 h.next, false), (16, .pointer (some ⟨hb, 3, none⟩), true), (15, .int .u64 h.owner, false), (14, .pointer (some ⟨hb, 2, none⟩), true), (0, .pointer (some ⟨sb, 0, none⟩), true)] [13, 12, 4, 3, 17, 16, 15, 14, 11, 10, 9, 8, 7, 6, 2, 1, 0] (fun b14 b22 b23 b28 b29 => [(23, .slice (some ⟨b23, 0, none⟩) (bsOf (4 : Int).toNat [h.pages, h.kind]).length (bsOf (4 : Int).toNat [h.pages, h.kind]).length), (22, .slice (some ⟨b22, 0, none⟩) [h.pages, h.kind].length [h.pages, h.kind].length), (14, .slice (some ⟨b14, 0, none⟩) magicB.length magicB.length), (13, .int .u64 (page * 4096)), (27, .int .u64 h.next), (26, .pointer (some ⟨hb, 3, none⟩)), (25, .int .u64 h.owner), (24, .pointer (some ⟨hb, 2, none⟩)), (21, .int .u64 h.kind), (20, .int .i64 h.kind), (19, .pointer (some ⟨hb, 1, none⟩)), (18, .int .u64 h.pages), (17, .int .i64 h.pages), (16, .pointer (some ⟨hb, 0, none⟩)), (12, .int .i64 page), (11, .pointer (some ⟨sb, 0, none⟩)), (10, .pointer (some ⟨sb, 0, none⟩)), (9, .bool !true), (8, .bool true), (7, .agg #[.int .i64 h.pages, .int .i64 h.kind, .int .u64 h.owner, .int .u64 h.next]), (6, .int .i64 0), (5, .pointer (some ⟨hb, 0, none⟩)), (0, .pointer (some ⟨sb, 0, none⟩)), (1, .int .i64 page), (2, .agg #[.int .i64 h.pages, .int .i64 h.kind, .int .u64 h.owner, .int .u64 h.next])]) (fun b14 b22 b23 b28 b29 => Sl (eI .u8) (some ⟨b23, 0, none⟩) (bsOf (4 : Int).toNat [h.pages, h.kind]).length (bsOf (4 : Int).toNat [h.pages, h.kind]) :: Sl (eI .u64) (some ⟨b22, 0, none⟩) [h.pages, h.kind].length [h.pages, h.kind] :: Sl (eI .u8) (some ⟨b14, 0, none⟩) magicB.length magicB :: Spc sb P m :: pt hb (.cells [.int .i64 h.pages, .int .i64 h.kind, .int .u64 h.owner, .int .u64 h.next].toArray 133 (0, 0)) :: F) ?_ (fun s3_4_12_13 => ?_)
  · intro b14 b22 b23 b28 b29
    refine XD_two (h := ?_) (h' := ?_)
    · refine XDa_dvA (dv_convSl) (hk := ?_)
      rintro _ _ ⟨rfl, rfl⟩
      refine ⟨by (repeat (first | exact keeps_nil | exact keeps_fnil | refine keeps_skip (h := ?_) | refine keeps_takeQ (h := ?_))), ?_⟩
      exact XD_perm2 (s3_4_5_12_13 b14 b22 b23 b28 b29)
    · refine XDa_dvA (dv_lit (E' := eI .u64) [h.owner, h.next]) (hk := ?_)
      rintro _ _ ⟨b28, rfl, rfl⟩
      refine ⟨by (repeat (first | exact keeps_nil | exact keeps_fnil | refine keeps_skip (h := ?_) | refine keeps_takeQ (h := ?_))), ?_⟩
      exact XD_perm2 (s3_4_12_13_18 b14 b22 b23 b28 b29)
  refine XD_cut5 [(0, .pointer (some ⟨sb, 0, none⟩), true)] [18, 12, 4, 3, 17, 16, 15, 14, 11, 10, 9, 8, 7, 6, 2, 1, 0] (fun b14 b22 b23 b28 b29 => [(28, .slice (some ⟨b28, 0, none⟩) [h.owner, h.next].length [h.owner, h.next].length), (22, .slice (some ⟨b22, 0, none⟩) [h.pages, h.kind].length [h.pages, h.kind].length), (14, .slice (some ⟨b14, 0, none⟩) magicB.length magicB.length), (13, .int .u64 (page * 4096)), (27, .int .u64 h.next), (26, .pointer (some ⟨hb, 3, none⟩)), (25, .int .u64 h.owner), (24, .pointer (some ⟨hb, 2, none⟩)), (21, .int .u64 h.kind), (20, .int .i64 h.kind), (19, .pointer (some ⟨hb, 1, none⟩)), (18, .int .u64 h.pages), (17, .int .i64 h.pages), (16, .pointer (some ⟨hb, 0, none⟩)), (12, .int .i64 page), (11, .pointer (some ⟨sb, 0, none⟩)), (10, .pointer (some ⟨sb, 0, none⟩)), (9, .bool !true), (8, .bool true), (7, .agg #[.int .i64 h.pages, .int .i64 h.kind, .int .u64 h.owner, .int .u64 h.next]), (6, .int .i64 0), (5, .pointer (some ⟨hb, 0, none⟩)), (0, .pointer (some ⟨sb, 0, none⟩)), (1, .int .i64 page), (2, .agg #[.int .i64 h.pages, .int .i64 h.kind, .int .u64 h.owner, .int .u64 h.next])]) (fun b14 b22 b23 b28 b29 => Sl (eI .u64) (some ⟨b28, 0, none⟩) [h.owner, h.next].length [h.owner, h.next] :: Sl (eI .u64) (some ⟨b22, 0, none⟩) [h.pages, h.kind].length [h.pages, h.kind] :: Sl (eI .u8) (some ⟨b14, 0, none⟩) magicB.length magicB :: Spc sb P m :: pt hb (.cells [.int .i64 h.pages, .int .i64 h.kind, .int .u64 h.owner, .int .u64 h.next].toArray 133 (0, 0)) :: F) ?_ (fun s3_4_12_18 => ?_)
  · intro b14 b22 b23 b28 b29
    refine XD_two (h := ?_) (h' := ?_)
    · refine XDa_dvA (dv_convSl) (hk := ?_)
      rintro _ _ ⟨rfl, rfl⟩
      refine ⟨by (repeat (first | exact keeps_nil | exact keeps_fnil | refine keeps_skip (h := ?_) | refine keeps_takeQ (h := ?_))), ?_⟩
      exact XD_perm2 (s3_4_5_12_18 b14 b22 b23 b28 b29)
    · refine XDa_dvA (dv_call (wbytes_spec _ _ _ [h.pages, h.kind] 4 (by omega) (by simp) Sl.view)) (hk := ?_)
      rintro _ _ ⟨_, ⟨b23, rfl, rfl⟩, rfl⟩
      refine ⟨by (repeat (first | exact keeps_nil | exact keeps_fnil | refine keeps_skip (h := ?_) | refine keeps_takeQ (h := ?_))), ?_⟩
      exact XD_perm2 (s3_4_12_13_18 b14 b22 b23 b28 b29)
  refine XD_cut5 [(0, .pointer (some ⟨sb, 0, none⟩), true)] [18, 13, 12, 3, 17, 16, 15, 14, 11, 10, 9, 8, 7, 6, 2, 1, 0] (fun b14 b22 b23 b28 b29 => [(28, .slice (some ⟨b28, 0, none⟩) [h.owner, h.next].length [h.owner, h.next].length), (23, .slice (some ⟨b23, 0, none⟩) (bsOf (4 : Int).toNat [h.pages, h.kind]).length (bsOf (4 : Int).toNat [h.pages, h.kind]).length), (22, .slice (some ⟨b22, 0, none⟩) [h.pages, h.kind].length [h.pages, h.kind].length), (13, .int .u64 (page * 4096)), (27, .int .u64 h.next), (26, .pointer (some ⟨hb, 3, none⟩)), (25, .int .u64 h.owner), (24, .pointer (some ⟨hb, 2, none⟩)), (21, .int .u64 h.kind), (20, .int .i64 h.kind), (19, .pointer (some ⟨hb, 1, none⟩)), (18, .int .u64 h.pages), (17, .int .i64 h.pages), (16, .pointer (some ⟨hb, 0, none⟩)), (12, .int .i64 page), (11, .pointer (some ⟨sb, 0, none⟩)), (10, .pointer (some ⟨sb, 0, none⟩)), (9, .bool !true), (8, .bool true), (7, .agg #[.int .i64 h.pages, .int .i64 h.kind, .int .u64 h.owner, .int .u64 h.next]), (6, .int .i64 0), (5, .pointer (some ⟨hb, 0, none⟩)), (0, .pointer (some ⟨sb, 0, none⟩)), (1, .int .i64 page), (2, .agg #[.int .i64 h.pages, .int .i64 h.kind, .int .u64 h.owner, .int .u64 h.next])]) (fun b14 b22 b23 b28 b29 => Sl (eI .u64) (some ⟨b28, 0, none⟩) [h.owner, h.next].length [h.owner, h.next] :: Sl (eI .u8) (some ⟨b23, 0, none⟩) (bsOf (4 : Int).toNat [h.pages, h.kind]).length (bsOf (4 : Int).toNat [h.pages, h.kind]) :: Sl (eI .u64) (some ⟨b22, 0, none⟩) [h.pages, h.kind].length [h.pages, h.kind] :: Spc sb P m :: pt hb (.cells [.int .i64 h.pages, .int .i64 h.kind, .int .u64 h.owner, .int .u64 h.next].toArray 133 (0, 0)) :: F) ?_ (fun s3_12_13_18 => ?_)
  · intro b14 b22 b23 b28 b29
    refine XD_two (h := ?_) (h' := ?_)
    · refine XDa_dvA (dv_lit (E' := eI .u8) magicB) (hk := ?_)
      rintro _ _ ⟨b14, rfl, rfl⟩
      refine ⟨by (repeat (first | exact keeps_nil | exact keeps_fnil | refine keeps_skip (h := ?_) | refine keeps_takeQ (h := ?_))), ?_⟩
      exact XD_perm2 (s3_4_12_13_18 b14 b22 b23 b28 b29)
    · refine XDa_dvA (dv_call (wbytes_spec _ _ _ [h.owner, h.next] 8 (by omega) (by simp) Sl.view)) (hk := ?_)
      rintro _ _ ⟨_, ⟨b29, rfl, rfl⟩, rfl⟩
      refine ⟨by (repeat (first | exact keeps_nil | exact keeps_fnil | refine keeps_skip (h := ?_) | refine keeps_takeQ (h := ?_))), ?_⟩
      exact XD_perm2 (s3_12_13_18_19 b14 b22 b23 b28 b29)
  refine XD_cut5 [(2, .int .i64 page, true), (1, .pointer (some ⟨sb, 0, none⟩), true), (0, .pointer (some ⟨sb, 0, none⟩), true)] [18, 12, 5, 4, 17, 16, 15, 14, 11, 10, 9, 8, 7, 6, 2, 1, 0] (fun b14 b22 b23 b28 b29 => [(28, .slice (some ⟨b28, 0, none⟩) [h.owner, h.next].length [h.owner, h.next].length), (22, .slice (some ⟨b22, 0, none⟩) [h.pages, h.kind].length [h.pages, h.kind].length), (15, .slice (some ⟨b14, 0, none⟩) magicB.length magicB.length), (14, .slice (some ⟨b14, 0, none⟩) magicB.length magicB.length), (27, .int .u64 h.next), (26, .pointer (some ⟨hb, 3, none⟩)), (25, .int .u64 h.owner), (24, .pointer (some ⟨hb, 2, none⟩)), (21, .int .u64 h.kind), (20, .int .i64 h.kind), (19, .pointer (some ⟨hb, 1, none⟩)), (18, .int .u64 h.pages), (17, .int .i64 h.pages), (16, .pointer (some ⟨hb, 0, none⟩)), (12, .int .i64 page), (11, .pointer (some ⟨sb, 0, none⟩)), (10, .pointer (some ⟨sb, 0, none⟩)), (9, .bool !true), (8, .bool true), (7, .agg #[.int .i64 h.pages, .int .i64 h.kind, .int .u64 h.owner, .int .u64 h.next]), (6, .int .i64 0), (5, .pointer (some ⟨hb, 0, none⟩)), (0, .pointer (some ⟨sb, 0, none⟩)), (1, .int .i64 page), (2, .agg #[.int .i64 h.pages, .int .i64 h.kind, .int .u64 h.owner, .int .u64 h.next])]) (fun b14 b22 b23 b28 b29 => Sl (eI .u64) (some ⟨b28, 0, none⟩) [h.owner, h.next].length [h.owner, h.next] :: Sl (eI .u64) (some ⟨b22, 0, none⟩) [h.pages, h.kind].length [h.pages, h.kind] :: Frz b14 magicB :: Spc sb P m :: pt hb (.cells [.int .i64 h.pages, .int .i64 h.kind, .int .u64 h.owner, .int .u64 h.next].toArray 133 (0, 0)) :: F) ?_ (fun s4_5_12_18 => ?_)
  · intro b14 b22 b23 b28 b29
    refine XD_one (h := ?_)
    · refine XDa_dvA (dv_call hat) (hk := ?_)
      rintro _ _ ⟨_, ⟨rfl, rfl⟩, rfl⟩
      refine ⟨by (repeat (first | exact keeps_nil | exact keeps_fnil | refine keeps_skip (h := ?_) | refine keeps_takeQ (h := ?_))), ?_⟩
      exact XD_perm2 (s3_4_5_12_18 b14 b22 b23 b28 b29)
  refine XD_cut5 [(17, .int .u64 h.next, false), (16, .pointer (some ⟨hb, 3, none⟩), true), (15, .int .u64 h.owner, false), (14, .pointer (some ⟨hb, 2, none⟩), true), (11, .int .u64 h.kind, true), (10, .int .i64 h.kind, false), (9, .pointer (some ⟨hb, 1, none⟩), true), (8, .int .u64 h.pages, true), (7, .int .i64 h.pages, false), (6, .pointer (some ⟨hb, 0, none⟩), true), (0, .pointer (some ⟨sb, 0, none⟩), true)] [5, 4, 3, 17, 16, 15, 14, 11, 10, 9, 8, 7, 6, 2, 1, 0] (fun b14 b22 b23 b28 b29 => [(15, .slice (some ⟨b14, 0, none⟩) magicB.length magicB.length), (14, .slice (some ⟨b14, 0, none⟩) magicB.length magicB.length), (13, .int .u64 (page * 4096)), (27, .int .u64 h.next), (26, .pointer (some ⟨hb, 3, none⟩)), (25, .int .u64 h.owner), (24, .pointer (some ⟨hb, 2, none⟩)), (21, .int .u64 h.kind), (20, .int .i64 h.kind), (19, .pointer (some ⟨hb, 1, none⟩)), (18, .int .u64 h.pages), (17, .int .i64 h.pages), (16, .pointer (some ⟨hb, 0, none⟩)), (12, .int .i64 page), (11, .pointer (some ⟨sb, 0, none⟩)), (10, .pointer (some ⟨sb, 0, none⟩)), (9, .bool !true), (8, .bool true), (7, .agg #[.int .i64 h.pages, .int .i64 h.kind, .int .u64 h.owner, .int .u64 h.next]), (6, .int .i64 0), (5, .pointer (some ⟨hb, 0, none⟩)), (0, .pointer (some ⟨sb, 0, none⟩)), (1, .int .i64 page), (2, .agg #[.int .i64 h.pages, .int .i64 h.kind, .int .u64 h.owner, .int .u64 h.next])]) (fun b14 b22 b23 b28 b29 => Frz b14 magicB :: Spc sb P m :: pt hb (.cells [.int .i64 h.pages, .int .i64 h.kind, .int .u64 h.owner, .int .u64 h.next].toArray 133 (0, 0)) :: F) ?_ (fun s3_4_5 => ?_)
  · intro b14 b22 b23 b28 b29
    refine XD_two (h := ?_) (h' := ?_)
    · refine XDa_dvA (dv_lit (E' := eI .u64) [h.pages, h.kind]) (hk := ?_)
      rintro _ _ ⟨b22, rfl, rfl⟩
      refine ⟨by (repeat (first | exact keeps_nil | exact keeps_fnil | refine keeps_skip (h := ?_) | refine keeps_takeQ (h := ?_))), ?_⟩
      exact XD_perm2 (s3_4_5_12 b14 b22 b23 b28 b29)
    · refine XDa_dvA (dv_lit (E' := eI .u64) [h.owner, h.next]) (hk := ?_)
      rintro _ _ ⟨b28, rfl, rfl⟩
      refine ⟨by (repeat (first | exact keeps_nil | exact keeps_fnil | refine keeps_skip (h := ?_) | refine keeps_takeQ (h := ?_))), ?_⟩
      exact XD_perm2 (s3_4_5_18 b14 b22 b23 b28 b29)
  refine XD_cut5 [(17, .int .u64 h.next, false), (16, .pointer (some ⟨hb, 3, none⟩), true), (15, .int .u64 h.owner, false), (14, .pointer (some ⟨hb, 2, none⟩), true), (0, .pointer (some ⟨sb, 0, none⟩), true)] [12, 4, 3, 17, 16, 15, 14, 11, 10, 9, 8, 7, 6, 2, 1, 0] (fun b14 b22 b23 b28 b29 => [(22, .slice (some ⟨b22, 0, none⟩) [h.pages, h.kind].length [h.pages, h.kind].length), (14, .slice (some ⟨b14, 0, none⟩) magicB.length magicB.length), (13, .int .u64 (page * 4096)), (27, .int .u64 h.next), (26, .pointer (some ⟨hb, 3, none⟩)), (25, .int .u64 h.owner), (24, .pointer (some ⟨hb, 2, none⟩)), (21, .int .u64 h.kind), (20, .int .i64 h.kind), (19, .pointer (some ⟨hb, 1, none⟩)), (18, .int .u64 h.pages), (17, .int .i64 h.pages), (16, .pointer (some ⟨hb, 0, none⟩)), (12, .int .i64 page), (11, .pointer (some ⟨sb, 0, none⟩)), (10, .pointer (some ⟨sb, 0, none⟩)), (9, .bool !true), (8, .bool true), (7, .agg #[.int .i64 h.pages, .int .i64 h.kind, .int .u64 h.owner, .int .u64 h.next]), (6, .int .i64 0), (5, .pointer (some ⟨hb, 0, none⟩)), (0, .pointer (some ⟨sb, 0, none⟩)), (1, .int .i64 page), (2, .agg #[.int .i64 h.pages, .int .i64 h.kind, .int .u64 h.owner, .int .u64 h.next])]) (fun b14 b22 b23 b28 b29 => Sl (eI .u64) (some ⟨b22, 0, none⟩) [h.pages, h.kind].length [h.pages, h.kind] :: Sl (eI .u8) (some ⟨b14, 0, none⟩) magicB.length magicB :: Spc sb P m :: pt hb (.cells [.int .i64 h.pages, .int .i64 h.kind, .int .u64 h.owner, .int .u64 h.next].toArray 133 (0, 0)) :: F) ?_ (fun s3_4_12 => ?_)
  · intro b14 b22 b23 b28 b29
    refine XD_three (h := ?_) (h' := ?_) (h2 := ?_)
    · refine XDa_dvA (dv_convSl) (hk := ?_)
      rintro _ _ ⟨rfl, rfl⟩
      refine ⟨by (repeat (first | exact keeps_nil | exact keeps_fnil | refine keeps_skip (h := ?_) | refine keeps_takeQ (h := ?_))), ?_⟩
      exact XD_perm2 (s3_4_5_12 b14 b22 b23 b28 b29)
    · refine XDa_dvA (dv_call (wbytes_spec _ _ _ [h.pages, h.kind] 4 (by omega) (by simp) Sl.view)) (hk := ?_)
      rintro _ _ ⟨_, ⟨b23, rfl, rfl⟩, rfl⟩
      refine ⟨by (repeat (first | exact keeps_nil | exact keeps_fnil | refine keeps_skip (h := ?_) | refine keeps_takeQ (h := ?_))), ?_⟩
      exact XD_perm2 (s3_4_12_13 b14 b22 b23 b28 b29)
    · refine XDa_dvA (dv_lit (E' := eI .u64) [h.owner, h.next]) (hk := ?_)
      rintro _ _ ⟨b28, rfl, rfl⟩
      refine ⟨by (repeat (first | exact keeps_nil | exact keeps_fnil | refine keeps_skip (h := ?_) | refine keeps_takeQ (h := ?_))), ?_⟩
      exact XD_perm2 (s3_4_12_18 b14 b22 b23 b28 b29)
  refine XD_cut5 [(11, .int .u64 h.kind, true), (10, .int .i64 h.kind, false), (9, .pointer (some ⟨hb, 1, none⟩), true), (8, .int .u64 h.pages, true), (7, .int .i64 h.pages, false), (6, .pointer (some ⟨hb, 0, none⟩), true), (0, .pointer (some ⟨sb, 0, none⟩), true)] [18, 4, 3, 17, 16, 15, 14, 11, 10, 9, 8, 7, 6, 2, 1, 0] (fun b14 b22 b23 b28 b29 => [(28, .slice (some ⟨b28, 0, none⟩) [h.owner, h.next].length [h.owner, h.next].length), (14, .slice (some ⟨b14, 0, none⟩) magicB.length magicB.length), (13, .int .u64 (page * 4096)), (27, .int .u64 h.next), (26, .pointer (some ⟨hb, 3, none⟩)), (25, .int .u64 h.owner), (24, .pointer (some ⟨hb, 2, none⟩)), (21, .int .u64 h.kind), (20, .int .i64 h.kind), (19, .pointer (some ⟨hb, 1, none⟩)), (18, .int .u64 h.pages), (17, .int .i64 h.pages), (16, .pointer (some ⟨hb, 0, none⟩)), (12, .int .i64 page), (11, .pointer (some ⟨sb, 0, none⟩)), (10, .pointer (some ⟨sb, 0, none⟩)), (9, .bool !true), (8, .bool true), (7, .agg #[.int .i64 h.pages, .int .i64 h.kind, .int .u64 h.owner, .int .u64 h.next]), (6, .int .i64 0), (5, .pointer (some ⟨hb, 0, none⟩)), (0, .pointer (some ⟨sb, 0, none⟩)), (1, .int .i64 page), (2, .agg #[.int .i64 h.pages, .int .i64 h.kind, .int .u64 h.owner, .int .u64 h.next])]) (fun b14 b22 b23 b28 b29 => Sl (eI .u64) (some ⟨b28, 0, none⟩) [h.owner, h.next].length [h.owner, h.next] :: Sl (eI .u8) (some ⟨b14, 0, none⟩) magicB.length magicB :: Spc sb P m :: pt hb (.cells [.int .i64 h.pages, .int .i64 h.kind, .int .u64 h.owner, .int .u64 h.next].toArray 133 (0, 0)) :: F) ?_ (fun s3_4_18 => ?_)
  · intro b14 b22 b23 b28 b29
    refine XD_two (h := ?_) (h' := ?_)
    · refine XDa_dvA (dv_convSl) (hk := ?_)
      rintro _ _ ⟨rfl, rfl⟩
      refine ⟨by (repeat (first | exact keeps_nil | exact keeps_fnil | refine keeps_skip (h := ?_) | refine keeps_takeQ (h := ?_))), ?_⟩
      exact XD_perm2 (s3_4_5_18 b14 b22 b23 b28 b29)
    · refine XDa_dvA (dv_lit (E' := eI .u64) [h.pages, h.kind]) (hk := ?_)
      rintro _ _ ⟨b22, rfl, rfl⟩
      refine ⟨by (repeat (first | exact keeps_nil | exact keeps_fnil | refine keeps_skip (h := ?_) | refine keeps_takeQ (h := ?_))), ?_⟩
      exact XD_perm2 (s3_4_12_18 b14 b22 b23 b28 b29)
  refine XD_cut5 [(17, .int .u64 h.next, false), (16, .pointer (some ⟨hb, 3, none⟩), true), (15, .int .u64 h.owner, false), (14, .pointer (some ⟨hb, 2, none⟩), true), (0, .pointer (some ⟨sb, 0, none⟩), true)] [13, 12, 3, 17, 16, 15, 14, 11, 10, 9, 8, 7, 6, 2, 1, 0] (fun b14 b22 b23 b28 b29 => [(23, .slice (some ⟨b23, 0, none⟩) (bsOf (4 : Int).toNat [h.pages, h.kind]).length (bsOf (4 : Int).toNat [h.pages, h.kind]).length), (22, .slice (some ⟨b22, 0, none⟩) [h.pages, h.kind].length [h.pages, h.kind].length), (13, .int .u64 (page * 4096)), (27, .int .u64 h.next), (26, .pointer (some ⟨hb, 3, none⟩)), (25, .int .u64 h.owner), (24, .pointer (some ⟨hb, 2, none⟩)), (21, .int .u64 h.kind), (20, .int .i64 h.kind), (19, .pointer (some ⟨hb, 1, none⟩)), (18, .int .u64 h.pages), (17, .int .i64 h.pages), (16, .pointer (some ⟨hb, 0, none⟩)), (12, .int .i64 page), (11, .pointer (some ⟨sb, 0, none⟩)), (10, .pointer (some ⟨sb, 0, none⟩)), (9, .bool !true), (8, .bool true), (7, .agg #[.int .i64 h.pages, .int .i64 h.kind, .int .u64 h.owner, .int .u64 h.next]), (6, .int .i64 0), (5, .pointer (some ⟨hb, 0, none⟩)), (0, .pointer (some ⟨sb, 0, none⟩)), (1, .int .i64 page), (2, .agg #[.int .i64 h.pages, .int .i64 h.kind, .int .u64 h.owner, .int .u64 h.next])]) (fun b14 b22 b23 b28 b29 => Sl (eI .u8) (some ⟨b23, 0, none⟩) (bsOf (4 : Int).toNat [h.pages, h.kind]).length (bsOf (4 : Int).toNat [h.pages, h.kind]) :: Sl (eI .u64) (some ⟨b22, 0, none⟩) [h.pages, h.kind].length [h.pages, h.kind] :: Spc sb P m :: pt hb (.cells [.int .i64 h.pages, .int .i64 h.kind, .int .u64 h.owner, .int .u64 h.next].toArray 133 (0, 0)) :: F) ?_ (fun s3_12_13 => ?_)
  · intro b14 b22 b23 b28 b29
    refine XD_two (h := ?_) (h' := ?_)
    · refine XDa_dvA (dv_lit (E' := eI .u8) magicB) (hk := ?_)
      rintro _ _ ⟨b14, rfl, rfl⟩
      refine ⟨by (repeat (first | exact keeps_nil | exact keeps_fnil | refine keeps_skip (h := ?_) | refine keeps_takeQ (h := ?_))), ?_⟩
      exact XD_perm2 (s3_4_12_13 b14 b22 b23 b28 b29)
    · refine XDa_dvA (dv_lit (E' := eI .u64) [h.owner, h.next]) (hk := ?_)
      rintro _ _ ⟨b28, rfl, rfl⟩
      refine ⟨by (repeat (first | exact keeps_nil | exact keeps_fnil | refine keeps_skip (h := ?_) | refine keeps_takeQ (h := ?_))), ?_⟩
      exact XD_perm2 (s3_12_13_18 b14 b22 b23 b28 b29)
  refine XD_cut5 [(0, .pointer (some ⟨sb, 0, none⟩), true)] [18, 12, 3, 17, 16, 15, 14, 11, 10, 9, 8, 7, 6, 2, 1, 0] (fun b14 b22 b23 b28 b29 => [(28, .slice (some ⟨b28, 0, none⟩) [h.owner, h.next].length [h.owner, h.next].length), (22, .slice (some ⟨b22, 0, none⟩) [h.pages, h.kind].length [h.pages, h.kind].length), (13, .int .u64 (page * 4096)), (27, .int .u64 h.next), (26, .pointer (some ⟨hb, 3, none⟩)), (25, .int .u64 h.owner), (24, .pointer (some ⟨hb, 2, none⟩)), (21, .int .u64 h.kind), (20, .int .i64 h.kind), (19, .pointer (some ⟨hb, 1, none⟩)), (18, .int .u64 h.pages), (17, .int .i64 h.pages), (16, .pointer (some ⟨hb, 0, none⟩)), (12, .int .i64 page), (11, .pointer (some ⟨sb, 0, none⟩)), (10, .pointer (some ⟨sb, 0, none⟩)), (9, .bool !true), (8, .bool true), (7, .agg #[.int .i64 h.pages, .int .i64 h.kind, .int .u64 h.owner, .int .u64 h.next]), (6, .int .i64 0), (5, .pointer (some ⟨hb, 0, none⟩)), (0, .pointer (some ⟨sb, 0, none⟩)), (1, .int .i64 page), (2, .agg #[.int .i64 h.pages, .int .i64 h.kind, .int .u64 h.owner, .int .u64 h.next])]) (fun b14 b22 b23 b28 b29 => Sl (eI .u64) (some ⟨b28, 0, none⟩) [h.owner, h.next].length [h.owner, h.next] :: Sl (eI .u64) (some ⟨b22, 0, none⟩) [h.pages, h.kind].length [h.pages, h.kind] :: Spc sb P m :: pt hb (.cells [.int .i64 h.pages, .int .i64 h.kind, .int .u64 h.owner, .int .u64 h.next].toArray 133 (0, 0)) :: F) ?_ (fun s3_12_18 => ?_)
  · intro b14 b22 b23 b28 b29
    refine XD_two (h := ?_) (h' := ?_)
    · refine XDa_dvA (dv_lit (E' := eI .u8) magicB) (hk := ?_)
      rintro _ _ ⟨b14, rfl, rfl⟩
      refine ⟨by (repeat (first | exact keeps_nil | exact keeps_fnil | refine keeps_skip (h := ?_) | refine keeps_takeQ (h := ?_))), ?_⟩
      exact XD_perm2 (s3_4_12_18 b14 b22 b23 b28 b29)
    · refine XDa_dvA (dv_call (wbytes_spec _ _ _ [h.pages, h.kind] 4 (by omega) (by simp) Sl.view)) (hk := ?_)
      rintro _ _ ⟨_, ⟨b23, rfl, rfl⟩, rfl⟩
      refine ⟨by (repeat (first | exact keeps_nil | exact keeps_fnil | refine keeps_skip (h := ?_) | refine keeps_takeQ (h := ?_))), ?_⟩
      exact XD_perm2 (s3_12_13_18 b14 b22 b23 b28 b29)
  refine XD_cut5 [(17, .int .u64 h.next, false), (16, .pointer (some ⟨hb, 3, none⟩), true), (15, .int .u64 h.owner, false), (14, .pointer (some ⟨hb, 2, none⟩), true), (2, .int .i64 page, true), (1, .pointer (some ⟨sb, 0, none⟩), true), (0, .pointer (some ⟨sb, 0, none⟩), true)] [12, 5, 4, 17, 16, 15, 14, 11, 10, 9, 8, 7, 6, 2, 1, 0] (fun b14 b22 b23 b28 b29 => [(22, .slice (some ⟨b22, 0, none⟩) [h.pages, h.kind].length [h.pages, h.kind].length), (15, .slice (some ⟨b14, 0, none⟩) magicB.length magicB.length), (14, .slice (some ⟨b14, 0, none⟩) magicB.length magicB.length), (27, .int .u64 h.next), (26, .pointer (some ⟨hb, 3, none⟩)), (25, .int .u64 h.owner), (24, .pointer (some ⟨hb, 2, none⟩)), (21, .int .u64 h.kind), (20, .int .i64 h.kind), (19, .pointer (some ⟨hb, 1, none⟩)), (18, .int .u64 h.pages), (17, .int .i64 h.pages), (16, .pointer (some ⟨hb, 0, none⟩)), (12, .int .i64 page), (11, .pointer (some ⟨sb, 0, none⟩)), (10, .pointer (some ⟨sb, 0, none⟩)), (9, .bool !true), (8, .bool true), (7, .agg #[.int .i64 h.pages, .int .i64 h.kind, .int .u64 h.owner, .int .u64 h.next]), (6, .int .i64 0), (5, .pointer (some ⟨hb, 0, none⟩)), (0, .pointer (some ⟨sb, 0, none⟩)), (1, .int .i64 page), (2, .agg #[.int .i64 h.pages, .int .i64 h.kind, .int .u64 h.owner, .int .u64 h.next])]) (fun b14 b22 b23 b28 b29 => Sl (eI .u64) (some ⟨b22, 0, none⟩) [h.pages, h.kind].length [h.pages, h.kind] :: Frz b14 magicB :: Spc sb P m :: pt hb (.cells [.int .i64 h.pages, .int .i64 h.kind, .int .u64 h.owner, .int .u64 h.next].toArray 133 (0, 0)) :: F) ?_ (fun s4_5_12 => ?_)
  · intro b14 b22 b23 b28 b29
    refine XD_two (h := ?_) (h' := ?_)
    · refine XDa_dvA (dv_call hat) (hk := ?_)
      rintro _ _ ⟨_, ⟨rfl, rfl⟩, rfl⟩
      refine ⟨by (repeat (first | exact keeps_nil | exact keeps_fnil | refine keeps_skip (h := ?_) | refine keeps_takeQ (h := ?_))), ?_⟩
      exact XD_perm2 (s3_4_5_12 b14 b22 b23 b28 b29)
    · refine XDa_dvA (dv_lit (E' := eI .u64) [h.owner, h.next]) (hk := ?_)
      rintro _ _ ⟨b28, rfl, rfl⟩
      refine ⟨by (repeat (first | exact keeps_nil | exact keeps_fnil | refine keeps_skip (h := ?_) | refine keeps_takeQ (h := ?_))), ?_⟩
      exact XD_perm2 (s4_5_12_18 b14 b22 b23 b28 b29)
  refine XD_cut5 [(11, .int .u64 h.kind, true), (10, .int .i64 h.kind, false), (9, .pointer (some ⟨hb, 1, none⟩), true), (8, .int .u64 h.pages, true), (7, .int .i64 h.pages, false), (6, .pointer (some ⟨hb, 0, none⟩), true), (2, .int .i64 page, true), (1, .pointer (some ⟨sb, 0, none⟩), true), (0, .pointer (some ⟨sb, 0, none⟩), true)] [18, 5, 4, 17, 16, 15, 14, 11, 10, 9, 8, 7, 6, 2, 1, 0] (fun b14 b22 b23 b28 b29 => [(28, .slice (some ⟨b28, 0, none⟩) [h.owner, h.next].length [h.owner, h.next].length), (15, .slice (some ⟨b14, 0, none⟩) magicB.length magicB.length), (14, .slice (some ⟨b14, 0, none⟩) magicB.length magicB.length), (27, .int .u64 h.next), (26, .pointer (some ⟨hb, 3, none⟩)), (25, .int .u64 h.owner), (24, .pointer (some ⟨hb, 2, none⟩)), (21, .int .u64 h.kind), (20, .int .i64 h.kind), (19, .pointer (some ⟨hb, 1, none⟩)), (18, .int .u64 h.pages), (17, .int .i64 h.pages), (16, .pointer (some ⟨hb, 0, none⟩)), (12, .int .i64 page), (11, .pointer (some ⟨sb, 0, none⟩)), (10, .pointer (some ⟨sb, 0, none⟩)), (9, .bool !true), (8, .bool true), (7, .agg #[.int .i64 h.pages, .int .i64 h.kind, .int .u64 h.owner, .int .u64 h.next]), (6, .int .i64 0), (5, .pointer (some ⟨hb, 0, none⟩)), (0, .pointer (some ⟨sb, 0, none⟩)), (1, .int .i64 page), (2, .agg #[.int .i64 h.pages, .int .i64 h.kind, .int .u64 h.owner, .int .u64 h.next])]) (fun b14 b22 b23 b28 b29 => Sl (eI .u64) (some ⟨b28, 0, none⟩) [h.owner, h.next].length [h.owner, h.next] :: Frz b14 magicB :: Spc sb P m :: pt hb (.cells [.int .i64 h.pages, .int .i64 h.kind, .int .u64 h.owner, .int .u64 h.next].toArray 133 (0, 0)) :: F) ?_ (fun s4_5_18 => ?_)
  · intro b14 b22 b23 b28 b29
    refine XD_two (h := ?_) (h' := ?_)
    · refine XDa_dvA (dv_call hat) (hk := ?_)
      rintro _ _ ⟨_, ⟨rfl, rfl⟩, rfl⟩
      refine ⟨by (repeat (first | exact keeps_nil | exact keeps_fnil | refine keeps_skip (h := ?_) | refine keeps_takeQ (h := ?_))), ?_⟩
      exact XD_perm2 (s3_4_5_18 b14 b22 b23 b28 b29)
    · refine XDa_dvA (dv_lit (E' := eI .u64) [h.pages, h.kind]) (hk := ?_)
      rintro _ _ ⟨b22, rfl, rfl⟩
      refine ⟨by (repeat (first | exact keeps_nil | exact keeps_fnil | refine keeps_skip (h := ?_) | refine keeps_takeQ (h := ?_))), ?_⟩
      exact XD_perm2 (s4_5_12_18 b14 b22 b23 b28 b29)
  refine XD_cut5 [(2, .int .i64 page, true), (1, .pointer (some ⟨sb, 0, none⟩), true), (0, .pointer (some ⟨sb, 0, none⟩), true)] [18, 12, 4, 17, 16, 15, 14, 11, 10, 9, 8, 7, 6, 2, 1, 0] (fun b14 b22 b23 b28 b29 => [(28, .slice (some ⟨b28, 0, none⟩) [h.owner, h.next].length [h.owner, h.next].length), (22, .slice (some ⟨b22, 0, none⟩) [h.pages, h.kind].length [h.pages, h.kind].length), (14, .slice (some ⟨b14, 0, none⟩) magicB.length magicB.length), (27, .int .u64 h.next), (26, .pointer (some ⟨hb, 3, none⟩)), (25, .int .u64 h.owner), (24, .pointer (some ⟨hb, 2, none⟩)), (21, .int .u64 h.kind), (20, .int .i64 h.kind), (19, .pointer (some ⟨hb, 1, none⟩)), (18, .int .u64 h.pages), (17, .int .i64 h.pages), (16, .pointer (some ⟨hb, 0, none⟩)), (12, .int .i64 page), (11, .pointer (some ⟨sb, 0, none⟩)), (10, .pointer (some ⟨sb, 0, none⟩)), (9, .bool !true), (8, .bool true), (7, .agg #[.int .i64 h.pages, .int .i64 h.kind, .int .u64 h.owner, .int .u64 h.next]), (6, .int .i64 0), (5, .pointer (some ⟨hb, 0, none⟩)), (0, .pointer (some ⟨sb, 0, none⟩)), (1, .int .i64 page), (2, .agg #[.int .i64 h.pages, .int .i64 h.kind, .int .u64 h.owner, .int .u64 h.next])]) (fun b14 b22 b23 b28 b29 => Sl (eI .u64) (some ⟨b28, 0, none⟩) [h.owner, h.next].length [h.owner, h.next] :: Sl (eI .u64) (some ⟨b22, 0, none⟩) [h.pages, h.kind].length [h.pages, h.kind] :: Sl (eI .u8) (some ⟨b14, 0, none⟩) magicB.length magicB :: Spc sb P m :: pt hb (.cells [.int .i64 h.pages, .int .i64 h.kind, .int .u64 h.owner, .int .u64 h.next].toArray 133 (0, 0)) :: F) ?_ (fun s4_12_18 => ?_)
  · intro b14 b22 b23 b28 b29
    refine XD_two (h := ?_) (h' := ?_)
    · refine XDa_dvA (dv_call hat) (hk := ?_)
      rintro _ _ ⟨_, ⟨rfl, rfl⟩, rfl⟩
      refine ⟨by (repeat (first | exact keeps_nil | exact keeps_fnil | refine keeps_skip (h := ?_) | refine keeps_takeQ (h := ?_))), ?_⟩
      exact XD_perm2 (s3_4_12_18 b14 b22 b23 b28 b29)
    · refine XDa_dvA (dv_convSl) (hk := ?_)
      rintro _ _ ⟨rfl, rfl⟩
      refine ⟨by (repeat (first | exact keeps_nil | exact keeps_fnil | refine keeps_skip (h := ?_) | refine keeps_takeQ (h := ?_))), ?_⟩
      exact XD_perm2 (s4_5_12_18 b14 b22 b23 b28 b29)
  refine XD_cut5 [(17, .int .u64 h.next, false), (16, .pointer (some ⟨hb, 3, none⟩), true), (15, .int .u64 h.owner, false), (14, .pointer (some ⟨hb, 2, none⟩), true), (11, .int .u64 h.kind, true), (10, .int .i64 h.kind, false), (9, .pointer (some ⟨hb, 1, none⟩), true), (8, .int .u64 h.pages, true), (7, .int .i64 h.pages, false), (6, .pointer (some ⟨hb, 0, none⟩), true), (0, .pointer (some ⟨sb, 0, none⟩), true)] [4, 3, 17, 16, 15, 14, 11, 10, 9, 8, 7, 6, 2, 1, 0] (fun b14 b22 b23 b28 b29 => [(14, .slice (some ⟨b14, 0, none⟩) magicB.length magicB.length), (13, .int .u64 (page * 4096)), (27, .int .u64 h.next), (26, .pointer (some ⟨hb, 3, none⟩)), (25, .int .u64 h.owner), (24, .pointer (some ⟨hb, 2, none⟩)), (21, .int .u64 h.kind), (20, .int .i64 h.kind), (19, .pointer (some ⟨hb, 1, none⟩)), (18, .int .u64 h.pages), (17, .int .i64 h.pages), (16, .pointer (some ⟨hb, 0, none⟩)), (12, .int .i64 page), (11, .pointer (some ⟨sb, 0, none⟩)), (10, .pointer (some ⟨sb, 0, none⟩)), (9, .bool !true), (8, .bool true), (7, .agg #[.int .i64 h.pages, .int .i64 h.kind, .int .u64 h.owner, .int .u64 h.next]), (6, .int .i64 0), (5, .pointer (some ⟨hb, 0, none⟩)), (0, .pointer (some ⟨sb, 0, none⟩)), (1, .int .i64 page), (2, .agg #[.int .i64 h.pages, .int .i64 h.kind, .int .u64 h.owner, .int .u64 h.next])]) (fun b14 b22 b23 b28 b29 => Sl (eI .u8) (some ⟨b14, 0, none⟩) magicB.length magicB :: Spc sb P m :: pt hb (.cells [.int .i64 h.pages, .int .i64 h.kind, .int .u64 h.owner, .int .u64 h.next].toArray 133 (0, 0)) :: F) ?_ (fun s3_4 => ?_)
  · intro b14 b22 b23 b28 b29
    refine XD_three (h := ?_) (h' := ?_) (h2 := ?_)
    · refine XDa_dvA (dv_convSl) (hk := ?_)
      rintro _ _ ⟨rfl, rfl⟩
      refine ⟨by (repeat (first | exact keeps_nil | exact keeps_fnil | refine keeps_skip (h := ?_) | refine keeps_takeQ (h := ?_))), ?_⟩
      exact XD_perm2 (s3_4_5 b14 b22 b23 b28 b29)
    · refine XDa_dvA (dv_lit (E' := eI .u64) [h.pages, h.kind]) (hk := ?_)
      rintro _ _ ⟨b22, rfl, rfl⟩
      refine ⟨by (repeat (first | exact keeps_nil | exact keeps_fnil | refine keeps_skip (h := ?_) | refine keeps_takeQ (h := ?_))), ?_⟩
      exact XD_perm2 (s3_4_12 b14 b22 b23 b28 b29)
    · refine XDa_dvA (dv_lit (E' := eI .u64) [h.owner, h.next]) (hk := ?_)
      rintro _ _ ⟨b28, rfl, rfl⟩
      refine ⟨by (repeat (first | exact keeps_nil | exact keeps_fnil | refine keeps_skip (h := ?_) | refine keeps_takeQ (h := ?_))), ?_⟩
      exact XD_perm2 (s3_4_18 b14 b22 b23 b28 b29)
  refine XD_cut5 [(17, .int .u64 h.next, false), (16, .pointer (some ⟨hb, 3, none⟩), true), (15, .int .u64 h.owner, false), (14, .pointer (some ⟨hb, 2, none⟩), true), (0, .pointer (some ⟨sb, 0, none⟩), true)] [12, 3, 17, 16, 15, 14, 11, 10, 9, 8, 7, 6, 2, 1, 0] (fun b14 b22 b23 b28 b29 => [(22, .slice (some ⟨b22, 0, none⟩) [h.pages, h.kind].length [h.pages, h.kind].length), (13, .int .u64 (page * 4096)), (27, .int .u64 h.next), (26, .pointer (some ⟨hb, 3, none⟩)), (25, .int .u64 h.owner), (24, .pointer (some ⟨hb, 2, none⟩)), (21, .int .u64 h.kind), (20, .int .i64 h.kind), (19, .pointer (some ⟨hb, 1, none⟩)), (18, .int .u64 h.pages), (17, .int .i64 h.pages), (16, .pointer (some ⟨hb, 0, none⟩)), (12, .int .i64 page), (11, .pointer (some ⟨sb, 0, none⟩)), (10, .pointer (some ⟨sb, 0, none⟩)), (9, .bool !true), (8, .bool true), (7, .agg #[.int .i64 h.pages, .int .i64 h.kind, .int .u64 h.owner, .int .u64 h.next]), (6, .int .i64 0), (5, .pointer (some ⟨hb, 0, none⟩)), (0, .pointer (some ⟨sb, 0, none⟩)), (1, .int .i64 page), (2, .agg #[.int .i64 h.pages, .int .i64 h.kind, .int .u64 h.owner, .int .u64 h.next])]) (fun b14 b22 b23 b28 b29 => Sl (eI .u64) (some ⟨b22, 0, none⟩) [h.pages, h.kind].length [h.pages, h.kind] :: Spc sb P m :: pt hb (.cells [.int .i64 h.pages, .int .i64 h.kind, .int .u64 h.owner, .int .u64 h.next].toArray 133 (0, 0)) :: F) ?_ (fun s3_12 => ?_)
  · intro b14 b22 b23 b28 b29
    refine XD_three (h := ?_) (h' := ?_) (h2 := ?_)
    · refine XDa_dvA (dv_lit (E' := eI .u8) magicB) (hk := ?_)
      rintro _ _ ⟨b14, rfl, rfl⟩
      refine ⟨by (repeat (first | exact keeps_nil | exact keeps_fnil | refine keeps_skip (h := ?_) | refine keeps_takeQ (h := ?_))), ?_⟩
      exact XD_perm2 (s3_4_12 b14 b22 b23 b28 b29)
    · refine XDa_dvA (dv_call (wbytes_spec _ _ _ [h.pages, h.kind] 4 (by omega) (by simp) Sl.view)) (hk := ?_)
      rintro _ _ ⟨_, ⟨b23, rfl, rfl⟩, rfl⟩
      refine ⟨by (repeat (first | exact keeps_nil | exact keeps_fnil | refine keeps_skip (h := ?_) | refine keeps_takeQ (h := ?_))), ?_⟩
      exact XD_perm2 (s3_12_13 b14 b22 b23 b28 b29)
    · refine XDa_dvA (dv_lit (E' := eI .u64) [h.owner, h.next]) (hk := ?_)
      rintro _ _ ⟨b28, rfl, rfl⟩
      refine ⟨by (repeat (first | exact keeps_nil | exact keeps_fnil | refine keeps_skip (h := ?_) | refine keeps_takeQ (h := ?_))), ?_⟩
      exact XD_perm2 (s3_12_18 b14 b22 b23 b28 b29)
  refine XD_cut5 [(11, .int .u64 h.kind, true), (10, .int .i64 h.kind, false), (9, .pointer (some ⟨hb, 1, none⟩), true), (8, .int .u64 h.pages, true), (7, .int .i64 h.pages, false), (6, .pointer (some ⟨hb, 0, none⟩), true), (0, .pointer (some ⟨sb, 0, none⟩), true)] [18, 3, 17, 16, 15, 14, 11, 10, 9, 8, 7, 6, 2, 1, 0] (fun b14 b22 b23 b28 b29 => [(28, .slice (some ⟨b28, 0, none⟩) [h.owner, h.next].length [h.owner, h.next].length), (13, .int .u64 (page * 4096)), (27, .int .u64 h.next), (26, .pointer (some ⟨hb, 3, none⟩)), (25, .int .u64 h.owner), (24, .pointer (some ⟨hb, 2, none⟩)), (21, .int .u64 h.kind), (20, .int .i64 h.kind), (19, .pointer (some ⟨hb, 1, none⟩)), (18, .int .u64 h.pages), (17, .int .i64 h.pages), (16, .pointer (some ⟨hb, 0, none⟩)), (12, .int .i64 page), (11, .pointer (some ⟨sb, 0, none⟩)), (10, .pointer (some ⟨sb, 0, none⟩)), (9, .bool !true), (8, .bool true), (7, .agg #[.int .i64 h.pages, .int .i64 h.kind, .int .u64 h.owner, .int .u64 h.next]), (6, .int .i64 0), (5, .pointer (some ⟨hb, 0, none⟩)), (0, .pointer (some ⟨sb, 0, none⟩)), (1, .int .i64 page), (2, .agg #[.int .i64 h.pages, .int .i64 h.kind, .int .u64 h.owner, .int .u64 h.next])]) (fun b14 b22 b23 b28 b29 => Sl (eI .u64) (some ⟨b28, 0, none⟩) [h.owner, h.next].length [h.owner, h.next] :: Spc sb P m :: pt hb (.cells [.int .i64 h.pages, .int .i64 h.kind, .int .u64 h.owner, .int .u64 h.next].toArray 133 (0, 0)) :: F) ?_ (fun s3_18 => ?_)
  · intro b14 b22 b23 b28 b29
    refine XD_two (h := ?_) (h' := ?_)
    · refine XDa_dvA (dv_lit (E' := eI .u8) magicB) (hk := ?_)
      rintro _ _ ⟨b14, rfl, rfl⟩
      refine ⟨by (repeat (first | exact keeps_nil | exact keeps_fnil | refine keeps_skip (h := ?_) | refine keeps_takeQ (h := ?_))), ?_⟩
      exact XD_perm2 (s3_4_18 b14 b22 b23 b28 b29)
    · refine XDa_dvA (dv_lit (E' := eI .u64) [h.pages, h.kind]) (hk := ?_)
      rintro _ _ ⟨b22, rfl, rfl⟩
      refine ⟨by (repeat (first | exact keeps_nil | exact keeps_fnil | refine keeps_skip (h := ?_) | refine keeps_takeQ (h := ?_))), ?_⟩
      exact XD_perm2 (s3_12_18 b14 b22 b23 b28 b29)
  refine XD_cut5 [(17, .int .u64 h.next, false), (16, .pointer (some ⟨hb, 3, none⟩), true), (15, .int .u64 h.owner, false), (14, .pointer (some ⟨hb, 2, none⟩), true), (11, .int .u64 h.kind, true), (10, .int .i64 h.kind, false), (9, .pointer (some ⟨hb, 1, none⟩), true), (8, .int .u64 h.pages, true), (7, .int .i64 h.pages, false), (6, .pointer (some ⟨hb, 0, none⟩), true), (2, .int .i64 page, true), (1, .pointer (some ⟨sb, 0, none⟩), true), (0, .pointer (some ⟨sb, 0, none⟩), true)] [5, 4, 17, 16, 15, 14, 11, 10, 9, 8, 7, 6, 2, 1, 0] (fun b14 b22 b23 b28 b29 => [(15, .slice (some ⟨b14, 0, none⟩) magicB.length magicB.length), (14, .slice (some ⟨b14, 0, none⟩) magicB.length magicB.length), (27, .int .u64 h.next), (26, .pointer (some ⟨hb, 3, none⟩)), (25, .int .u64 h.owner), (24, .pointer (some ⟨hb, 2, none⟩)), (21, .int .u64 h.kind), (20, .int .i64 h.kind), (19, .pointer (some ⟨hb, 1, none⟩)), (18, .int .u64 h.pages), (17, .int .i64 h.pages), (16, .pointer (some ⟨hb, 0, none⟩)), (12, .int .i64 page), (11, .pointer (some ⟨sb, 0, none⟩)), (10, .pointer (some ⟨sb, 0, none⟩)), (9, .bool !true), (8, .bool true), (7, .agg #[.int .i64 h.pages, .int .i64 h.kind, .int .u64 h.owner, .int .u64 h.next]), (6, .int .i64 0), (5, .pointer (some ⟨hb, 0, none⟩)), (0, .pointer (some ⟨sb, 0, none⟩)), (1, .int .i64 page), (2, .agg #[.int .i64 h.pages, .int .i64 h.kind, .int .u64 h.owner, .int .u64 h.next])]) (fun b14 b22 b23 b28 b29 => Frz b14 magicB :: Spc sb P m :: pt hb (.cells [.int .i64 h.pages, .int .i64 h.kind, .int .u64 h.owner, .int .u64 h.next].toArray 133 (0, 0)) :: F) ?_ (fun s4_5 => ?_)
  · intro b14 b22 b23 b28 b29
    refine XD_three (h := ?_) (h' := ?_) (h2 := ?_)
    · refine XDa_dvA (dv_call hat) (hk := ?_)
      rintro _ _ ⟨_, ⟨rfl, rfl⟩, rfl⟩
      refine ⟨by (repeat (first | exact keeps_nil | exact keeps_fnil | refine keeps_skip (h := ?_) | refine keeps_takeQ (h := ?_))), ?_⟩
      exact XD_perm2 (s3_4_5 b14 b22 b23 b28 b29)
    · refine XDa_dvA (dv_lit (E' := eI .u64) [h.pages, h.kind]) (hk := ?_)
      rintro _ _ ⟨b22, rfl, rfl⟩
      refine ⟨by (repeat (first | exact keeps_nil | exact keeps_fnil | refine keeps_skip (h := ?_) | refine keeps_takeQ (h := ?_))), ?_⟩
      exact XD_perm2 (s4_5_12 b14 b22 b23 b28 b29)
    · refine XDa_dvA (dv_lit (E' := eI .u64) [h.owner, h.next]) (hk := ?_)
      rintro _ _ ⟨b28, rfl, rfl⟩
      refine ⟨by (repeat (first | exact keeps_nil | exact keeps_fnil | refine keeps_skip (h := ?_) | refine keeps_takeQ (h := ?_))), ?_⟩
      exact XD_perm2 (s4_5_18 b14 b22 b23 b28 b29)
  refine XD_cut5 [(17, .int .u64 h.next, false), (16, .pointer (some ⟨hb, 3, none⟩), true), (15, .int .u64 h.owner, false), (14, .pointer (some ⟨hb, 2, none⟩), true), (2, .int .i64 page, true), (1, .pointer (some ⟨sb, 0, none⟩), true), (0, .pointer (some ⟨sb, 0, none⟩), true)] [12, 4, 17, 16, 15, 14, 11, 10, 9, 8, 7, 6, 2, 1, 0] (fun b14 b22 b23 b28 b29 => [(22, .slice (some ⟨b22, 0, none⟩) [h.pages, h.kind].length [h.pages, h.kind].length), (14, .slice (some ⟨b14, 0, none⟩) magicB.length magicB.length), (27, .int .u64 h.next), (26, .pointer (some ⟨hb, 3, none⟩)), (25, .int .u64 h.owner), (24, .pointer (some ⟨hb, 2, none⟩)), (21, .int .u64 h.kind), (20, .int .i64 h.kind), (19, .pointer (some ⟨hb, 1, none⟩)), (18, .int .u64 h.pages), (17, .int .i64 h.pages), (16, .pointer (some ⟨hb, 0, none⟩)), (12, .int .i64 page), (11, .pointer (some ⟨sb, 0, none⟩)), (10, .pointer (some ⟨sb, 0, none⟩)), (9, .bool !true), (8, .bool true), (7, .agg #[.int .i64 h.pages, .int .i64 h.kind, .int .u64 h.owner, .int .u64 h.next]), (6, .int .i64 0), (5, .pointer (some ⟨hb, 0, none⟩)), (0, .pointer (some ⟨sb, 0, none⟩)), (1, .int .i64 page), (2, .agg #[.int .i64 h.pages, .int .i64 h.kind, .int .u64 h.owner, .int .u64 h.next])]) (fun b14 b22 b23 b28 b29 => Sl (eI .u64) (some ⟨b22, 0, none⟩) [h.pages, h.kind].length [h.pages, h.kind] :: Sl (eI .u8) (some ⟨b14, 0, none⟩) magicB.length magicB :: Spc sb P m :: pt hb (.cells [.int .i64 h.pages, .int .i64 h.kind, .int .u64 h.owner, .int .u64 h.next].toArray 133 (0, 0)) :: F) ?_ (fun s4_12 => ?_)
  · intro b14 b22 b23 b28 b29
    refine XD_three (h := ?_) (h' := ?_) (h2 := ?_)
    · refine XDa_dvA (dv_call hat) (hk := ?_)
      rintro _ _ ⟨_, ⟨rfl, rfl⟩, rfl⟩
      refine ⟨by (repeat (first | exact keeps_nil | exact keeps_fnil | refine keeps_skip (h := ?_) | refine keeps_takeQ (h := ?_))), ?_⟩
      exact XD_perm2 (s3_4_12 b14 b22 b23 b28 b29)
    · refine XDa_dvA (dv_convSl) (hk := ?_)
      rintro _ _ ⟨rfl, rfl⟩
      refine ⟨by (repeat (first | exact keeps_nil | exact keeps_fnil | refine keeps_skip (h := ?_) | refine keeps_takeQ (h := ?_))), ?_⟩
      exact XD_perm2 (s4_5_12 b14 b22 b23 b28 b29)
    · refine XDa_dvA (dv_lit (E' := eI .u64) [h.owner, h.next]) (hk := ?_)
      rintro _ _ ⟨b28, rfl, rfl⟩
      refine ⟨by (repeat (first | exact keeps_nil | exact keeps_fnil | refine keeps_skip (h := ?_) | refine keeps_takeQ (h := ?_))), ?_⟩
      exact XD_perm2 (s4_12_18 b14 b22 b23 b28 b29)
  refine XD_cut5 [(11, .int .u64 h.kind, true), (10, .int .i64 h.kind, false), (9, .pointer (some ⟨hb, 1, none⟩), true), (8, .int .u64 h.pages, true), (7, .int .i64 h.pages, false), (6, .pointer (some ⟨hb, 0, none⟩), true), (2, .int .i64 page, true), (1, .pointer (some ⟨sb, 0, none⟩), true), (0, .pointer (some ⟨sb, 0, none⟩), true)] [18, 4, 17, 16, 15, 14, 11, 10, 9, 8, 7, 6, 2, 1, 0] (fun b14 b22 b23 b28 b29 => [(28, .slice (some ⟨b28, 0, none⟩) [h.owner, h.next].length [h.owner, h.next].length), (14, .slice (some ⟨b14, 0, none⟩) magicB.length magicB.length), (27, .int .u64 h.next), (26, .pointer (some ⟨hb, 3, none⟩)), (25, .int .u64 h.owner), (24, .pointer (some ⟨hb, 2, none⟩)), (21, .int .u64 h.kind), (20, .int .i64 h.kind), (19, .pointer (some ⟨hb, 1, none⟩)), (18, .int .u64 h.pages), (17, .int .i64 h.pages), (16, .pointer (some ⟨hb, 0, none⟩)), (12, .int .i64 page), (11, .pointer (some ⟨sb, 0, none⟩)), (10, .pointer (some ⟨sb, 0, none⟩)), (9, .bool !true), (8, .bool true), (7, .agg #[.int .i64 h.pages, .int .i64 h.kind, .int .u64 h.owner, .int .u64 h.next]), (6, .int .i64 0), (5, .pointer (some ⟨hb, 0, none⟩)), (0, .pointer (some ⟨sb, 0, none⟩)), (1, .int .i64 page), (2, .agg #[.int .i64 h.pages, .int .i64 h.kind, .int .u64 h.owner, .int .u64 h.next])]) (fun b14 b22 b23 b28 b29 => Sl (eI .u64) (some ⟨b28, 0, none⟩) [h.owner, h.next].length [h.owner, h.next] :: Sl (eI .u8) (some ⟨b14, 0, none⟩) magicB.length magicB :: Spc sb P m :: pt hb (.cells [.int .i64 h.pages, .int .i64 h.kind, .int .u64 h.owner, .int .u64 h.next].toArray 133 (0, 0)) :: F) ?_ (fun s4_18 => ?_)
  · intro b14 b22 b23 b28 b29
    refine XD_three (h := ?_) (h' := ?_) (h2 := ?_)
    · refine XDa_dvA (dv_call hat) (hk := ?_)
      rintro _ _ ⟨_, ⟨rfl, rfl⟩, rfl⟩
      refine ⟨by (repeat (first | exact keeps_nil | exact keeps_fnil | refine keeps_skip (h := ?_) | refine keeps_takeQ (h := ?_))), ?_⟩
      exact XD_perm2 (s3_4_18 b14 b22 b23 b28 b29)
    · refine XDa_dvA (dv_convSl) (hk := ?_)
      rintro _ _ ⟨rfl, rfl⟩
      refine ⟨by (repeat (first | exact keeps_nil | exact keeps_fnil | refine keeps_skip (h := ?_) | refine keeps_takeQ (h := ?_))), ?_⟩
      exact XD_perm2 (s4_5_18 b14 b22 b23 b28 b29)
    · refine XDa_dvA (dv_lit (E' := eI .u64) [h.pages, h.kind]) (hk := ?_)
      rintro _ _ ⟨b22, rfl, rfl⟩
      refine ⟨by (repeat (first | exact keeps_nil | exact keeps_fnil | refine keeps_skip (h := ?_) | refine keeps_takeQ (h := ?_))), ?_⟩
      exact XD_perm2 (s4_12_18 b14 b22 b23 b28 b29)
  refine XD_cut5 [(2, .int .i64 page, true), (1, .pointer (some ⟨sb, 0, none⟩), true), (0, .pointer (some ⟨sb, 0, none⟩), true)] [18, 12, 17, 16, 15, 14, 11, 10, 9, 8, 7, 6, 2, 1, 0] (fun b14 b22 b23 b28 b29 => [(28, .slice (some ⟨b28, 0, none⟩) [h.owner, h.next].length [h.owner, h.next].length), (22, .slice (some ⟨b22, 0, none⟩) [h.pages, h.kind].length [h.pages, h.kind].length), (27, .int .u64 h.next), (26, .pointer (some ⟨hb, 3, none⟩)), (25, .int .u64 h.owner), (24, .pointer (some ⟨hb, 2, none⟩)), (21, .int .u64 h.kind), (20, .int .i64 h.kind), (19, .pointer (some ⟨hb, 1, none⟩)), (18, .int .u64 h.pages), (17, .int .i64 h.pages), (16, .pointer (some ⟨hb, 0, none⟩)), (12, .int .i64 page), (11, .pointer (some ⟨sb, 0, none⟩)), (10, .pointer (some ⟨sb, 0, none⟩)), (9, .bool !true), (8, .bool true), (7, .agg #[.int .i64 h.pages, .int .i64 h.kind, .int .u64 h.owner, .int .u64 h.next]), (6, .int .i64 0), (5, .pointer (some ⟨hb, 0, none⟩)), (0, .pointer (some ⟨sb, 0, none⟩)), (1, .int .i64 page), (2, .agg #[.int .i64 h.pages, .int .i64 h.kind, .int .u64 h.owner, .int .u64 h.next])]) (fun b14 b22 b23 b28 b29 => Sl (eI .u64) (some ⟨b28, 0, none⟩) [h.owner, h.next].length [h.owner, h.next] :: Sl (eI .u64) (some ⟨b22, 0, none⟩) [h.pages, h.kind].length [h.pages, h.kind] :: Spc sb P m :: pt hb (.cells [.int .i64 h.pages, .int .i64 h.kind, .int .u64 h.owner, .int .u64 h.next].toArray 133 (0, 0)) :: F) ?_ (fun s12_18 => ?_)
  · intro b14 b22 b23 b28 b29
    refine XD_two (h := ?_) (h' := ?_)
    · refine XDa_dvA (dv_call hat) (hk := ?_)
      rintro _ _ ⟨_, ⟨rfl, rfl⟩, rfl⟩
      refine ⟨by (repeat (first | exact keeps_nil | exact keeps_fnil | refine keeps_skip (h := ?_) | refine keeps_takeQ (h := ?_))), ?_⟩
      exact XD_perm2 (s3_12_18 b14 b22 b23 b28 b29)
    · refine XDa_dvA (dv_lit (E' := eI .u8) magicB) (hk := ?_)
      rintro _ _ ⟨b14, rfl, rfl⟩
      refine ⟨by (repeat (first | exact keeps_nil | exact keeps_fnil | refine keeps_skip (h := ?_) | refine keeps_takeQ (h := ?_))), ?_⟩
      exact XD_perm2 (s4_12_18 b14 b22 b23 b28 b29)
  refine XD_cut5 [(17, .int .u64 h.next, false), (16, .pointer (some ⟨hb, 3, none⟩), true), (15, .int .u64 h.owner, false), (14, .pointer (some ⟨hb, 2, none⟩), true), (11, .int .u64 h.kind, true), (10, .int .i64 h.kind, false), (9, .pointer (some ⟨hb, 1, none⟩), true), (8, .int .u64 h.pages, true), (7, .int .i64 h.pages, false), (6, .pointer (some ⟨hb, 0, none⟩), true), (0, .pointer (some ⟨sb, 0, none⟩), true)] [3, 17, 16, 15, 14, 11, 10, 9, 8, 7, 6, 2, 1, 0] (fun b14 b22 b23 b28 b29 => [(13, .int .u64 (page * 4096)), (27, .int .u64 h.next), (26, .pointer (some ⟨hb, 3, none⟩)), (25, .int .u64 h.owner), (24, .pointer (some ⟨hb, 2, none⟩)), (21, .int .u64 h.kind), (20, .int .i64 h.kind), (19, .pointer (some ⟨hb, 1, none⟩)), (18, .int .u64 h.pages), (17, .int .i64 h.pages), (16, .pointer (some ⟨hb, 0, none⟩)), (12, .int .i64 page), (11, .pointer (some ⟨sb, 0, none⟩)), (10, .pointer (some ⟨sb, 0, none⟩)), (9, .bool !true), (8, .bool true), (7, .agg #[.int .i64 h.pages, .int .i64 h.kind, .int .u64 h.owner, .int .u64 h.next]), (6, .int .i64 0), (5, .pointer (some ⟨hb, 0, none⟩)), (0, .pointer (some ⟨sb, 0, none⟩)), (1, .int .i64 page), (2, .agg #[.int .i64 h.pages, .int .i64 h.kind, .int .u64 h.owner, .int .u64 h.next])]) (fun b14 b22 b23 b28 b29 => Spc sb P m :: pt hb (.cells [.int .i64 h.pages, .int .i64 h.kind, .int .u64 h.owner, .int .u64 h.next].toArray 133 (0, 0)) :: F) ?_ (fun s3 => ?_)
  · intro b14 b22 b23 b28 b29
    refine XD_three (h := ?_) (h' := ?_) (h2 := ?_)
    · refine XDa_dvA (dv_lit (E' := eI .u8) magicB) (hk := ?_)
      rintro _ _ ⟨b14, rfl, rfl⟩
      refine ⟨by (repeat (first | exact keeps_nil | exact keeps_fnil | refine keeps_skip (h := ?_) | refine keeps_takeQ (h := ?_))), ?_⟩
      exact XD_perm2 (s3_4 b14 b22 b23 b28 b29)
    · refine XDa_dvA (dv_lit (E' := eI .u64) [h.pages, h.kind]) (hk := ?_)
      rintro _ _ ⟨b22, rfl, rfl⟩
      refine ⟨by (repeat (first | exact keeps_nil | exact keeps_fnil | refine keeps_skip (h := ?_) | refine keeps_takeQ (h := ?_))), ?_⟩
      exact XD_perm2 (s3_12 b14 b22 b23 b28 b29)
    · refine XDa_dvA (dv_lit (E' := eI .u64) [h.owner, h.next]) (hk := ?_)
      rintro _ _ ⟨b28, rfl, rfl⟩
      refine ⟨by (repeat (first | exact keeps_nil | exact keeps_fnil | refine keeps_skip (h := ?_) | refine keeps_takeQ (h := ?_))), ?_⟩
      exact XD_perm2 (s3_18 b14 b22 b23 b28 b29)
  refine XD_cut5 [(17, .int .u64 h.next, false), (16, .pointer (some ⟨hb, 3, none⟩), true), (15, .int .u64 h.owner, false), (14, .pointer (some ⟨hb, 2, none⟩), true), (11, .int .u64 h.kind, true), (10, .int .i64 h.kind, false), (9, .pointer (some ⟨hb, 1, none⟩), true), (8, .int .u64 h.pages, true), (7, .int .i64 h.pages, false), (6, .pointer (some ⟨hb, 0, none⟩), true), (2, .int .i64 page, true), (1, .pointer (some ⟨sb, 0, none⟩), true), (0, .pointer (some ⟨sb, 0, none⟩), true)] [4, 17, 16, 15, 14, 11, 10, 9, 8, 7, 6, 2, 1, 0] (fun b14 b22 b23 b28 b29 => [(14, .slice (some ⟨b14, 0, none⟩) magicB.length magicB.length), (27, .int .u64 h.next), (26, .pointer (some ⟨hb, 3, none⟩)), (25, .int .u64 h.owner), (24, .pointer (some ⟨hb, 2, none⟩)), (21, .int .u64 h.kind), (20, .int .i64 h.kind), (19, .pointer (some ⟨hb, 1, none⟩)), (18, .int .u64 h.pages), (17, .int .i64 h.pages), (16, .pointer (some ⟨hb, 0, none⟩)), (12, .int .i64 page), (11, .pointer (some ⟨sb, 0, none⟩)), (10, .pointer (some ⟨sb, 0, none⟩)), (9, .bool !true), (8, .bool true), (7, .agg #[.int .i64 h.pages, .int .i64 h.kind, .int .u64 h.owner, .int .u64 h.next]), (6, .int .i64 0), (5, .pointer (some ⟨hb, 0, none⟩)), (0, .pointer (some ⟨sb, 0, none⟩)), (1, .int .i64 page), (2, .agg #[.int .i64 h.pages, .int .i64 h.kind, .int .u64 h.owner, .int .u64 h.next])]) (fun b14 b22 b23 b28 b29 => Sl (eI .u8) (some ⟨b14, 0, none⟩) magicB.length magicB :: Spc sb P m :: pt hb (.cells [.int .i64 h.pages, .int .i64 h.kind, .int .u64 h.owner, .int .u64 h.next].toArray 133 (0, 0)) :: F) ?_ (fun s4 => ?_)
  · intro b14 b22 b23 b28 b29
    refine XD_four (h := ?_) (h' := ?_) (h2 := ?_) (h3 := ?_)
    · refine XDa_dvA (dv_call hat) (hk := ?_)
      rintro _ _ ⟨_, ⟨rfl, rfl⟩, rfl⟩
      refine ⟨by (repeat (first | exact keeps_nil | exact keeps_fnil | refine keeps_skip (h := ?_) | refine keeps_takeQ (h := ?_))), ?_⟩
      exact XD_perm2 (s3_4 b14 b22 b23 b28 b29)
    · refine XDa_dvA (dv_convSl) (hk := ?_)
      rintro _ _ ⟨rfl, rfl⟩
      refine ⟨by (repeat (first | exact keeps_nil | exact keeps_fnil | refine keeps_skip (h := ?_) | refine keeps_takeQ (h := ?_))), ?_⟩
      exact XD_perm2 (s4_5 b14 b22 b23 b28 b29)
    · refine XDa_dvA (dv_lit (E' := eI .u64) [h.pages, h.kind]) (hk := ?_)
      rintro _ _ ⟨b22, rfl, rfl⟩
      refine ⟨by (repeat (first | exact keeps_nil | exact keeps_fnil | refine keeps_skip (h := ?_) | refine keeps_takeQ (h := ?_))), ?_⟩
      exact XD_perm2 (s4_12 b14 b22 b23 b28 b29)
    · refine XDa_dvA (dv_lit (E' := eI .u64) [h.owner, h.next]) (hk := ?_)
      rintro _ _ ⟨b28, rfl, rfl⟩
      refine ⟨by (repeat (first | exact keeps_nil | exact keeps_fnil | refine keeps_skip (h := ?_) | refine keeps_takeQ (h := ?_))), ?_⟩
      exact XD_perm2 (s4_18 b14 b22 b23 b28 b29)
  refine XD_cut5 [(17, .int .u64 h.next, false), (16, .pointer (some ⟨hb, 3, none⟩), true), (15, .int .u64 h.owner, false), (14, .pointer (some ⟨hb, 2, none⟩), true), (2, .int .i64 page, true), (1, .pointer (some ⟨sb, 0, none⟩), true), (0, .pointer (some ⟨sb, 0, none⟩), true)] [12, 17, 16, 15, 14, 11, 10, 9, 8, 7, 6, 2, 1, 0] (fun b14 b22 b23 b28 b29 => [(22, .slice (some ⟨b22, 0, none⟩) [h.pages, h.kind].length [h.pages, h.kind].length), (27, .int .u64 h.next), (26, .pointer (some ⟨hb, 3, none⟩)), (25, .int .u64 h.owner), (24, .pointer (some ⟨hb, 2, none⟩)), (21, .int .u64 h.kind), (20, .int .i64 h.kind), (19, .pointer (some ⟨hb, 1, none⟩)), (18, .int .u64 h.pages), (17, .int .i64 h.pages), (16, .pointer (some ⟨hb, 0, none⟩)), (12, .int .i64 page), (11, .pointer (some ⟨sb, 0, none⟩)), (10, .pointer (some ⟨sb, 0, none⟩)), (9, .bool !true), (8, .bool true), (7, .agg #[.int .i64 h.pages, .int .i64 h.kind, .int .u64 h.owner, .int .u64 h.next]), (6, .int .i64 0), (5, .pointer (some ⟨hb, 0, none⟩)), (0, .pointer (some ⟨sb, 0, none⟩)), (1, .int .i64 page), (2, .agg #[.int .i64 h.pages, .int .i64 h.kind, .int .u64 h.owner, .int .u64 h.next])]) (fun b14 b22 b23 b28 b29 => Sl (eI .u64) (some ⟨b22, 0, none⟩) [h.pages, h.kind].length [h.pages, h.kind] :: Spc sb P m :: pt hb (.cells [.int .i64 h.pages, .int .i64 h.kind, .int .u64 h.owner, .int .u64 h.next].toArray 133 (0, 0)) :: F) ?_ (fun s12 => ?_)
  · intro b14 b22 b23 b28 b29
    refine XD_three (h := ?_) (h' := ?_) (h2 := ?_)
    · refine XDa_dvA (dv_call hat) (hk := ?_)
      rintro _ _ ⟨_, ⟨rfl, rfl⟩, rfl⟩
      refine ⟨by (repeat (first | exact keeps_nil | exact keeps_fnil | refine keeps_skip (h := ?_) | refine keeps_takeQ (h := ?_))), ?_⟩
      exact XD_perm2 (s3_12 b14 b22 b23 b28 b29)
    · refine XDa_dvA (dv_lit (E' := eI .u8) magicB) (hk := ?_)
      rintro _ _ ⟨b14, rfl, rfl⟩
      refine ⟨by (repeat (first | exact keeps_nil | exact keeps_fnil | refine keeps_skip (h := ?_) | refine keeps_takeQ (h := ?_))), ?_⟩
      exact XD_perm2 (s4_12 b14 b22 b23 b28 b29)
    · refine XDa_dvA (dv_lit (E' := eI .u64) [h.owner, h.next]) (hk := ?_)
      rintro _ _ ⟨b28, rfl, rfl⟩
      refine ⟨by (repeat (first | exact keeps_nil | exact keeps_fnil | refine keeps_skip (h := ?_) | refine keeps_takeQ (h := ?_))), ?_⟩
      exact XD_perm2 (s12_18 b14 b22 b23 b28 b29)
  refine XD_cut5 [(11, .int .u64 h.kind, true), (10, .int .i64 h.kind, false), (9, .pointer (some ⟨hb, 1, none⟩), true), (8, .int .u64 h.pages, true), (7, .int .i64 h.pages, false), (6, .pointer (some ⟨hb, 0, none⟩), true), (2, .int .i64 page, true), (1, .pointer (some ⟨sb, 0, none⟩), true), (0, .pointer (some ⟨sb, 0, none⟩), true)] [18, 17, 16, 15, 14, 11, 10, 9, 8, 7, 6, 2, 1, 0] (fun b14 b22 b23 b28 b29 => [(28, .slice (some ⟨b28, 0, none⟩) [h.owner, h.next].length [h.owner, h.next].length), (27, .int .u64 h.next), (26, .pointer (some ⟨hb, 3, none⟩)), (25, .int .u64 h.owner), (24, .pointer (some ⟨hb, 2, none⟩)), (21, .int .u64 h.kind), (20, .int .i64 h.kind), (19, .pointer (some ⟨hb, 1, none⟩)), (18, .int .u64 h.pages), (17, .int .i64 h.pages), (16, .pointer (some ⟨hb, 0, none⟩)), (12, .int .i64 page), (11, .pointer (some ⟨sb, 0, none⟩)), (10, .pointer (some ⟨sb, 0, none⟩)), (9, .bool !true), (8, .bool true), (7, .agg #[.int .i64 h.pages, .int .i64 h.kind, .int .u64 h.owner, .int .u64 h.next]), (6, .int .i64 0), (5, .pointer (some ⟨hb, 0, none⟩)), (0, .pointer (some ⟨sb, 0, none⟩)), (1, .int .i64 page), (2, .agg #[.int .i64 h.pages, .int .i64 h.kind, .int .u64 h.owner, .int .u64 h.next])]) (fun b14 b22 b23 b28 b29 => Sl (eI .u64) (some ⟨b28, 0, none⟩) [h.owner, h.next].length [h.owner, h.next] :: Spc sb P m :: pt hb (.cells [.int .i64 h.pages, .int .i64 h.kind, .int .u64 h.owner, .int .u64 h.next].toArray 133 (0, 0)) :: F) ?_ (fun s18 => ?_)
  · intro b14 b22 b23 b28 b29
    refine XD_three (h := ?_) (h' := ?_) (h2 := ?_)
    · refine XDa_dvA (dv_call hat) (hk := ?_)
      rintro _ _ ⟨_, ⟨rfl, rfl⟩, rfl⟩
      refine ⟨by (repeat (first | exact keeps_nil | exact keeps_fnil | refine keeps_skip (h := ?_) | refine keeps_takeQ (h := ?_))), ?_⟩
      exact XD_perm2 (s3_18 b14 b22 b23 b28 b29)
    · refine XDa_dvA (dv_lit (E' := eI .u8) magicB) (hk := ?_)
      rintro _ _ ⟨b14, rfl, rfl⟩
      refine ⟨by (repeat (first | exact keeps_nil | exact keeps_fnil | refine keeps_skip (h := ?_) | refine keeps_takeQ (h := ?_))), ?_⟩
      exact XD_perm2 (s4_18 b14 b22 b23 b28 b29)
    · refine XDa_dvA (dv_lit (E' := eI .u64) [h.pages, h.kind]) (hk := ?_)
      rintro _ _ ⟨b22, rfl, rfl⟩
      refine ⟨by (repeat (first | exact keeps_nil | exact keeps_fnil | refine keeps_skip (h := ?_) | refine keeps_takeQ (h := ?_))), ?_⟩
      exact XD_perm2 (s12_18 b14 b22 b23 b28 b29)
  have b14 := 0
  have b22 := 0
  have b23 := 0
  have b28 := 0
  have b29 := 0
  refine XD_four (h := ?_) (h' := ?_) (h2 := ?_) (h3 := ?_)
  · refine XDa_dvA (dv_call hat) (hk := ?_)
    rintro _ _ ⟨_, ⟨rfl, rfl⟩, rfl⟩
    refine ⟨by (repeat (first | exact keeps_nil | exact keeps_fnil | refine keeps_skip (h := ?_) | refine keeps_takeQ (h := ?_))), ?_⟩
    exact XD_perm2 (s3 b14 b22 b23 b28 b29)
  · refine XDa_dvA (dv_lit (E' := eI .u8) magicB) (hk := ?_)
    rintro _ _ ⟨b14, rfl, rfl⟩
    refine ⟨by (repeat (first | exact keeps_nil | exact keeps_fnil | refine keeps_skip (h := ?_) | refine keeps_takeQ (h := ?_))), ?_⟩
    exact XD_perm2 (s4 b14 b22 b23 b28 b29)
  · refine XDa_dvA (dv_lit (E' := eI .u64) [h.pages, h.kind]) (hk := ?_)
    rintro _ _ ⟨b22, rfl, rfl⟩
    refine ⟨by (repeat (first | exact keeps_nil | exact keeps_fnil | refine keeps_skip (h := ?_) | refine keeps_takeQ (h := ?_))), ?_⟩
    exact XD_perm2 (s12 b14 b22 b23 b28 b29)
  · refine XDa_dvA (dv_lit (E' := eI .u64) [h.owner, h.next]) (hk := ?_)
    rintro _ _ ⟨b28, rfl, rfl⟩
    refine ⟨by (repeat (first | exact keeps_nil | exact keeps_fnil | refine keeps_skip (h := ?_) | refine keeps_takeQ (h := ?_))), ?_⟩
    exact XD_perm2 (s18 b14 b22 b23 b28 b29)
end Go.Proofs.Ytgoocobeoejoaaa.Sep
namespace Go.Proofs.Ytgoocobeoejoaaa.Sep
open Go.RowKit
set_option linter.unusedSimpArgs false
set_option linter.unusedVariables false
/-! chunks that are got -/
def bad (p k : Int) : Prop := p < 1 ∨ 1048576 < p ∨ k < 0 ∨ 255 < k
instance (p k : Int) : Decidable (bad p k) := by unfold bad; exact inferInstance
def kgetV (s sb : Nat) (C : Co) (m : Mm) (p k o : Int) : Value → List HP → Prop :=
  if bad p k then fun v L => v = .tuple #[.int .i64 0, .int .i64 0, .int .i64 1] ∧ L = [Ck s sb C, Spc sb C.P m]
  else if (getC C (rnd p)).2.2 = 0 then fun v L => v = .tuple #[.int .i64 (getC C (rnd p)).2.1, .int .i64 (rnd p), .int .i64 0] ∧ L = [Ck s sb (getC C (rnd p)).1, Spc sb C.P (stM m ((getC C (rnd p)).2.1 * 4096) (hdB ⟨rnd p, k, o, 0⟩))]
  else fun v L => v = .tuple #[.int .i64 0, .int .i64 0, .int .i64 (getC C (rnd p)).2.2] ∧ L = [Ck s sb (getC C (rnd p)).1, Spc sb C.P m]
set_option maxHeartbeats 8000000
attribute [local irreducible] X XE XO XD XDi XDa PV RV DV pt base Spec Sl Mp Keeps Pg Kc Pgs Spc Ck
theorem kget_spec (s sb : Nat) (C : Co) (m : Mm) (p k o : Int) (h : CoOk C) (hr : ¬ bad p k → (getC C (rnd p)).2.2 = 0 → RunOk C.P ((getC C (rnd p)).2.1, rnd p)) :
    Spec Try.prog 45 [.pointer (some ⟨s, 0, none⟩), .int .i64 p, .int .i64 k, .int .u64 o] [Ck s sb C, Spc sb C.P m] (kgetV s sb C m p k o) := by
  refine Spec.intro (IsEnt.out) Try.func45 rfl Try.ntmps45 (by simp) (fun w0 F => ?_)
  simp only [envOf, List.zipIdx, List.map, List.cons_append, List.nil_append, Nat.zero_add, Nat.reduceAdd]
  by_cases hb : bad p k
  · have hv : kgetV s sb C m p k o = fun v L => v = .tuple #[.int .i64 0, .int .i64 0, .int .i64 1] ∧ L = [Ck s sb C, Spc sb C.P m] := by unfold kgetV; rw [if_pos hb]
    rw [hv]
    unfold bad at hb
    repeat (first | refine Zq ?_ | refine Zs ?_ | refine ZT ?_ | refine ZF ?_ | refine Zc ?_ | refine XO_gU (hk := ?_))
    refine XO_either (hT := fun h1 => ?_) (hF := fun h1 => ?_) <;> simp only [decide_eq_true_eq, decide_eq_false_iff_not] at h1
    · repeat (first | refine Zq ?_ | refine Zs ?_ | refine ZT ?_ | refine ZF ?_ | refine Zc ?_ | refine XO_gU (hk := ?_))
      refine X_cond rfl (fun _ => ?_) (fun h => by cases h)
      repeat (first | refine Zq ?_ | refine Zs ?_ | refine ZT ?_ | refine ZF ?_ | refine Zc ?_ | refine XO_gU (hk := ?_))
      refine XE_ret (.inl rfl) (tells_tmps rfl rfl) ⟨_, ⟨rfl, rfl⟩, by ((try simp only [List.cons_append, List.nil_append]); repeat (first | exact ent_refl | refine ent_take (by repeat (first | exact Find.here | apply Find.there)) ?_ | refine ent_drop ?_))⟩
    · repeat (first | refine Zq ?_ | refine Zs ?_ | refine ZT ?_ | refine ZF ?_ | refine Zc ?_ | refine XO_gU (hk := ?_))
      refine XO_either (hT := fun h2 => ?_) (hF := fun h2 => ?_) <;> simp only [decide_eq_true_eq, decide_eq_false_iff_not] at h2
      · repeat (first | refine Zq ?_ | refine Zs ?_ | refine ZT ?_ | refine ZF ?_ | refine Zc ?_ | refine XO_gU (hk := ?_))
        refine X_cond rfl (fun _ => ?_) (fun h => by cases h)
        repeat (first | refine Zq ?_ | refine Zs ?_ | refine ZT ?_ | refine ZF ?_ | refine Zc ?_ | refine XO_gU (hk := ?_))
        refine XE_ret (.inl rfl) (tells_tmps rfl rfl) ⟨_, ⟨rfl, rfl⟩, by ((try simp only [List.cons_append, List.nil_append]); repeat (first | exact ent_refl | refine ent_take (by repeat (first | exact Find.here | apply Find.there)) ?_ | refine ent_drop ?_))⟩
      · repeat (first | refine Zq ?_ | refine Zs ?_ | refine ZT ?_ | refine ZF ?_ | refine Zc ?_ | refine XO_gU (hk := ?_))
        refine XO_either (hT := fun h3 => ?_) (hF := fun h3 => ?_) <;> simp only [decide_eq_true_eq, decide_eq_false_iff_not] at h3
        · repeat (first | refine Zq ?_ | refine Zs ?_ | refine ZT ?_ | refine ZF ?_ | refine Zc ?_ | refine XO_gU (hk := ?_))
          refine X_cond rfl (fun _ => ?_) (fun h => by cases h)
          repeat (first | refine Zq ?_ | refine Zs ?_ | refine ZT ?_ | refine ZF ?_ | refine Zc ?_ | refine XO_gU (hk := ?_))
          refine XE_ret (.inl rfl) (tells_tmps rfl rfl) ⟨_, ⟨rfl, rfl⟩, by ((try simp only [List.cons_append, List.nil_append]); repeat (first | exact ent_refl | refine ent_take (by repeat (first | exact Find.here | apply Find.there)) ?_ | refine ent_drop ?_))⟩
        · repeat (first | refine Zq ?_ | refine Zs ?_ | refine ZT ?_ | refine ZF ?_ | refine Zc ?_ | refine XO_gU (hk := ?_))
          refine X_cond rfl (fun _ => ?_) (fun h => ?_)
          · repeat (first | refine Zq ?_ | refine Zs ?_ | refine ZT ?_ | refine ZF ?_ | refine Zc ?_ | refine XO_gU (hk := ?_))
            refine XE_ret (.inl rfl) (tells_tmps rfl rfl) ⟨_, ⟨rfl, rfl⟩, by ((try simp only [List.cons_append, List.nil_append]); repeat (first | exact ent_refl | refine ent_take (by repeat (first | exact Find.here | apply Find.there)) ?_ | refine ent_drop ?_))⟩
          · exfalso
            simp only [decide_eq_false_iff_not] at h
            omega
  · have hb' : 1 ≤ p ∧ p ≤ 1048576 ∧ 0 ≤ k ∧ k ≤ 255 := by unfold bad at hb; omega
    obtain ⟨g1, g2, g3, g4⟩ := hb'
    obtain ⟨r1, r2, -, -, -, -⟩ := rnd_ok g1 g2
    repeat (first | refine Zq ?_ | refine Zs ?_ | refine ZT ?_ | refine ZF ?_ | refine Zc ?_ | refine XO_gU (hk := ?_))
    refine XO_known false (hb := decide_eq_false (by omega)) (hk := ?_)
    repeat (first | refine Zq ?_ | refine Zs ?_ | refine ZT ?_ | refine ZF ?_ | refine Zc ?_ | refine XO_gU (hk := ?_))
    refine XO_known false (hb := decide_eq_false (by omega)) (hk := ?_)
    repeat (first | refine Zq ?_ | refine Zs ?_ | refine ZT ?_ | refine ZF ?_ | refine Zc ?_ | refine XO_gU (hk := ?_))
    refine XO_known false (hb := decide_eq_false (by omega)) (hk := ?_)
    repeat (first | refine Zq ?_ | refine Zs ?_ | refine ZT ?_ | refine ZF ?_ | refine Zc ?_ | refine XO_gU (hk := ?_))
    refine X_cond rfl (fun h => absurd h (by simp; omega)) (fun _ => ?_)
    repeat (first | refine Zq ?_ | refine Zs ?_ | refine ZT ?_ | refine ZF ?_ | refine Zc ?_ | refine XO_gU (hk := ?_))
    refine XO_call (kpages_spec s sb C p h g1 g2) (hk := ?_)
    rintro _ _ ⟨rfl, rfl⟩
    repeat (first | refine Zq ?_ | refine Zs ?_ | refine ZT ?_ | refine ZF ?_ | refine Zc ?_ | refine XO_gU (hk := ?_))
    by_cases hz : (getC C (rnd p)).2.2 = 0
    · have hv : kgetV s sb C m p k o = fun v L => v = .tuple #[.int .i64 (getC C (rnd p)).2.1, .int .i64 (rnd p), .int .i64 0] ∧ L = [Ck s sb (getC C (rnd p)).1, Spc sb C.P (stM m ((getC C (rnd p)).2.1 * 4096) (hdB ⟨rnd p, k, o, 0⟩))] := by unfold kgetV; rw [if_neg hb, if_pos hz]
      rw [hv]
      have hrun := hr hb hz
      unfold RunOk at hrun
      simp only at hrun
      rw [hz]
      generalize getC C (rnd p) = G at hrun ⊢
      refine X_cond rfl (fun h => by cases h) (fun _ => ?_)
      refine X_open (A := Ck s sb G.1) (by (repeat (first | exact Find.here | apply Find.there))) Ck.open ?_
      rintro ⟨pb, kb⟩ -
      dsimp only [List.cons_append, List.nil_append]
      repeat (first | refine Zq ?_ | refine Zs ?_ | refine ZT ?_ | refine ZF ?_ | refine Zc ?_ | refine XO_gU (hk := ?_))
      refine XO_pv (pv_buildG [.int .i64 (rnd p), .int .i64 k, .int .u64 o, .int .u64 0]) (hk := ?_)
      repeat (first | refine Zq ?_ | refine Zs ?_ | refine ZT ?_ | refine ZF ?_ | refine Zc ?_ | refine XO_gU (hk := ?_))
      refine XO_call (hwrite_spec sb C.P m G.2.1 ⟨rnd p, k, o, 0⟩ h.p2 ⟨by show 1 ≤ rnd p; omega, r2, g3, by show k < 256; omega⟩ ⟨by omega, by omega⟩) (hk := ?_)
      rintro _ _ ⟨rfl, rfl⟩
      repeat (first | refine Zq ?_ | refine Zs ?_ | refine ZT ?_ | refine ZF ?_ | refine Zc ?_ | refine XO_gU (hk := ?_))
      refine XE_fold (by repeat (first | exact FindAll.nil | exact Find.here | apply Find.there | apply FindAll.cons)) (Ck.fold (C := G.1)) ?_
      refine XE_ret (.inl rfl) (tells_tmps rfl rfl) ⟨_, ⟨rfl, rfl⟩, by ((try simp only [List.cons_append, List.nil_append]); repeat (first | exact ent_refl | refine ent_take (by repeat (first | exact Find.here | apply Find.there)) ?_ | refine ent_drop ?_))⟩
    · have hv : kgetV s sb C m p k o = fun v L => v = .tuple #[.int .i64 0, .int .i64 0, .int .i64 (getC C (rnd p)).2.2] ∧ L = [Ck s sb (getC C (rnd p)).1, Spc sb C.P m] := by unfold kgetV; rw [if_neg hb, if_neg hz]
      rw [hv]
      refine X_cond rfl (fun _ => ?_) (fun h => ?_)
      · repeat (first | refine Zq ?_ | refine Zs ?_ | refine ZT ?_ | refine ZF ?_ | refine Zc ?_ | refine XO_gU (hk := ?_))
        refine XE_ret (.inl rfl) (tells_tmps rfl rfl) ⟨_, ⟨rfl, rfl⟩, by ((try simp only [List.cons_append, List.nil_append]); repeat (first | exact ent_refl | refine ent_take (by repeat (first | exact Find.here | apply Find.there)) ?_ | refine ent_drop ?_))⟩
      · exact absurd (by simpa using h) hz
end Go.Proofs.Ytgoocobeoejoaaa.Sep
namespace Go.Proofs.Ytgoocobeoejoaaa.Sep
open Go.RowKit
set_option linter.unusedSimpArgs false
set_option linter.unusedVariables false
/-! chunks that are got and put, where all that was got is known -/
theorem readI_hdr {P : Int} {m : Int → Int} {page : Int} {h : Hd} (hin : 0 ≤ page ∧ page < P) (hr : rdM m (page * 4096) 32 = hdB h) (hg : HdGood h) : readI P m page = (h, 0) := by
  obtain ⟨g1, g2, g3, g4, g5⟩ := hg
  unfold readI
  rw [if_pos hin, hr, hd_back g1 g2 g3 g4 g5]
theorem get_hr {C : Co} {m : Int → Int} {got : List (Int × Hd)} (h : KInv C m got) (p k o : Int) (ho : 0 ≤ o ∧ o < 18446744073709551616) : ¬ bad p k → (getC C (rnd p)).2.2 = 0 → RunOk C.P ((getC C (rnd p)).2.1, rnd p) := fun hb hz => by
  have hb' : 1 ≤ p ∧ p ≤ 1048576 ∧ 0 ≤ k ∧ k ≤ 255 := by unfold bad at hb; omega
  obtain ⟨g1, g2, g3, g4⟩ := hb'
  obtain ⟨r1, r2, r3, -⟩ := rnd_ok g1 g2
  exact (kget (hd := ⟨rnd p, k, o, 0⟩) h ⟨⟨by show 1 ≤ rnd p; omega, r2, g3, by show k < 256; omega⟩, ho.1, ho.2, Int.le_refl 0, (by decide : (0 : Int) < 18446744073709551616)⟩ r3 hz).2.2
/-- A chunk is got: what is told then. -/
theorem get_inv2 {C : Co} {m : Int → Int} {got : List (Int × Hd)} (h : KInv C m got) {p k o : Int} (ho : 0 ≤ o ∧ o < 18446744073709551616) (hb : ¬ bad p k) (hz : (getC C (rnd p)).2.2 = 0) :
    KInv (getC C (rnd p)).1 (wrM m ((getC C (rnd p)).2.1 * 4096) (hdB ⟨rnd p, k, o, 0⟩)) (got ++ [((getC C (rnd p)).2.1, ⟨rnd p, k, o, 0⟩)]) ∧ (getC C (rnd p)).1.P = C.P := by
  have hb' : 1 ≤ p ∧ p ≤ 1048576 ∧ 0 ≤ k ∧ k ≤ 255 := by unfold bad at hb; omega
  obtain ⟨g1, g2, g3, g4⟩ := hb'
  obtain ⟨r1, r2, r3, -⟩ := rnd_ok g1 g2
  have := kget (hd := ⟨rnd p, k, o, 0⟩) h ⟨⟨by show 1 ≤ rnd p; omega, r2, g3, by show k < 256; omega⟩, ho.1, ho.2, Int.le_refl 0, (by decide : (0 : Int) < 18446744073709551616)⟩ r3 hz
  exact ⟨this.1, this.2.1⟩
/-- A chunk of those that were got is put: it goes. -/
theorem put_ok0 {C : Co} {m : Int → Int} {l1 l2 : List (Int × Hd)} {p : Int} {hd : Hd} (h : KInv C m (l1 ++ (p, hd) :: l2)) : readI C.P m p = (hd, 0) ∧ putCE C (p, hd.pages) = 0 := by
  have hr : RunOk C.P (p, hd.pages) := h.run (p, hd) (by simp)
  have hh := h.hdr (p, hd) (by simp)
  have hr' := hr
  unfold RunOk at hr'
  simp only at hr'
  refine ⟨readI_hdr ⟨hr'.1, by omega⟩ hh.1 hh.2, ?_⟩
  unfold putCE
  split
  · rfl
  · have hd' : ∀ x, cnt x C.fr + ind x (p, hd.pages) ≤ 1 := fun x => by
      have h1 := h.part x
      have h2 := cnt_mem (x := x) (r := (p, hd.pages)) (l := gr (l1 ++ (p, hd) :: l2)) (List.mem_map.2 ⟨(p, hd), by simp, rfl⟩)
      have h3 := part_le1 (x := x) (P := C.P)
      have h4 := cnt_nn x (kall C.ks 7)
      unfold cC at h1
      omega
    have hs := giveI_some h.ci.ok.right hr'.1 hr'.2.1 hr'.2.2 hd'
    unfold giveE
    rw [hs]; rfl
theorem bestU_none {xs : List (Int × Int)} {n : Int} (hn : 0 < n) : ∀ {i : Nat}, bestU xs n i = none → ∀ j, j < i → (xs.getD j (0, 0)).2 < n
  | 0, h, j, hj => by omega
  | i + 1, h, j, hj => by
    simp only [bestU] at h
    split at h
    · cases h
    · rename_i hc
      rw [h] at hc
      rcases Nat.lt_succ_iff_lt_or_eq.1 hj with hj | rfl
      · exact bestU_none hn h j hj
      · by_cases hv : n ≤ (xs.getD j (0, 0)).2
        · exact absurd ⟨hn, hv, rfl⟩ hc
        · omega
theorem take_none {C : Co} {n : Int} (hn : 1 ≤ n) (h : (takeC C n).2.2 = 4) : ∀ r ∈ C.fr, r.2 < n := by
  unfold takeC at h
  rw [if_neg (by omega)] at h
  cases ht : takeI C.fr n with
  | some q => rw [ht] at h; cases h
  | none =>
    unfold takeI at ht
    have hb : bestU C.fr n C.fr.length = none := by
      cases hb : bestU C.fr n C.fr.length with
      | none => rfl
      | some j => rw [hb] at ht; cases ht
    intro r hr
    obtain ⟨j, hj, rfl⟩ := List.getElem_of_mem hr
    have := bestU_none (by omega) hb j hj
    simpa [List.getD, hj] using this
theorem take_code {C : Co} {n : Int} (hn : 1 ≤ n) : (takeC C n).2.2 = 0 ∨ (takeC C n).2.2 = 4 := by
  unfold takeC
  rw [if_neg (by omega)]
  cases takeI C.fr n with
  | none => exact .inr rfl
  | some q => exact .inl rfl
theorem kall0 {C : Co} (h : CoOk C) (h0 : ¬ 0 < trimN C) : kall C.ks 7 = [] := by
  cases hk : kall C.ks 7 with
  | nil => rfl
  | cons r l =>
    exfalso
    unfold trimN at h0
    rw [hk, tot_cons] at h0
    have h1 := kall_bd h (r := r) (by rw [hk]; simp)
    have h2 := tot_le (l := l) (fun q hq => (kall_bd h (r := q) (by rw [hk]; simp [hq])).2.2)
    omega
/-- There is no room just if, trimmed, no run is long enough. -/
theorem get_full {C : Co} {n : Int} (h : CoOk C) (hn : 1 ≤ n) (hz : (getC C n).2.2 ≠ 0) : (getC C n).2.2 = 4 ∧ (getC C n).1 = trimC C ∧ ∀ r ∈ (trimC C).fr, r.2 < n := by
  unfold getC at hz ⊢
  split at hz
  · exact absurd rfl hz
  · rename_i hc
    rw [if_neg hc]
    split at hz
    · rename_i he
      rw [if_pos he]
      split at hz
      · rename_i h3
        rw [if_pos h3]
        rcases take_code (C := trimC C) hn with h4 | h4
        · exact absurd h4 hz
        · exact ⟨h4, (takeC_full h4).1, take_none hn h4⟩
      · rename_i h3
        rw [if_neg h3]
        refine ⟨he, rfl, ?_⟩
        have hf : (trimC C).fr = C.fr := by unfold trimC; rw [kall0 h h3]; rfl
        rw [hf]
        exact take_none hn he
    · rename_i he
      rcases take_code (C := C) hn with h4 | h4
      · exact absurd h4 hz
      · exact absurd h4 he
theorem trim_trim (C : Co) : (trimC (trimC C)).fr = (trimC C).fr := rfl
theorem kget_ok (s sb : Nat) {C : Co} {m : Mm} {got : List (Int × Hd)} {P p k o : Int} (hK : KInv C m.f got) (hP : C.P = P) (ho : 0 ≤ o ∧ o < 18446744073709551616) (hb : ¬ bad p k) (hz : (getC C (rnd p)).2.2 = 0) :
    Spec Try.prog 45 [.pointer (some ⟨s, 0, none⟩), .int .i64 p, .int .i64 k, .int .u64 o] [Ck s sb C, Spc sb P m]
      (fun v L => v = .tuple #[.int .i64 (getC C (rnd p)).2.1, .int .i64 (rnd p), .int .i64 0] ∧ L = [Ck s sb (getC C (rnd p)).1, Spc sb P (stM m ((getC C (rnd p)).2.1 * 4096) (hdB ⟨rnd p, k, o, 0⟩))]) := by
  subst hP
  have h := kget_spec s sb C m p k o hK.ci.ok (get_hr hK p k o ho)
  unfold kgetV at h
  rwa [if_neg hb, if_pos hz] at h
theorem kget_no (s sb : Nat) {C : Co} {m : Mm} {P p k o : Int} (hC : CoOk C) (hP : C.P = P) (hb : ¬ bad p k) (hz : (getC C (rnd p)).2.2 ≠ 0) :
    Spec Try.prog 45 [.pointer (some ⟨s, 0, none⟩), .int .i64 p, .int .i64 k, .int .u64 o] [Ck s sb C, Spc sb P m]
      (fun v L => v = .tuple #[.int .i64 0, .int .i64 0, .int .i64 4] ∧ L = [Ck s sb (trimC C), Spc sb P m]) := by
  subst hP
  have h := kget_spec s sb C m p k o hC (fun _ h => absurd h hz)
  unfold kgetV at h
  have hr : 1 ≤ rnd p := by
    have : 1 ≤ p ∧ p ≤ 1048576 := by unfold bad at hb; omega
    have := (rnd_ok this.1 this.2).1
    omega
  obtain ⟨e1, e2, -⟩ := get_full hC hr hz
  rwa [if_neg hb, if_neg hz, e1, e2] at h
theorem kget_bad (s sb : Nat) {C : Co} {m : Mm} {P p k o : Int} (hC : CoOk C) (hP : C.P = P) (hb : bad p k) :
    Spec Try.prog 45 [.pointer (some ⟨s, 0, none⟩), .int .i64 p, .int .i64 k, .int .u64 o] [Ck s sb C, Spc sb P m]
      (fun v L => v = .tuple #[.int .i64 0, .int .i64 0, .int .i64 1] ∧ L = [Ck s sb C, Spc sb P m]) := by
  subst hP
  have h := kget_spec s sb C m p k o hC (fun h _ => absurd hb h)
  unfold kgetV at h
  rwa [if_pos hb] at h
theorem kput_ok (s sb : Nat) {C : Co} {m : Mm} {l1 l2 : List (Int × Hd)} {P p : Int} {hd : Hd} (hK : KInv C m.f (l1 ++ (p, hd) :: l2)) (hP : C.P = P) :
    Spec Try.prog 67 [.pointer (some ⟨s, 0, none⟩), .int .i64 p] [Ck s sb C, Spc sb P m]
      (fun v L => v = .int .i64 0 ∧ L = [Ck s sb (putC C (p, hd.pages)), Spc sb P (kputM P m p)]) := by
  subst hP
  have h := kput_spec s sb C m p hK.ci.ok
  obtain ⟨e1, e2⟩ := put_ok0 hK
  unfold kputV at h
  rw [e1, if_pos rfl] at h
  dsimp only at h
  rwa [e2] at h
theorem hread_ok (sb : Nat) {C : Co} {m : Mm} {l1 l2 : List (Int × Hd)} {P p : Int} {hd : Hd} (hK : KInv C m.f (l1 ++ (p, hd) :: l2)) (hP : C.P = P) :
    Spec Try.prog 57 [.pointer (some ⟨sb, 0, none⟩), .int .i64 p] [Spc sb P m]
      (fun v L => v = .tuple #[hdV hd, .int .i64 0] ∧ L = [Spc sb P (hrM P m p)]) := by
  subst hP
  have h := hread_spec sb C.P m p (by have := hK.ci.ok.p1; omega) hK.ci.ok.p2
  have hr : RunOk C.P (p, hd.pages) := hK.run (p, hd) (by simp)
  have hh := hK.hdr (p, hd) (by simp)
  unfold RunOk at hr
  simp only at hr
  rwa [readI_hdr ⟨hr.1, by omega⟩ hh.1 hh.2] at h
/-- What is got: as told. -/
theorem kget_inv {C : Co} {m : Mm} {got : List (Int × Hd)} {P p k o : Int} (hK : KInv C m.f got) (hP : C.P = P) (ho : 0 ≤ o ∧ o < 18446744073709551616) (hb : ¬ bad p k) (hz : (getC C (rnd p)).2.2 = 0) :
    KInv (getC C (rnd p)).1 (stM m ((getC C (rnd p)).2.1 * 4096) (hdB ⟨rnd p, k, o, 0⟩)).f (got ++ [((getC C (rnd p)).2.1, ⟨rnd p, k, o, 0⟩)]) ∧ (getC C (rnd p)).1.P = P := by
  subst hP; exact get_inv2 hK ho hb hz
theorem kput_inv {C : Co} {m : Mm} {l1 l2 : List (Int × Hd)} {P p : Int} {hd : Hd} (hK : KInv C m.f (l1 ++ (p, hd) :: l2)) (hP : C.P = P) :
    KInv (putC C (p, hd.pages)) (kputM P m p).f (l1 ++ l2) ∧ (putC C (p, hd.pages)).P = P := by
  subst hP; exact kput hK
theorem kget_full {C : Co} {m : Mm} {got : List (Int × Hd)} {P p k : Int} (hK : KInv C m.f got) (hP : C.P = P) (hb : ¬ bad p k) (hz : (getC C (rnd p)).2.2 ≠ 0) : KInv (trimC C) m.f got ∧ (trimC C).P = P ∧ ∀ r ∈ (trimC C).fr, r.2 < rnd p := by
  have hbb : 1 ≤ p ∧ p ≤ 1048576 := by unfold bad at hb; omega
  obtain ⟨r1, r2, r3, -⟩ := rnd_ok hbb.1 hbb.2
  obtain ⟨f1, f2, f3⟩ := get_full hK.ci.ok (by omega) hz
  obtain ⟨h1, h2⟩ := knot hK (by omega) r3 hz
  rw [f2] at h1 h2
  exact ⟨h1, h2.trans hP, f3⟩
end Go.Proofs.Ytgoocobeoejoaaa.Sep
namespace Go.Proofs.Ytgoocobeoejoaaa.Sep
open Go.RowKit
set_option linter.unusedSimpArgs false
set_option linter.unusedVariables false
/-! chunks that are got of one run that is free, one behind the other -/
theorem take_line {C : Co} {a b w : Int} (hf : C.fr = [(a, b)]) (h1 : 1 ≤ w) (h2 : w < b) : (takeC C w).2 = (a, 0) ∧ (takeC C w).1.fr = [(a + w, b - w)] ∧ (takeC C w).1.ks = C.ks ∧ (takeC C w).1.P = C.P := by
  have hb : bestU [(a, b)] w 1 = some 0 := by
    simp [bestU, less]; omega
  have ht : takeI C.fr w = some (a, [(a + w, b - w)]) := by
    unfold takeI
    rw [hf]
    show (bestU [(a, b)] w 1).map _ = _
    rw [hb]
    simp only [Option.map_some, takeAt, List.getD_cons_zero, List.set_cons_zero]
    rw [if_neg (by omega)]
  unfold takeC
  rw [if_neg (by omega), ht]
  exact ⟨rfl, rfl, rfl, rfl⟩
theorem take_whole {C : Co} {a b : Int} (hf : C.fr = [(a, b)]) (h1 : 1 ≤ b) : (takeC C b).2 = (a, 0) ∧ (takeC C b).1.fr = [] ∧ (takeC C b).1.ks = C.ks ∧ (takeC C b).1.P = C.P := by
  have hb : bestU [(a, b)] b 1 = some 0 := by
    simp [bestU, less]; omega
  have ht : takeI C.fr b = some (a, []) := by
    unfold takeI
    rw [hf]
    show (bestU [(a, b)] b 1).map _ = _
    rw [hb]
    simp [takeAt]
  unfold takeC
  rw [if_neg (by omega), ht]
  exact ⟨rfl, rfl, rfl, rfl⟩
theorem get_line {C : Co} {a b w : Int} (hf : C.fr = [(a, b)]) (hk : C.ks = fun _ => []) (h1 : 1 ≤ w) (h2 : w < b) : (getC C w).2 = (a, 0) ∧ (getC C w).1.fr = [(a + w, b - w)] ∧ (getC C w).1.ks = (fun _ => []) ∧ (getC C w).1.P = C.P := by
  obtain ⟨e1, e2, e3, e4⟩ := take_line hf h1 h2
  unfold getC
  rw [if_neg (by rw [hk]; simp), if_neg (by rw [e1]; simp)]
  exact ⟨e1, e2, e3.trans hk, e4⟩
/-- A chunk of one of the classes is put: it is kept. -/
theorem put_keep {C : Co} {p : Int} {c : Nat} (hc : c < 7) (hp : 0 ≤ p) (hl : (C.ks c).length < 4) (hw : cclass (cpages c) = c) : (putC C (p, cpages c)).ks = upd C.ks c (C.ks c ++ [p]) ∧ (putC C (p, cpages c)).fr = C.fr ∧ (putC C (p, cpages c)).P = C.P := by
  unfold putC
  simp only [hw, Int.toNat_natCast]
  rw [if_pos ⟨trivial, by omega, by omega, hp, hl⟩]
  exact ⟨rfl, rfl, rfl⟩
theorem class_pages : ∀ c : Fin 7, cclass (cpages c.val) = c.val := by decide
theorem kdone0 {C : Co} {m : Int → Int} (h : KInv C m []) (hk : kall C.ks 7 = []) : C.fr = [(0, C.P)] := by
  have h1 := kdone h
  unfold trimC at h1
  rw [hk] at h1
  exact h1
theorem class_big {n : Int} (h : 64 < n) : cclass n = -1 := by
  unfold cclass
  repeat' split
  all_goals omega
theorem put_big {C : Co} {n p : Int} (h : 64 < n) : putC C (p, n) = giveC C (p, n) := by
  unfold putC
  rw [if_neg (fun hc => by rw [show ((p, n) : Int × Int).2 = n from rfl, class_big h] at hc; omega)]
/-- All pages are got at once when none is got. -/
theorem get_all {C : Co} {m : Int → Int} (h : KInv C m []) (hP : 64 < C.P) : (getC C C.P).2 = (0, 0) ∧ (getC C C.P).1.fr = [] ∧ kall (getC C C.P).1.ks 7 = [] := by
  have hd := kdone h
  have hcl : cclass C.P = -1 := by unfold cclass; repeat' split <;> omega
  have ht : ∀ r ∈ C.fr, r.2 ≤ C.P := fun r hr => by have := rf_mem h.ci.ok.right r hr; omega
  unfold getC
  rw [if_neg (by rw [hcl]; simp)]
  by_cases hk : 0 < trimN C
  · have hlt : ∀ r ∈ C.fr, r.2 < C.P := fun r hr => by
      have h1 := h.tot
      have h2 : 0 ≤ totI (C.fr) - r.2 := by
        obtain ⟨l1, l2, e⟩ := List.append_of_mem hr
        have h3 : ∀ l : List (Int × Int), (∀ q ∈ l, 1 ≤ q.2) → 0 ≤ totI l := by
          intro l
          induction l with
          | nil => intro _; exact Int.le_refl _
          | cons q l ih => intro hq; rw [tot_cons]; have := hq q (by simp); have := ih (fun q' h' => hq q' (by simp [h'])); omega
        have h4 := h3 l1 (fun q hq => (rf_mem h.ci.ok.right q (by rw [e]; simp [hq])).2.1)
        have h5 := h3 l2 (fun q hq => (rf_mem h.ci.ok.right q (by rw [e]; simp [hq])).2.1)
        rw [e, tot_append, tot_cons]
        omega
      unfold tC at h1
      unfold trimN at hk
      simp only [gr, List.map_nil, totI, List.sum_nil] at h1
      unfold totI at hk h2
      omega
    have hn : (takeC C C.P).2.2 = 4 := by
      rcases take_code (C := C) (n := C.P) (by omega) with h0 | h4
      · exfalso
        unfold takeC at h0
        rw [if_neg (by omega)] at h0
        cases ht' : takeI C.fr C.P with
        | none => rw [ht'] at h0; cases h0
        | some q =>
          unfold takeI at ht'
          cases hb : bestU C.fr C.P C.fr.length with
          | none => rw [hb] at ht'; cases ht'
          | some j =>
            have h1 := bestU_ge hb
            have h2 := bestU_lt hb
            have h3 := hlt _ (List.getElem_mem h2)
            simp [List.getD, h2] at h1
            omega
      · exact h4
    rw [if_pos hn, if_pos hk]
    have hP' : (trimC C).P = C.P := rfl
    obtain ⟨e1, e2, e3, -⟩ := take_whole (C := trimC C) (a := 0) (b := C.P) hd (by omega)
    exact ⟨e1, e2, by rw [e3]; rfl⟩
  · have hka := kall0 h.ci.ok hk
    have hf : C.fr = [(0, C.P)] := by rw [← hd]; unfold trimC; rw [hka]; rfl
    obtain ⟨e1, e2, e3, -⟩ := take_whole (C := C) (a := 0) (b := C.P) hf (by omega)
    rw [if_neg (by rw [e1]; simp)]
    exact ⟨e1, e2, by rw [e3]; exact hka⟩
/-- Where no page is free, and none is kept, none is got. -/
theorem get_none {C : Co} {w : Int} (hf : C.fr = []) (hk : kall C.ks 7 = []) (hw : 1 ≤ w) (hc : 0 ≤ cclass w → cclass w < 7) : (getC C w).2.2 = 4 ∧ (getC C w).1 = trimC C ∧ (trimC C).fr = [] := by
  have hks : ∀ k, k < 7 → C.ks k = [] := fun k hk7 => by
    have key : ∀ n, kall C.ks n = [] → ∀ k, k < n → C.ks k = [] := by
      intro n
      induction n with
      | zero => intro _ k h; omega
      | succ n ih =>
        intro h k hk'
        have h' : kall C.ks n = [] ∧ (C.ks n).map (fun p => (p, cpages n)) = [] := List.append_eq_nil_iff.1 h
        rcases Nat.lt_succ_iff_lt_or_eq.1 hk' with hlt | rfl
        · exact ih h'.1 k hlt
        · exact List.map_eq_nil_iff.1 h'.2
    exact key 7 hk k hk7
  have ht : takeC C w = (C, 0, 4) := by
    unfold takeC
    rw [if_neg (by omega), hf]
    rfl
  have hn : ¬ 0 < trimN C := by unfold trimN; rw [hk]; decide
  refine ⟨?_, ?_, by unfold trimC; rw [hk]; exact hf⟩
  · unfold getC
    rw [if_neg (fun h => by have := hks (cclass w).toNat (by omega); rw [this] at h; simp at h), ht, if_pos rfl, if_neg hn]
  · unfold getC
    rw [if_neg (fun h => by have := hks (cclass w).toNat (by omega); rw [this] at h; simp at h), ht, if_pos rfl, if_neg hn]
/-- Whatever is asked for: what comes of it. -/
theorem kget_law (s sb : Nat) {C : Co} {m : Mm} {got : List (Int × Hd)} {P : Int} (p k : Int) {o : Int} (hK : KInv C m.f got) (hP : C.P = P) (ho : 0 ≤ o ∧ o < 18446744073709551616) :
    ∃ (C' : Co) (m' : Mm) (pg n e : Int), Spec Try.prog 45 [.pointer (some ⟨s, 0, none⟩), .int .i64 p, .int .i64 k, .int .u64 o] [Ck s sb C, Spc sb P m]
      (fun v L => v = .tuple #[.int .i64 pg, .int .i64 n, .int .i64 e] ∧ L = [Ck s sb C', Spc sb P m']) ∧ C'.P = P ∧
      ((e = 0 ∧ KInv C' m'.f (got ++ [(pg, ⟨n, k, o, 0⟩)]) ∧ p ≤ n) ∨ (e ≠ 0 ∧ KInv C' m'.f got)) := by
  by_cases hb : bad p k
  · exact ⟨C, m, 0, 0, 1, kget_bad s sb hK.ci.ok hP hb, hP, .inr ⟨by decide, hK⟩⟩
  by_cases hz : (getC C (rnd p)).2.2 = 0
  · obtain ⟨h1, h2⟩ := kget_inv hK hP ho hb hz
    have hbb : 1 ≤ p ∧ p ≤ 1048576 := by unfold bad at hb; omega
    exact ⟨_, _, _, _, 0, kget_ok s sb hK hP ho hb hz, h2, .inl ⟨rfl, h1, (rnd_ok hbb.1 hbb.2).1⟩⟩
  · obtain ⟨h1, h2, -⟩ := kget_full hK hP hb hz
    exact ⟨_, m, 0, 0, 4, kget_no s sb hK.ci.ok hP hb hz, h2, .inr ⟨by decide, h1⟩⟩
end Go.Proofs.Ytgoocobeoejoaaa.Sep
