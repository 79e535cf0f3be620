import Derived.Test.YtamecmklcnohjaaGreatBn7
/- What the laws share: a separation logic over the model, and what the program's functions do, by it. Part 8 of 15: HeadF ChunkE KOps KLine PileP. -/
namespace Go.Proofs.YtamecmklcnohjaaGreat.Sep
open Go.RowKit
set_option linter.unusedSimpArgs false
set_option linter.unusedVariables false
set_option maxHeartbeats 8000000
attribute [local irreducible] X XE XO XD XDi XDa PV RV DV pt base Spec Sl Mp Keeps Pgs Spc Frz
theorem hwrite_spec (sb : Nat) (P : Int) (m : Mm) (page : Int) (h : Hd) (h1 : P ≤ 1048576) (hk : HdOk h) (hin : 0 ≤ page ∧ page < P) : Spec Tryz.prog 159 [.pointer (some ⟨sb, 0, none⟩), .int .i64 page, hdV h] [Spc sb P m]
    (fun v L => v = .int .i64 0 ∧ L = [Spc sb P (stM m (page * 4096) (hdB h))]) := by
  refine Spec.intro (IsEnt.out) Tryz.func159 rfl Tryz.ntmps159 (by simp) (fun w0 F => ?_)
  simp only [envOf, List.zipIdx, List.map, List.cons_append, List.nil_append, Nat.zero_add, Nat.reduceAdd]
  have h0 : 0 ≤ P := by omega
  have ha : hatI P page = page * 4096 := by unfold hatI; rw [if_pos hin]
  have hright := hright_spec h
  have hde : decide (HdOk h) = true := decide_eq_true hk
  rw [hde] at hright
  have hat := hat_spec sb P m page h0 h1
  rw [ha] at hat
  have hst : ∀ b31, Spec Tryz.prog 111 [.pointer (some ⟨sb, 0, none⟩), .int .u64 (page * 4096), .slice (some ⟨b31, 0, none⟩) 32 32] [Spc sb P m, Sl (eI .u8) (some ⟨b31, 0, none⟩) 32 (magicB ++ (bsOf (4 : Int).toNat [h.pages, h.kind] ++ bsOf (8 : Int).toNat [h.owner, h.next]))]
      (fun v L => v = .int .i64 0 ∧ L = [Spc sb P (stM m (page * 4096) (hdB h)), Sl (eI .u8) (some ⟨b31, 0, none⟩) 32 (hdB h)]) := fun b31 => by
    have e : magicB ++ (bsOf (4 : Int).toNat [h.pages, h.kind] ++ bsOf (8 : Int).toNat [h.owner, h.next]) = hdB h := by simp [bsOf, hdB]
    rw [e]
    have hB : Byt (hdB h) := by
      intro x hx
      simp only [hdB, List.mem_append] at hx
      rcases hx with hx | (hx | hx) | hx | hx
      · simp [magicB] at hx; omega
      all_goals exact leB_byt _ _ x hx
    have hs := Store_spec (Sl (eI .u8) (some ⟨b31, 0, none⟩) 32 (hdB h)) sb 32 (some ⟨b31, 0, none⟩) P m (page * 4096) (hdB h) Sl.view hB (by rw [hdB_len]; decide) (by rw [hdB_len]; decide) h0 h1 (by omega) (by omega)
    have hf : fitsI P (page * 4096) (hdB h).length 1048576 = 0 := by rw [hdB_len]; unfold fitsI; rw [if_pos (by omega), if_neg (by omega)]
    unfold storeV at hs
    rw [if_pos hf, hdB_len] at hs
    exact hs
  obtain ⟨k1, k2, k3, k4⟩ := hk
  unfold hdV at hright ⊢
  (repeat refine Z ?_)
  refine XO_dv (dv_box (row := [.int .i64 h.pages, .int .i64 h.kind, .int .u64 h.owner, .int .u64 h.next])) (hk := ?_)
  rintro _ _ ⟨hb, rfl, rfl⟩
  (repeat refine Z ?_)
  refine XO_call hright (hk := ?_)
  rintro _ _ ⟨rfl, rfl⟩
  (repeat refine Z ?_)
  refine X_cond rfl (fun h => by cases h) (fun _ => ?_)
  (repeat refine Z ?_)
  (repeat refine ZD ?_)
  refine XD_cut5 [(0, .pointer (some ⟨sb, 0, none⟩), true)] [19, 18, 13, 12, 5, 4, 3, 17, 16, 15, 14, 11, 10, 9, 8, 7, 6, 2, 1, 0] (fun b14 b22 b23 b28 b29 => [(29, .slice (some ⟨b29, 0, none⟩) (bsOf (8 : Int).toNat [h.owner, h.next]).length (bsOf (8 : Int).toNat [h.owner, h.next]).length), (28, .slice (some ⟨b28, 0, none⟩) [h.owner, h.next].length [h.owner, h.next].length), (23, .slice (some ⟨b23, 0, none⟩) (bsOf (4 : Int).toNat [h.pages, h.kind]).length (bsOf (4 : Int).toNat [h.pages, h.kind]).length), (22, .slice (some ⟨b22, 0, none⟩) [h.pages, h.kind].length [h.pages, h.kind].length), (15, .slice (some ⟨b14, 0, none⟩) magicB.length magicB.length), (14, .slice (some ⟨b14, 0, none⟩) magicB.length magicB.length), (13, .int .u64 (page * 4096)), (27, .int .u64 h.next), (26, .pointer (some ⟨hb, 3, none⟩)), (25, .int .u64 h.owner), (24, .pointer (some ⟨hb, 2, none⟩)), (21, .int .u64 h.kind), (20, .int .i64 h.kind), (19, .pointer (some ⟨hb, 1, none⟩)), (18, .int .u64 h.pages), (17, .int .i64 h.pages), (16, .pointer (some ⟨hb, 0, none⟩)), (12, .int .i64 page), (11, .pointer (some ⟨sb, 0, none⟩)), (10, .pointer (some ⟨sb, 0, none⟩)), (9, .bool !true), (8, .bool true), (7, .agg #[.int .i64 h.pages, .int .i64 h.kind, .int .u64 h.owner, .int .u64 h.next]), (6, .int .i64 0), (5, .pointer (some ⟨hb, 0, none⟩)), (0, .pointer (some ⟨sb, 0, none⟩)), (1, .int .i64 page), (2, .agg #[.int .i64 h.pages, .int .i64 h.kind, .int .u64 h.owner, .int .u64 h.next])]) (fun b14 b22 b23 b28 b29 => Sl (eI .u8) (some ⟨b29, 0, none⟩) (bsOf (8 : Int).toNat [h.owner, h.next]).length (bsOf (8 : Int).toNat [h.owner, h.next]) :: Sl (eI .u64) (some ⟨b28, 0, none⟩) [h.owner, h.next].length [h.owner, h.next] :: Sl (eI .u8) (some ⟨b23, 0, none⟩) (bsOf (4 : Int).toNat [h.pages, h.kind]).length (bsOf (4 : Int).toNat [h.pages, h.kind]) :: Sl (eI .u64) (some ⟨b22, 0, none⟩) [h.pages, h.kind].length [h.pages, h.kind] :: Frz b14 magicB :: Spc sb P m :: pt hb (.cells [.int .i64 h.pages, .int .i64 h.kind, .int .u64 h.owner, .int .u64 h.next].toArray 267 (0, 0)) :: F) ?_ (fun s3_4_5_12_13_18_19 => ?_)
  · intro b14 b22 b23 b28 b29
    refine XD_one (h := ?_)
    refine XDa_dvA (dv_lit (E' := eSl) [(some ⟨b14, 0, none⟩, 8, 8), (some ⟨b23, 0, none⟩, 8, 8), (some ⟨b29, 0, none⟩, 16, 16)]) (hk := ?_)
    rintro _ _ ⟨b30, rfl, rfl⟩
    refine ⟨by exact KP, ?_⟩
    refine XD_one (h := ?_)
    refine XDa_dvA (dv_call (join_spec _ (Frz b14 magicB) _ _ (some ⟨b30, 0, none⟩) (some ⟨b14, 0, none⟩) (some ⟨b23, 0, none⟩) (some ⟨b29, 0, none⟩) 3 8 8 16 magicB (bsOf (4 : Int).toNat [h.pages, h.kind]) (bsOf (8 : Int).toNat [h.owner, h.next]) Sl.view Frz.view Sl.view Sl.view rfl rfl rfl)) (hk := ?_)
    rintro _ _ ⟨_, ⟨b31, rfl, rfl⟩, rfl⟩
    refine ⟨by exact KP, ?_⟩
    refine XD_one (h := ?_)
    refine XDa_dvA (dv_call (hst b31)) (hk := ?_)
    rintro _ _ ⟨_, ⟨rfl, rfl⟩, rfl⟩
    refine ⟨by exact KP, ?_⟩
    (repeat refine ZD ?_)
    (refine XD_one (h := ?_); refine XDa_dvA (dv_of_rv (rv_of_pv pv_assign)) (hk := ?_); rintro _ _ ⟨rfl, rfl⟩; refine ⟨by exact KP, ?_⟩)
    (refine XD_end (h := ?_); (repeat refine Z ?_))
    refine XE_ret (.inl rfl) (tells_tmps rfl rfl) ⟨_, ⟨rfl, rfl⟩, by exact EN⟩
  refine XD_cut5 [(0, .pointer (some ⟨sb, 0, none⟩), true)] [18, 13, 12, 5, 4, 3, 17, 16, 15, 14, 11, 10, 9, 8, 7, 6, 2, 1, 0] (fun b14 b22 b23 b28 b29 => [(28, .slice (some ⟨b28, 0, none⟩) [h.owner, h.next].length [h.owner, h.next].length), (23, .slice (some ⟨b23, 0, none⟩) (bsOf (4 : Int).toNat [h.pages, h.kind]).length (bsOf (4 : Int).toNat [h.pages, h.kind]).length), (22, .slice (some ⟨b22, 0, none⟩) [h.pages, h.kind].length [h.pages, h.kind].length), (15, .slice (some ⟨b14, 0, none⟩) magicB.length magicB.length), (14, .slice (some ⟨b14, 0, none⟩) magicB.length magicB.length), (13, .int .u64 (page * 4096)), (27, .int .u64 h.next), (26, .pointer (some ⟨hb, 3, none⟩)), (25, .int .u64 h.owner), (24, .pointer (some ⟨hb, 2, none⟩)), (21, .int .u64 h.kind), (20, .int .i64 h.kind), (19, .pointer (some ⟨hb, 1, none⟩)), (18, .int .u64 h.pages), (17, .int .i64 h.pages), (16, .pointer (some ⟨hb, 0, none⟩)), (12, .int .i64 page), (11, .pointer (some ⟨sb, 0, none⟩)), (10, .pointer (some ⟨sb, 0, none⟩)), (9, .bool !true), (8, .bool true), (7, .agg #[.int .i64 h.pages, .int .i64 h.kind, .int .u64 h.owner, .int .u64 h.next]), (6, .int .i64 0), (5, .pointer (some ⟨hb, 0, none⟩)), (0, .pointer (some ⟨sb, 0, none⟩)), (1, .int .i64 page), (2, .agg #[.int .i64 h.pages, .int .i64 h.kind, .int .u64 h.owner, .int .u64 h.next])]) (fun b14 b22 b23 b28 b29 => Sl (eI .u64) (some ⟨b28, 0, none⟩) [h.owner, h.next].length [h.owner, h.next] :: Sl (eI .u8) (some ⟨b23, 0, none⟩) (bsOf (4 : Int).toNat [h.pages, h.kind]).length (bsOf (4 : Int).toNat [h.pages, h.kind]) :: Sl (eI .u64) (some ⟨b22, 0, none⟩) [h.pages, h.kind].length [h.pages, h.kind] :: Frz b14 magicB :: Spc sb P m :: pt hb (.cells [.int .i64 h.pages, .int .i64 h.kind, .int .u64 h.owner, .int .u64 h.next].toArray 267 (0, 0)) :: F) ?_ (fun s3_4_5_12_13_18 => ?_)
  · intro b14 b22 b23 b28 b29
    refine XD_one (h := ?_)
    · refine XDa_dvA (dv_call (wbytes_spec _ _ _ [h.owner, h.next] 8 (by omega) (by simp) Sl.view)) (hk := ?_)
      rintro _ _ ⟨_, ⟨b29, rfl, rfl⟩, rfl⟩
      refine ⟨by exact KP, ?_⟩
      exact XD_perm2 (s3_4_5_12_13_18_19 b14 b22 b23 b28 b29)
  refine XD_cut5 [(0, .pointer (some ⟨sb, 0, none⟩), true)] [19, 18, 13, 12, 4, 3, 17, 16, 15, 14, 11, 10, 9, 8, 7, 6, 2, 1, 0] (fun b14 b22 b23 b28 b29 => [(29, .slice (some ⟨b29, 0, none⟩) (bsOf (8 : Int).toNat [h.owner, h.next]).length (bsOf (8 : Int).toNat [h.owner, h.next]).length), (28, .slice (some ⟨b28, 0, none⟩) [h.owner, h.next].length [h.owner, h.next].length), (23, .slice (some ⟨b23, 0, none⟩) (bsOf (4 : Int).toNat [h.pages, h.kind]).length (bsOf (4 : Int).toNat [h.pages, h.kind]).length), (22, .slice (some ⟨b22, 0, none⟩) [h.pages, h.kind].length [h.pages, h.kind].length), (14, .slice (some ⟨b14, 0, none⟩) magicB.length magicB.length), (13, .int .u64 (page * 4096)), (27, .int .u64 h.next), (26, .pointer (some ⟨hb, 3, none⟩)), (25, .int .u64 h.owner), (24, .pointer (some ⟨hb, 2, none⟩)), (21, .int .u64 h.kind), (20, .int .i64 h.kind), (19, .pointer (some ⟨hb, 1, none⟩)), (18, .int .u64 h.pages), (17, .int .i64 h.pages), (16, .pointer (some ⟨hb, 0, none⟩)), (12, .int .i64 page), (11, .pointer (some ⟨sb, 0, none⟩)), (10, .pointer (some ⟨sb, 0, none⟩)), (9, .bool !true), (8, .bool true), (7, .agg #[.int .i64 h.pages, .int .i64 h.kind, .int .u64 h.owner, .int .u64 h.next]), (6, .int .i64 0), (5, .pointer (some ⟨hb, 0, none⟩)), (0, .pointer (some ⟨sb, 0, none⟩)), (1, .int .i64 page), (2, .agg #[.int .i64 h.pages, .int .i64 h.kind, .int .u64 h.owner, .int .u64 h.next])]) (fun b14 b22 b23 b28 b29 => Sl (eI .u8) (some ⟨b29, 0, none⟩) (bsOf (8 : Int).toNat [h.owner, h.next]).length (bsOf (8 : Int).toNat [h.owner, h.next]) :: Sl (eI .u64) (some ⟨b28, 0, none⟩) [h.owner, h.next].length [h.owner, h.next] :: Sl (eI .u8) (some ⟨b23, 0, none⟩) (bsOf (4 : Int).toNat [h.pages, h.kind]).length (bsOf (4 : Int).toNat [h.pages, h.kind]) :: Sl (eI .u64) (some ⟨b22, 0, none⟩) [h.pages, h.kind].length [h.pages, h.kind] :: Sl (eI .u8) (some ⟨b14, 0, none⟩) magicB.length magicB :: Spc sb P m :: pt hb (.cells [.int .i64 h.pages, .int .i64 h.kind, .int .u64 h.owner, .int .u64 h.next].toArray 267 (0, 0)) :: F) ?_ (fun s3_4_12_13_18_19 => ?_)
  · intro b14 b22 b23 b28 b29
    refine XD_one (h := ?_)
    · refine XDa_dvA (dv_convSl) (hk := ?_)
      rintro _ _ ⟨rfl, rfl⟩
      refine ⟨by exact KP, ?_⟩
      exact XD_perm2 (s3_4_5_12_13_18_19 b14 b22 b23 b28 b29)
  refine XD_cut5 [(17, .int .u64 h.next, false), (16, .pointer (some ⟨hb, 3, none⟩), true), (15, .int .u64 h.owner, false), (14, .pointer (some ⟨hb, 2, none⟩), true), (0, .pointer (some ⟨sb, 0, none⟩), true)] [13, 12, 5, 4, 3, 17, 16, 15, 14, 11, 10, 9, 8, 7, 6, 2, 1, 0] (fun b14 b22 b23 b28 b29 => [(23, .slice (some ⟨b23, 0, none⟩) (bsOf (4 : Int).toNat [h.pages, h.kind]).length (bsOf (4 : Int).toNat [h.pages, h.kind]).length), (22, .slice (some ⟨b22, 0, none⟩) [h.pages, h.kind].length [h.pages, h.kind].length), (15, .slice (some ⟨b14, 0, none⟩) magicB.length magicB.length), (14, .slice (some ⟨b14, 0, none⟩) magicB.length magicB.length), (13, .int .u64 (page * 4096)), (27, .int .u64 h.next), (26, .pointer (some ⟨hb, 3, none⟩)), (25, .int .u64 h.owner), (24, .pointer (some ⟨hb, 2, none⟩)), (21, .int .u64 h.kind), (20, .int .i64 h.kind), (19, .pointer (some ⟨hb, 1, none⟩)), (18, .int .u64 h.pages), (17, .int .i64 h.pages), (16, .pointer (some ⟨hb, 0, none⟩)), (12, .int .i64 page), (11, .pointer (some ⟨sb, 0, none⟩)), (10, .pointer (some ⟨sb, 0, none⟩)), (9, .bool !true), (8, .bool true), (7, .agg #[.int .i64 h.pages, .int .i64 h.kind, .int .u64 h.owner, .int .u64 h.next]), (6, .int .i64 0), (5, .pointer (some ⟨hb, 0, none⟩)), (0, .pointer (some ⟨sb, 0, none⟩)), (1, .int .i64 page), (2, .agg #[.int .i64 h.pages, .int .i64 h.kind, .int .u64 h.owner, .int .u64 h.next])]) (fun b14 b22 b23 b28 b29 => Sl (eI .u8) (some ⟨b23, 0, none⟩) (bsOf (4 : Int).toNat [h.pages, h.kind]).length (bsOf (4 : Int).toNat [h.pages, h.kind]) :: Sl (eI .u64) (some ⟨b22, 0, none⟩) [h.pages, h.kind].length [h.pages, h.kind] :: Frz b14 magicB :: Spc sb P m :: pt hb (.cells [.int .i64 h.pages, .int .i64 h.kind, .int .u64 h.owner, .int .u64 h.next].toArray 267 (0, 0)) :: F) ?_ (fun s3_4_5_12_13 => ?_)
  · intro b14 b22 b23 b28 b29
    refine XD_one (h := ?_)
    · refine XDa_dvA (dv_lit (E' := eI .u64) [h.owner, h.next]) (hk := ?_)
      rintro _ _ ⟨b28, rfl, rfl⟩
      refine ⟨by exact KP, ?_⟩
      exact XD_perm2 (s3_4_5_12_13_18 b14 b22 b23 b28 b29)
  refine XD_cut5 [(0, .pointer (some ⟨sb, 0, none⟩), true)] [18, 12, 5, 4, 3, 17, 16, 15, 14, 11, 10, 9, 8, 7, 6, 2, 1, 0] (fun b14 b22 b23 b28 b29 => [(28, .slice (some ⟨b28, 0, none⟩) [h.owner, h.next].length [h.owner, h.next].length), (22, .slice (some ⟨b22, 0, none⟩) [h.pages, h.kind].length [h.pages, h.kind].length), (15, .slice (some ⟨b14, 0, none⟩) magicB.length magicB.length), (14, .slice (some ⟨b14, 0, none⟩) magicB.length magicB.length), (13, .int .u64 (page * 4096)), (27, .int .u64 h.next), (26, .pointer (some ⟨hb, 3, none⟩)), (25, .int .u64 h.owner), (24, .pointer (some ⟨hb, 2, none⟩)), (21, .int .u64 h.kind), (20, .int .i64 h.kind), (19, .pointer (some ⟨hb, 1, none⟩)), (18, .int .u64 h.pages), (17, .int .i64 h.pages), (16, .pointer (some ⟨hb, 0, none⟩)), (12, .int .i64 page), (11, .pointer (some ⟨sb, 0, none⟩)), (10, .pointer (some ⟨sb, 0, none⟩)), (9, .bool !true), (8, .bool true), (7, .agg #[.int .i64 h.pages, .int .i64 h.kind, .int .u64 h.owner, .int .u64 h.next]), (6, .int .i64 0), (5, .pointer (some ⟨hb, 0, none⟩)), (0, .pointer (some ⟨sb, 0, none⟩)), (1, .int .i64 page), (2, .agg #[.int .i64 h.pages, .int .i64 h.kind, .int .u64 h.owner, .int .u64 h.next])]) (fun b14 b22 b23 b28 b29 => Sl (eI .u64) (some ⟨b28, 0, none⟩) [h.owner, h.next].length [h.owner, h.next] :: Sl (eI .u64) (some ⟨b22, 0, none⟩) [h.pages, h.kind].length [h.pages, h.kind] :: Frz b14 magicB :: Spc sb P m :: pt hb (.cells [.int .i64 h.pages, .int .i64 h.kind, .int .u64 h.owner, .int .u64 h.next].toArray 267 (0, 0)) :: F) ?_ (fun s3_4_5_12_18 => ?_)
  · intro b14 b22 b23 b28 b29
    refine XD_one (h := ?_)
    · refine XDa_dvA (dv_call (wbytes_spec _ _ _ [h.pages, h.kind] 4 (by omega) (by simp) Sl.view)) (hk := ?_)
      rintro _ _ ⟨_, ⟨b23, rfl, rfl⟩, rfl⟩
      refine ⟨by exact KP, ?_⟩
      exact XD_perm2 (s3_4_5_12_13_18 b14 b22 b23 b28 b29)
  refine XD_cut5 [(0, .pointer (some ⟨sb, 0, none⟩), true)] [18, 13, 12, 4, 3, 17, 16, 15, 14, 11, 10, 9, 8, 7, 6, 2, 1, 0] (fun b14 b22 b23 b28 b29 => [(28, .slice (some ⟨b28, 0, none⟩) [h.owner, h.next].length [h.owner, h.next].length), (23, .slice (some ⟨b23, 0, none⟩) (bsOf (4 : Int).toNat [h.pages, h.kind]).length (bsOf (4 : Int).toNat [h.pages, h.kind]).length), (22, .slice (some ⟨b22, 0, none⟩) [h.pages, h.kind].length [h.pages, h.kind].length), (14, .slice (some ⟨b14, 0, none⟩) magicB.length magicB.length), (13, .int .u64 (page * 4096)), (27, .int .u64 h.next), (26, .pointer (some ⟨hb, 3, none⟩)), (25, .int .u64 h.owner), (24, .pointer (some ⟨hb, 2, none⟩)), (21, .int .u64 h.kind), (20, .int .i64 h.kind), (19, .pointer (some ⟨hb, 1, none⟩)), (18, .int .u64 h.pages), (17, .int .i64 h.pages), (16, .pointer (some ⟨hb, 0, none⟩)), (12, .int .i64 page), (11, .pointer (some ⟨sb, 0, none⟩)), (10, .pointer (some ⟨sb, 0, none⟩)), (9, .bool !true), (8, .bool true), (7, .agg #[.int .i64 h.pages, .int .i64 h.kind, .int .u64 h.owner, .int .u64 h.next]), (6, .int .i64 0), (5, .pointer (some ⟨hb, 0, none⟩)), (0, .pointer (some ⟨sb, 0, none⟩)), (1, .int .i64 page), (2, .agg #[.int .i64 h.pages, .int .i64 h.kind, .int .u64 h.owner, .int .u64 h.next])]) (fun b14 b22 b23 b28 b29 => Sl (eI .u64) (some ⟨b28, 0, none⟩) [h.owner, h.next].length [h.owner, h.next] :: Sl (eI .u8) (some ⟨b23, 0, none⟩) (bsOf (4 : Int).toNat [h.pages, h.kind]).length (bsOf (4 : Int).toNat [h.pages, h.kind]) :: Sl (eI .u64) (some ⟨b22, 0, none⟩) [h.pages, h.kind].length [h.pages, h.kind] :: Sl (eI .u8) (some ⟨b14, 0, none⟩) magicB.length magicB :: Spc sb P m :: pt hb (.cells [.int .i64 h.pages, .int .i64 h.kind, .int .u64 h.owner, .int .u64 h.next].toArray 267 (0, 0)) :: F) ?_ (fun s3_4_12_13_18 => ?_)
  · intro b14 b22 b23 b28 b29
    refine XD_two (h := ?_) (h' := ?_)
    · refine XDa_dvA (dv_convSl) (hk := ?_)
      rintro _ _ ⟨rfl, rfl⟩
      refine ⟨by exact KP, ?_⟩
      exact XD_perm2 (s3_4_5_12_13_18 b14 b22 b23 b28 b29)
    · refine XDa_dvA (dv_call (wbytes_spec _ _ _ [h.owner, h.next] 8 (by omega) (by simp) Sl.view)) (hk := ?_)
      rintro _ _ ⟨_, ⟨b29, rfl, rfl⟩, rfl⟩
      refine ⟨by exact KP, ?_⟩
      exact XD_perm2 (s3_4_12_13_18_19 b14 b22 b23 b28 b29)
  refine XD_cut5 [(0, .pointer (some ⟨sb, 0, none⟩), true)] [19, 18, 13, 12, 3, 17, 16, 15, 14, 11, 10, 9, 8, 7, 6, 2, 1, 0] (fun b14 b22 b23 b28 b29 => [(29, .slice (some ⟨b29, 0, none⟩) (bsOf (8 : Int).toNat [h.owner, h.next]).length (bsOf (8 : Int).toNat [h.owner, h.next]).length), (28, .slice (some ⟨b28, 0, none⟩) [h.owner, h.next].length [h.owner, h.next].length), (23, .slice (some ⟨b23, 0, none⟩) (bsOf (4 : Int).toNat [h.pages, h.kind]).length (bsOf (4 : Int).toNat [h.pages, h.kind]).length), (22, .slice (some ⟨b22, 0, none⟩) [h.pages, h.kind].length [h.pages, h.kind].length), (13, .int .u64 (page * 4096)), (27, .int .u64 h.next), (26, .pointer (some ⟨hb, 3, none⟩)), (25, .int .u64 h.owner), (24, .pointer (some ⟨hb, 2, none⟩)), (21, .int .u64 h.kind), (20, .int .i64 h.kind), (19, .pointer (some ⟨hb, 1, none⟩)), (18, .int .u64 h.pages), (17, .int .i64 h.pages), (16, .pointer (some ⟨hb, 0, none⟩)), (12, .int .i64 page), (11, .pointer (some ⟨sb, 0, none⟩)), (10, .pointer (some ⟨sb, 0, none⟩)), (9, .bool !true), (8, .bool true), (7, .agg #[.int .i64 h.pages, .int .i64 h.kind, .int .u64 h.owner, .int .u64 h.next]), (6, .int .i64 0), (5, .pointer (some ⟨hb, 0, none⟩)), (0, .pointer (some ⟨sb, 0, none⟩)), (1, .int .i64 page), (2, .agg #[.int .i64 h.pages, .int .i64 h.kind, .int .u64 h.owner, .int .u64 h.next])]) (fun b14 b22 b23 b28 b29 => Sl (eI .u8) (some ⟨b29, 0, none⟩) (bsOf (8 : Int).toNat [h.owner, h.next]).length (bsOf (8 : Int).toNat [h.owner, h.next]) :: Sl (eI .u64) (some ⟨b28, 0, none⟩) [h.owner, h.next].length [h.owner, h.next] :: Sl (eI .u8) (some ⟨b23, 0, none⟩) (bsOf (4 : Int).toNat [h.pages, h.kind]).length (bsOf (4 : Int).toNat [h.pages, h.kind]) :: Sl (eI .u64) (some ⟨b22, 0, none⟩) [h.pages, h.kind].length [h.pages, h.kind] :: Spc sb P m :: pt hb (.cells [.int .i64 h.pages, .int .i64 h.kind, .int .u64 h.owner, .int .u64 h.next].toArray 267 (0, 0)) :: F) ?_ (fun s3_12_13_18_19 => ?_)
  · intro b14 b22 b23 b28 b29
    refine XD_one (h := ?_)
    · refine XDa_dvA (dv_lit (E' := eI .u8) magicB) (hk := ?_)
      rintro _ _ ⟨b14, rfl, rfl⟩
      refine ⟨by exact KP, ?_⟩
      exact XD_perm2 (s3_4_12_13_18_19 b14 b22 b23 b28 b29)
  refine XD_cut5 [(17, .int .u64 h.next, false), (16, .pointer (some ⟨hb, 3, none⟩), true), (15, .int .u64 h.owner, false), (14, .pointer (some ⟨hb, 2, none⟩), true), (0, .pointer (some ⟨sb, 0, none⟩), true)] [12, 5, 4, 3, 17, 16, 15, 14, 11, 10, 9, 8, 7, 6, 2, 1, 0] (fun b14 b22 b23 b28 b29 => [(22, .slice (some ⟨b22, 0, none⟩) [h.pages, h.kind].length [h.pages, h.kind].length), (15, .slice (some ⟨b14, 0, none⟩) magicB.length magicB.length), (14, .slice (some ⟨b14, 0, none⟩) magicB.length magicB.length), (13, .int .u64 (page * 4096)), (27, .int .u64 h.next), (26, .pointer (some ⟨hb, 3, none⟩)), (25, .int .u64 h.owner), (24, .pointer (some ⟨hb, 2, none⟩)), (21, .int .u64 h.kind), (20, .int .i64 h.kind), (19, .pointer (some ⟨hb, 1, none⟩)), (18, .int .u64 h.pages), (17, .int .i64 h.pages), (16, .pointer (some ⟨hb, 0, none⟩)), (12, .int .i64 page), (11, .pointer (some ⟨sb, 0, none⟩)), (10, .pointer (some ⟨sb, 0, none⟩)), (9, .bool !true), (8, .bool true), (7, .agg #[.int .i64 h.pages, .int .i64 h.kind, .int .u64 h.owner, .int .u64 h.next]), (6, .int .i64 0), (5, .pointer (some ⟨hb, 0, none⟩)), (0, .pointer (some ⟨sb, 0, none⟩)), (1, .int .i64 page), (2, .agg #[.int .i64 h.pages, .int .i64 h.kind, .int .u64 h.owner, .int .u64 h.next])]) (fun b14 b22 b23 b28 b29 => Sl (eI .u64) (some ⟨b22, 0, none⟩) [h.pages, h.kind].length [h.pages, h.kind] :: Frz b14 magicB :: Spc sb P m :: pt hb (.cells [.int .i64 h.pages, .int .i64 h.kind, .int .u64 h.owner, .int .u64 h.next].toArray 267 (0, 0)) :: F) ?_ (fun s3_4_5_12 => ?_)
  · intro b14 b22 b23 b28 b29
    refine XD_two (h := ?_) (h' := ?_)
    · refine XDa_dvA (dv_call (wbytes_spec _ _ _ [h.pages, h.kind] 4 (by omega) (by simp) Sl.view)) (hk := ?_)
      rintro _ _ ⟨_, ⟨b23, rfl, rfl⟩, rfl⟩
      refine ⟨by exact KP, ?_⟩
      exact XD_perm2 (s3_4_5_12_13 b14 b22 b23 b28 b29)
    · refine XDa_dvA (dv_lit (E' := eI .u64) [h.owner, h.next]) (hk := ?_)
      rintro _ _ ⟨b28, rfl, rfl⟩
      refine ⟨by exact KP, ?_⟩
      exact XD_perm2 (s3_4_5_12_18 b14 b22 b23 b28 b29)
  refine XD_cut5 [(11, .int .u64 h.kind, true), (10, .int .i64 h.kind, false), (9, .pointer (some ⟨hb, 1, none⟩), true), (8, .int .u64 h.pages, true), (7, .int .i64 h.pages, false), (6, .pointer (some ⟨hb, 0, none⟩), true), (0, .pointer (some ⟨sb, 0, none⟩), true)] [18, 5, 4, 3, 17, 16, 15, 14, 11, 10, 9, 8, 7, 6, 2, 1, 0] (fun b14 b22 b23 b28 b29 => [(28, .slice (some ⟨b28, 0, none⟩) [h.owner, h.next].length [h.owner, h.next].length), (15, .slice (some ⟨b14, 0, none⟩) magicB.length magicB.length), (14, .slice (some ⟨b14, 0, none⟩) magicB.length magicB.length), (13, .int .u64 (page * 4096)), (27, .int .u64 h.next), (26, .pointer (some ⟨hb, 3, none⟩)), (25, .int .u64 h.owner), (24, .pointer (some ⟨hb, 2, none⟩)), (21, .int .u64 h.kind), (20, .int .i64 h.kind), (19, .pointer (some ⟨hb, 1, none⟩)), (18, .int .u64 h.pages), (17, .int .i64 h.pages), (16, .pointer (some ⟨hb, 0, none⟩)), (12, .int .i64 page), (11, .pointer (some ⟨sb, 0, none⟩)), (10, .pointer (some ⟨sb, 0, none⟩)), (9, .bool !true), (8, .bool true), (7, .agg #[.int .i64 h.pages, .int .i64 h.kind, .int .u64 h.owner, .int .u64 h.next]), (6, .int .i64 0), (5, .pointer (some ⟨hb, 0, none⟩)), (0, .pointer (some ⟨sb, 0, none⟩)), (1, .int .i64 page), (2, .agg #[.int .i64 h.pages, .int .i64 h.kind, .int .u64 h.owner, .int .u64 h.next])]) (fun b14 b22 b23 b28 b29 => Sl (eI .u64) (some ⟨b28, 0, none⟩) [h.owner, h.next].length [h.owner, h.next] :: Frz b14 magicB :: Spc sb P m :: pt hb (.cells [.int .i64 h.pages, .int .i64 h.kind, .int .u64 h.owner, .int .u64 h.next].toArray 267 (0, 0)) :: F) ?_ (fun s3_4_5_18 => ?_)
  · intro b14 b22 b23 b28 b29
    refine XD_one (h := ?_)
    · refine XDa_dvA (dv_lit (E' := eI .u64) [h.pages, h.kind]) (hk := ?_)
      rintro _ _ ⟨b22, rfl, rfl⟩
      refine ⟨by exact KP, ?_⟩
      exact XD_perm2 (s3_4_5_12_18 b14 b22 b23 b28 b29)
  refine XD_cut5 [(17, .int .u64 h.next, false), (16, .pointer (some ⟨hb, 3, none⟩), true), (15, .int .u64 h.owner, false), (14, .pointer (some ⟨hb, 2, none⟩), true), (0, .pointer (some ⟨sb, 0, none⟩), true)] [13, 12, 4, 3, 17, 16, 15, 14, 11, 10, 9, 8, 7, 6, 2, 1, 0] (fun b14 b22 b23 b28 b29 => [(23, .slice (some ⟨b23, 0, none⟩) (bsOf (4 : Int).toNat [h.pages, h.kind]).length (bsOf (4 : Int).toNat [h.pages, h.kind]).length), (22, .slice (some ⟨b22, 0, none⟩) [h.pages, h.kind].length [h.pages, h.kind].length), (14, .slice (some ⟨b14, 0, none⟩) magicB.length magicB.length), (13, .int .u64 (page * 4096)), (27, .int .u64 h.next), (26, .pointer (some ⟨hb, 3, none⟩)), (25, .int .u64 h.owner), (24, .pointer (some ⟨hb, 2, none⟩)), (21, .int .u64 h.kind), (20, .int .i64 h.kind), (19, .pointer (some ⟨hb, 1, none⟩)), (18, .int .u64 h.pages), (17, .int .i64 h.pages), (16, .pointer (some ⟨hb, 0, none⟩)), (12, .int .i64 page), (11, .pointer (some ⟨sb, 0, none⟩)), (10, .pointer (some ⟨sb, 0, none⟩)), (9, .bool !true), (8, .bool true), (7, .agg #[.int .i64 h.pages, .int .i64 h.kind, .int .u64 h.owner, .int .u64 h.next]), (6, .int .i64 0), (5, .pointer (some ⟨hb, 0, none⟩)), (0, .pointer (some ⟨sb, 0, none⟩)), (1, .int .i64 page), (2, .agg #[.int .i64 h.pages, .int .i64 h.kind, .int .u64 h.owner, .int .u64 h.next])]) (fun b14 b22 b23 b28 b29 => Sl (eI .u8) (some ⟨b23, 0, none⟩) (bsOf (4 : Int).toNat [h.pages, h.kind]).length (bsOf (4 : Int).toNat [h.pages, h.kind]) :: Sl (eI .u64) (some ⟨b22, 0, none⟩) [h.pages, h.kind].length [h.pages, h.kind] :: Sl (eI .u8) (some ⟨b14, 0, none⟩) magicB.length magicB :: Spc sb P m :: pt hb (.cells [.int .i64 h.pages, .int .i64 h.kind, .int .u64 h.owner, .int .u64 h.next].toArray 267 (0, 0)) :: F) ?_ (fun s3_4_12_13 => ?_)
  · intro b14 b22 b23 b28 b29
    refine XD_two (h := ?_) (h' := ?_)
    · refine XDa_dvA (dv_convSl) (hk := ?_)
      rintro _ _ ⟨rfl, rfl⟩
      refine ⟨by exact KP, ?_⟩
      exact XD_perm2 (s3_4_5_12_13 b14 b22 b23 b28 b29)
    · refine XDa_dvA (dv_lit (E' := eI .u64) [h.owner, h.next]) (hk := ?_)
      rintro _ _ ⟨b28, rfl, rfl⟩
      refine ⟨by exact KP, ?_⟩
      exact XD_perm2 (s3_4_12_13_18 b14 b22 b23 b28 b29)
  refine XD_cut5 [(0, .pointer (some ⟨sb, 0, none⟩), true)] [18, 12, 4, 3, 17, 16, 15, 14, 11, 10, 9, 8, 7, 6, 2, 1, 0] (fun b14 b22 b23 b28 b29 => [(28, .slice (some ⟨b28, 0, none⟩) [h.owner, h.next].length [h.owner, h.next].length), (22, .slice (some ⟨b22, 0, none⟩) [h.pages, h.kind].length [h.pages, h.kind].length), (14, .slice (some ⟨b14, 0, none⟩) magicB.length magicB.length), (13, .int .u64 (page * 4096)), (27, .int .u64 h.next), (26, .pointer (some ⟨hb, 3, none⟩)), (25, .int .u64 h.owner), (24, .pointer (some ⟨hb, 2, none⟩)), (21, .int .u64 h.kind), (20, .int .i64 h.kind), (19, .pointer (some ⟨hb, 1, none⟩)), (18, .int .u64 h.pages), (17, .int .i64 h.pages), (16, .pointer (some ⟨hb, 0, none⟩)), (12, .int .i64 page), (11, .pointer (some ⟨sb, 0, none⟩)), (10, .pointer (some ⟨sb, 0, none⟩)), (9, .bool !true), (8, .bool true), (7, .agg #[.int .i64 h.pages, .int .i64 h.kind, .int .u64 h.owner, .int .u64 h.next]), (6, .int .i64 0), (5, .pointer (some ⟨hb, 0, none⟩)), (0, .pointer (some ⟨sb, 0, none⟩)), (1, .int .i64 page), (2, .agg #[.int .i64 h.pages, .int .i64 h.kind, .int .u64 h.owner, .int .u64 h.next])]) (fun b14 b22 b23 b28 b29 => Sl (eI .u64) (some ⟨b28, 0, none⟩) [h.owner, h.next].length [h.owner, h.next] :: Sl (eI .u64) (some ⟨b22, 0, none⟩) [h.pages, h.kind].length [h.pages, h.kind] :: Sl (eI .u8) (some ⟨b14, 0, none⟩) magicB.length magicB :: Spc sb P m :: pt hb (.cells [.int .i64 h.pages, .int .i64 h.kind, .int .u64 h.owner, .int .u64 h.next].toArray 267 (0, 0)) :: F) ?_ (fun s3_4_12_18 => ?_)
  · intro b14 b22 b23 b28 b29
    refine XD_two (h := ?_) (h' := ?_)
    · refine XDa_dvA (dv_convSl) (hk := ?_)
      rintro _ _ ⟨rfl, rfl⟩
      refine ⟨by exact KP, ?_⟩
      exact XD_perm2 (s3_4_5_12_18 b14 b22 b23 b28 b29)
    · refine XDa_dvA (dv_call (wbytes_spec _ _ _ [h.pages, h.kind] 4 (by omega) (by simp) Sl.view)) (hk := ?_)
      rintro _ _ ⟨_, ⟨b23, rfl, rfl⟩, rfl⟩
      refine ⟨by exact KP, ?_⟩
      exact XD_perm2 (s3_4_12_13_18 b14 b22 b23 b28 b29)
  refine XD_cut5 [(0, .pointer (some ⟨sb, 0, none⟩), true)] [18, 13, 12, 3, 17, 16, 15, 14, 11, 10, 9, 8, 7, 6, 2, 1, 0] (fun b14 b22 b23 b28 b29 => [(28, .slice (some ⟨b28, 0, none⟩) [h.owner, h.next].length [h.owner, h.next].length), (23, .slice (some ⟨b23, 0, none⟩) (bsOf (4 : Int).toNat [h.pages, h.kind]).length (bsOf (4 : Int).toNat [h.pages, h.kind]).length), (22, .slice (some ⟨b22, 0, none⟩) [h.pages, h.kind].length [h.pages, h.kind].length), (13, .int .u64 (page * 4096)), (27, .int .u64 h.next), (26, .pointer (some ⟨hb, 3, none⟩)), (25, .int .u64 h.owner), (24, .pointer (some ⟨hb, 2, none⟩)), (21, .int .u64 h.kind), (20, .int .i64 h.kind), (19, .pointer (some ⟨hb, 1, none⟩)), (18, .int .u64 h.pages), (17, .int .i64 h.pages), (16, .pointer (some ⟨hb, 0, none⟩)), (12, .int .i64 page), (11, .pointer (some ⟨sb, 0, none⟩)), (10, .pointer (some ⟨sb, 0, none⟩)), (9, .bool !true), (8, .bool true), (7, .agg #[.int .i64 h.pages, .int .i64 h.kind, .int .u64 h.owner, .int .u64 h.next]), (6, .int .i64 0), (5, .pointer (some ⟨hb, 0, none⟩)), (0, .pointer (some ⟨sb, 0, none⟩)), (1, .int .i64 page), (2, .agg #[.int .i64 h.pages, .int .i64 h.kind, .int .u64 h.owner, .int .u64 h.next])]) (fun b14 b22 b23 b28 b29 => Sl (eI .u64) (some ⟨b28, 0, none⟩) [h.owner, h.next].length [h.owner, h.next] :: Sl (eI .u8) (some ⟨b23, 0, none⟩) (bsOf (4 : Int).toNat [h.pages, h.kind]).length (bsOf (4 : Int).toNat [h.pages, h.kind]) :: Sl (eI .u64) (some ⟨b22, 0, none⟩) [h.pages, h.kind].length [h.pages, h.kind] :: Spc sb P m :: pt hb (.cells [.int .i64 h.pages, .int .i64 h.kind, .int .u64 h.owner, .int .u64 h.next].toArray 267 (0, 0)) :: F) ?_ (fun s3_12_13_18 => ?_)
  · intro b14 b22 b23 b28 b29
    refine XD_two (h := ?_) (h' := ?_)
    · refine XDa_dvA (dv_lit (E' := eI .u8) magicB) (hk := ?_)
      rintro _ _ ⟨b14, rfl, rfl⟩
      refine ⟨by exact KP, ?_⟩
      exact XD_perm2 (s3_4_12_13_18 b14 b22 b23 b28 b29)
    · refine XDa_dvA (dv_call (wbytes_spec _ _ _ [h.owner, h.next] 8 (by omega) (by simp) Sl.view)) (hk := ?_)
      rintro _ _ ⟨_, ⟨b29, rfl, rfl⟩, rfl⟩
      refine ⟨by exact KP, ?_⟩
      exact XD_perm2 (s3_12_13_18_19 b14 b22 b23 b28 b29)
  refine XD_cut5 [(2, .int .i64 page, true), (1, .pointer (some ⟨sb, 0, none⟩), true), (0, .pointer (some ⟨sb, 0, none⟩), true)] [18, 12, 5, 4, 17, 16, 15, 14, 11, 10, 9, 8, 7, 6, 2, 1, 0] (fun b14 b22 b23 b28 b29 => [(28, .slice (some ⟨b28, 0, none⟩) [h.owner, h.next].length [h.owner, h.next].length), (22, .slice (some ⟨b22, 0, none⟩) [h.pages, h.kind].length [h.pages, h.kind].length), (15, .slice (some ⟨b14, 0, none⟩) magicB.length magicB.length), (14, .slice (some ⟨b14, 0, none⟩) magicB.length magicB.length), (27, .int .u64 h.next), (26, .pointer (some ⟨hb, 3, none⟩)), (25, .int .u64 h.owner), (24, .pointer (some ⟨hb, 2, none⟩)), (21, .int .u64 h.kind), (20, .int .i64 h.kind), (19, .pointer (some ⟨hb, 1, none⟩)), (18, .int .u64 h.pages), (17, .int .i64 h.pages), (16, .pointer (some ⟨hb, 0, none⟩)), (12, .int .i64 page), (11, .pointer (some ⟨sb, 0, none⟩)), (10, .pointer (some ⟨sb, 0, none⟩)), (9, .bool !true), (8, .bool true), (7, .agg #[.int .i64 h.pages, .int .i64 h.kind, .int .u64 h.owner, .int .u64 h.next]), (6, .int .i64 0), (5, .pointer (some ⟨hb, 0, none⟩)), (0, .pointer (some ⟨sb, 0, none⟩)), (1, .int .i64 page), (2, .agg #[.int .i64 h.pages, .int .i64 h.kind, .int .u64 h.owner, .int .u64 h.next])]) (fun b14 b22 b23 b28 b29 => Sl (eI .u64) (some ⟨b28, 0, none⟩) [h.owner, h.next].length [h.owner, h.next] :: Sl (eI .u64) (some ⟨b22, 0, none⟩) [h.pages, h.kind].length [h.pages, h.kind] :: Frz b14 magicB :: Spc sb P m :: pt hb (.cells [.int .i64 h.pages, .int .i64 h.kind, .int .u64 h.owner, .int .u64 h.next].toArray 267 (0, 0)) :: F) ?_ (fun s4_5_12_18 => ?_)
  · intro b14 b22 b23 b28 b29
    refine XD_one (h := ?_)
    · refine XDa_dvA (dv_call hat) (hk := ?_)
      rintro _ _ ⟨_, ⟨rfl, rfl⟩, rfl⟩
      refine ⟨by exact KP, ?_⟩
      exact XD_perm2 (s3_4_5_12_18 b14 b22 b23 b28 b29)
  refine XD_cut5 [(17, .int .u64 h.next, false), (16, .pointer (some ⟨hb, 3, none⟩), true), (15, .int .u64 h.owner, false), (14, .pointer (some ⟨hb, 2, none⟩), true), (11, .int .u64 h.kind, true), (10, .int .i64 h.kind, false), (9, .pointer (some ⟨hb, 1, none⟩), true), (8, .int .u64 h.pages, true), (7, .int .i64 h.pages, false), (6, .pointer (some ⟨hb, 0, none⟩), true), (0, .pointer (some ⟨sb, 0, none⟩), true)] [5, 4, 3, 17, 16, 15, 14, 11, 10, 9, 8, 7, 6, 2, 1, 0] (fun b14 b22 b23 b28 b29 => [(15, .slice (some ⟨b14, 0, none⟩) magicB.length magicB.length), (14, .slice (some ⟨b14, 0, none⟩) magicB.length magicB.length), (13, .int .u64 (page * 4096)), (27, .int .u64 h.next), (26, .pointer (some ⟨hb, 3, none⟩)), (25, .int .u64 h.owner), (24, .pointer (some ⟨hb, 2, none⟩)), (21, .int .u64 h.kind), (20, .int .i64 h.kind), (19, .pointer (some ⟨hb, 1, none⟩)), (18, .int .u64 h.pages), (17, .int .i64 h.pages), (16, .pointer (some ⟨hb, 0, none⟩)), (12, .int .i64 page), (11, .pointer (some ⟨sb, 0, none⟩)), (10, .pointer (some ⟨sb, 0, none⟩)), (9, .bool !true), (8, .bool true), (7, .agg #[.int .i64 h.pages, .int .i64 h.kind, .int .u64 h.owner, .int .u64 h.next]), (6, .int .i64 0), (5, .pointer (some ⟨hb, 0, none⟩)), (0, .pointer (some ⟨sb, 0, none⟩)), (1, .int .i64 page), (2, .agg #[.int .i64 h.pages, .int .i64 h.kind, .int .u64 h.owner, .int .u64 h.next])]) (fun b14 b22 b23 b28 b29 => Frz b14 magicB :: Spc sb P m :: pt hb (.cells [.int .i64 h.pages, .int .i64 h.kind, .int .u64 h.owner, .int .u64 h.next].toArray 267 (0, 0)) :: F) ?_ (fun s3_4_5 => ?_)
  · intro b14 b22 b23 b28 b29
    refine XD_two (h := ?_) (h' := ?_)
    · refine XDa_dvA (dv_lit (E' := eI .u64) [h.pages, h.kind]) (hk := ?_)
      rintro _ _ ⟨b22, rfl, rfl⟩
      refine ⟨by exact KP, ?_⟩
      exact XD_perm2 (s3_4_5_12 b14 b22 b23 b28 b29)
    · refine XDa_dvA (dv_lit (E' := eI .u64) [h.owner, h.next]) (hk := ?_)
      rintro _ _ ⟨b28, rfl, rfl⟩
      refine ⟨by exact KP, ?_⟩
      exact XD_perm2 (s3_4_5_18 b14 b22 b23 b28 b29)
  refine XD_cut5 [(17, .int .u64 h.next, false), (16, .pointer (some ⟨hb, 3, none⟩), true), (15, .int .u64 h.owner, false), (14, .pointer (some ⟨hb, 2, none⟩), true), (0, .pointer (some ⟨sb, 0, none⟩), true)] [12, 4, 3, 17, 16, 15, 14, 11, 10, 9, 8, 7, 6, 2, 1, 0] (fun b14 b22 b23 b28 b29 => [(22, .slice (some ⟨b22, 0, none⟩) [h.pages, h.kind].length [h.pages, h.kind].length), (14, .slice (some ⟨b14, 0, none⟩) magicB.length magicB.length), (13, .int .u64 (page * 4096)), (27, .int .u64 h.next), (26, .pointer (some ⟨hb, 3, none⟩)), (25, .int .u64 h.owner), (24, .pointer (some ⟨hb, 2, none⟩)), (21, .int .u64 h.kind), (20, .int .i64 h.kind), (19, .pointer (some ⟨hb, 1, none⟩)), (18, .int .u64 h.pages), (17, .int .i64 h.pages), (16, .pointer (some ⟨hb, 0, none⟩)), (12, .int .i64 page), (11, .pointer (some ⟨sb, 0, none⟩)), (10, .pointer (some ⟨sb, 0, none⟩)), (9, .bool !true), (8, .bool true), (7, .agg #[.int .i64 h.pages, .int .i64 h.kind, .int .u64 h.owner, .int .u64 h.next]), (6, .int .i64 0), (5, .pointer (some ⟨hb, 0, none⟩)), (0, .pointer (some ⟨sb, 0, none⟩)), (1, .int .i64 page), (2, .agg #[.int .i64 h.pages, .int .i64 h.kind, .int .u64 h.owner, .int .u64 h.next])]) (fun b14 b22 b23 b28 b29 => Sl (eI .u64) (some ⟨b22, 0, none⟩) [h.pages, h.kind].length [h.pages, h.kind] :: Sl (eI .u8) (some ⟨b14, 0, none⟩) magicB.length magicB :: Spc sb P m :: pt hb (.cells [.int .i64 h.pages, .int .i64 h.kind, .int .u64 h.owner, .int .u64 h.next].toArray 267 (0, 0)) :: F) ?_ (fun s3_4_12 => ?_)
  · intro b14 b22 b23 b28 b29
    refine XD_three (h := ?_) (h' := ?_) (h2 := ?_)
    · refine XDa_dvA (dv_convSl) (hk := ?_)
      rintro _ _ ⟨rfl, rfl⟩
      refine ⟨by exact KP, ?_⟩
      exact XD_perm2 (s3_4_5_12 b14 b22 b23 b28 b29)
    · refine XDa_dvA (dv_call (wbytes_spec _ _ _ [h.pages, h.kind] 4 (by omega) (by simp) Sl.view)) (hk := ?_)
      rintro _ _ ⟨_, ⟨b23, rfl, rfl⟩, rfl⟩
      refine ⟨by exact KP, ?_⟩
      exact XD_perm2 (s3_4_12_13 b14 b22 b23 b28 b29)
    · refine XDa_dvA (dv_lit (E' := eI .u64) [h.owner, h.next]) (hk := ?_)
      rintro _ _ ⟨b28, rfl, rfl⟩
      refine ⟨by exact KP, ?_⟩
      exact XD_perm2 (s3_4_12_18 b14 b22 b23 b28 b29)
  refine XD_cut5 [(11, .int .u64 h.kind, true), (10, .int .i64 h.kind, false), (9, .pointer (some ⟨hb, 1, none⟩), true), (8, .int .u64 h.pages, true), (7, .int .i64 h.pages, false), (6, .pointer (some ⟨hb, 0, none⟩), true), (0, .pointer (some ⟨sb, 0, none⟩), true)] [18, 4, 3, 17, 16, 15, 14, 11, 10, 9, 8, 7, 6, 2, 1, 0] (fun b14 b22 b23 b28 b29 => [(28, .slice (some ⟨b28, 0, none⟩) [h.owner, h.next].length [h.owner, h.next].length), (14, .slice (some ⟨b14, 0, none⟩) magicB.length magicB.length), (13, .int .u64 (page * 4096)), (27, .int .u64 h.next), (26, .pointer (some ⟨hb, 3, none⟩)), (25, .int .u64 h.owner), (24, .pointer (some ⟨hb, 2, none⟩)), (21, .int .u64 h.kind), (20, .int .i64 h.kind), (19, .pointer (some ⟨hb, 1, none⟩)), (18, .int .u64 h.pages), (17, .int .i64 h.pages), (16, .pointer (some ⟨hb, 0, none⟩)), (12, .int .i64 page), (11, .pointer (some ⟨sb, 0, none⟩)), (10, .pointer (some ⟨sb, 0, none⟩)), (9, .bool !true), (8, .bool true), (7, .agg #[.int .i64 h.pages, .int .i64 h.kind, .int .u64 h.owner, .int .u64 h.next]), (6, .int .i64 0), (5, .pointer (some ⟨hb, 0, none⟩)), (0, .pointer (some ⟨sb, 0, none⟩)), (1, .int .i64 page), (2, .agg #[.int .i64 h.pages, .int .i64 h.kind, .int .u64 h.owner, .int .u64 h.next])]) (fun b14 b22 b23 b28 b29 => Sl (eI .u64) (some ⟨b28, 0, none⟩) [h.owner, h.next].length [h.owner, h.next] :: Sl (eI .u8) (some ⟨b14, 0, none⟩) magicB.length magicB :: Spc sb P m :: pt hb (.cells [.int .i64 h.pages, .int .i64 h.kind, .int .u64 h.owner, .int .u64 h.next].toArray 267 (0, 0)) :: F) ?_ (fun s3_4_18 => ?_)
  · intro b14 b22 b23 b28 b29
    refine XD_two (h := ?_) (h' := ?_)
    · refine XDa_dvA (dv_convSl) (hk := ?_)
      rintro _ _ ⟨rfl, rfl⟩
      refine ⟨by exact KP, ?_⟩
      exact XD_perm2 (s3_4_5_18 b14 b22 b23 b28 b29)
    · refine XDa_dvA (dv_lit (E' := eI .u64) [h.pages, h.kind]) (hk := ?_)
      rintro _ _ ⟨b22, rfl, rfl⟩
      refine ⟨by exact KP, ?_⟩
      exact XD_perm2 (s3_4_12_18 b14 b22 b23 b28 b29)
  refine XD_cut5 [(17, .int .u64 h.next, false), (16, .pointer (some ⟨hb, 3, none⟩), true), (15, .int .u64 h.owner, false), (14, .pointer (some ⟨hb, 2, none⟩), true), (0, .pointer (some ⟨sb, 0, none⟩), true)] [13, 12, 3, 17, 16, 15, 14, 11, 10, 9, 8, 7, 6, 2, 1, 0] (fun b14 b22 b23 b28 b29 => [(23, .slice (some ⟨b23, 0, none⟩) (bsOf (4 : Int).toNat [h.pages, h.kind]).length (bsOf (4 : Int).toNat [h.pages, h.kind]).length), (22, .slice (some ⟨b22, 0, none⟩) [h.pages, h.kind].length [h.pages, h.kind].length), (13, .int .u64 (page * 4096)), (27, .int .u64 h.next), (26, .pointer (some ⟨hb, 3, none⟩)), (25, .int .u64 h.owner), (24, .pointer (some ⟨hb, 2, none⟩)), (21, .int .u64 h.kind), (20, .int .i64 h.kind), (19, .pointer (some ⟨hb, 1, none⟩)), (18, .int .u64 h.pages), (17, .int .i64 h.pages), (16, .pointer (some ⟨hb, 0, none⟩)), (12, .int .i64 page), (11, .pointer (some ⟨sb, 0, none⟩)), (10, .pointer (some ⟨sb, 0, none⟩)), (9, .bool !true), (8, .bool true), (7, .agg #[.int .i64 h.pages, .int .i64 h.kind, .int .u64 h.owner, .int .u64 h.next]), (6, .int .i64 0), (5, .pointer (some ⟨hb, 0, none⟩)), (0, .pointer (some ⟨sb, 0, none⟩)), (1, .int .i64 page), (2, .agg #[.int .i64 h.pages, .int .i64 h.kind, .int .u64 h.owner, .int .u64 h.next])]) (fun b14 b22 b23 b28 b29 => Sl (eI .u8) (some ⟨b23, 0, none⟩) (bsOf (4 : Int).toNat [h.pages, h.kind]).length (bsOf (4 : Int).toNat [h.pages, h.kind]) :: Sl (eI .u64) (some ⟨b22, 0, none⟩) [h.pages, h.kind].length [h.pages, h.kind] :: Spc sb P m :: pt hb (.cells [.int .i64 h.pages, .int .i64 h.kind, .int .u64 h.owner, .int .u64 h.next].toArray 267 (0, 0)) :: F) ?_ (fun s3_12_13 => ?_)
  · intro b14 b22 b23 b28 b29
    refine XD_two (h := ?_) (h' := ?_)
    · refine XDa_dvA (dv_lit (E' := eI .u8) magicB) (hk := ?_)
      rintro _ _ ⟨b14, rfl, rfl⟩
      refine ⟨by exact KP, ?_⟩
      exact XD_perm2 (s3_4_12_13 b14 b22 b23 b28 b29)
    · refine XDa_dvA (dv_lit (E' := eI .u64) [h.owner, h.next]) (hk := ?_)
      rintro _ _ ⟨b28, rfl, rfl⟩
      refine ⟨by exact KP, ?_⟩
      exact XD_perm2 (s3_12_13_18 b14 b22 b23 b28 b29)
  refine XD_cut5 [(0, .pointer (some ⟨sb, 0, none⟩), true)] [18, 12, 3, 17, 16, 15, 14, 11, 10, 9, 8, 7, 6, 2, 1, 0] (fun b14 b22 b23 b28 b29 => [(28, .slice (some ⟨b28, 0, none⟩) [h.owner, h.next].length [h.owner, h.next].length), (22, .slice (some ⟨b22, 0, none⟩) [h.pages, h.kind].length [h.pages, h.kind].length), (13, .int .u64 (page * 4096)), (27, .int .u64 h.next), (26, .pointer (some ⟨hb, 3, none⟩)), (25, .int .u64 h.owner), (24, .pointer (some ⟨hb, 2, none⟩)), (21, .int .u64 h.kind), (20, .int .i64 h.kind), (19, .pointer (some ⟨hb, 1, none⟩)), (18, .int .u64 h.pages), (17, .int .i64 h.pages), (16, .pointer (some ⟨hb, 0, none⟩)), (12, .int .i64 page), (11, .pointer (some ⟨sb, 0, none⟩)), (10, .pointer (some ⟨sb, 0, none⟩)), (9, .bool !true), (8, .bool true), (7, .agg #[.int .i64 h.pages, .int .i64 h.kind, .int .u64 h.owner, .int .u64 h.next]), (6, .int .i64 0), (5, .pointer (some ⟨hb, 0, none⟩)), (0, .pointer (some ⟨sb, 0, none⟩)), (1, .int .i64 page), (2, .agg #[.int .i64 h.pages, .int .i64 h.kind, .int .u64 h.owner, .int .u64 h.next])]) (fun b14 b22 b23 b28 b29 => Sl (eI .u64) (some ⟨b28, 0, none⟩) [h.owner, h.next].length [h.owner, h.next] :: Sl (eI .u64) (some ⟨b22, 0, none⟩) [h.pages, h.kind].length [h.pages, h.kind] :: Spc sb P m :: pt hb (.cells [.int .i64 h.pages, .int .i64 h.kind, .int .u64 h.owner, .int .u64 h.next].toArray 267 (0, 0)) :: F) ?_ (fun s3_12_18 => ?_)
  · intro b14 b22 b23 b28 b29
    refine XD_two (h := ?_) (h' := ?_)
    · refine XDa_dvA (dv_lit (E' := eI .u8) magicB) (hk := ?_)
      rintro _ _ ⟨b14, rfl, rfl⟩
      refine ⟨by exact KP, ?_⟩
      exact XD_perm2 (s3_4_12_18 b14 b22 b23 b28 b29)
    · refine XDa_dvA (dv_call (wbytes_spec _ _ _ [h.pages, h.kind] 4 (by omega) (by simp) Sl.view)) (hk := ?_)
      rintro _ _ ⟨_, ⟨b23, rfl, rfl⟩, rfl⟩
      refine ⟨by exact KP, ?_⟩
      exact XD_perm2 (s3_12_13_18 b14 b22 b23 b28 b29)
  refine XD_cut5 [(17, .int .u64 h.next, false), (16, .pointer (some ⟨hb, 3, none⟩), true), (15, .int .u64 h.owner, false), (14, .pointer (some ⟨hb, 2, none⟩), true), (2, .int .i64 page, true), (1, .pointer (some ⟨sb, 0, none⟩), true), (0, .pointer (some ⟨sb, 0, none⟩), true)] [12, 5, 4, 17, 16, 15, 14, 11, 10, 9, 8, 7, 6, 2, 1, 0] (fun b14 b22 b23 b28 b29 => [(22, .slice (some ⟨b22, 0, none⟩) [h.pages, h.kind].length [h.pages, h.kind].length), (15, .slice (some ⟨b14, 0, none⟩) magicB.length magicB.length), (14, .slice (some ⟨b14, 0, none⟩) magicB.length magicB.length), (27, .int .u64 h.next), (26, .pointer (some ⟨hb, 3, none⟩)), (25, .int .u64 h.owner), (24, .pointer (some ⟨hb, 2, none⟩)), (21, .int .u64 h.kind), (20, .int .i64 h.kind), (19, .pointer (some ⟨hb, 1, none⟩)), (18, .int .u64 h.pages), (17, .int .i64 h.pages), (16, .pointer (some ⟨hb, 0, none⟩)), (12, .int .i64 page), (11, .pointer (some ⟨sb, 0, none⟩)), (10, .pointer (some ⟨sb, 0, none⟩)), (9, .bool !true), (8, .bool true), (7, .agg #[.int .i64 h.pages, .int .i64 h.kind, .int .u64 h.owner, .int .u64 h.next]), (6, .int .i64 0), (5, .pointer (some ⟨hb, 0, none⟩)), (0, .pointer (some ⟨sb, 0, none⟩)), (1, .int .i64 page), (2, .agg #[.int .i64 h.pages, .int .i64 h.kind, .int .u64 h.owner, .int .u64 h.next])]) (fun b14 b22 b23 b28 b29 => Sl (eI .u64) (some ⟨b22, 0, none⟩) [h.pages, h.kind].length [h.pages, h.kind] :: Frz b14 magicB :: Spc sb P m :: pt hb (.cells [.int .i64 h.pages, .int .i64 h.kind, .int .u64 h.owner, .int .u64 h.next].toArray 267 (0, 0)) :: F) ?_ (fun s4_5_12 => ?_)
  · intro b14 b22 b23 b28 b29
    refine XD_two (h := ?_) (h' := ?_)
    · refine XDa_dvA (dv_call hat) (hk := ?_)
      rintro _ _ ⟨_, ⟨rfl, rfl⟩, rfl⟩
      refine ⟨by exact KP, ?_⟩
      exact XD_perm2 (s3_4_5_12 b14 b22 b23 b28 b29)
    · refine XDa_dvA (dv_lit (E' := eI .u64) [h.owner, h.next]) (hk := ?_)
      rintro _ _ ⟨b28, rfl, rfl⟩
      refine ⟨by exact KP, ?_⟩
      exact XD_perm2 (s4_5_12_18 b14 b22 b23 b28 b29)
  refine XD_cut5 [(11, .int .u64 h.kind, true), (10, .int .i64 h.kind, false), (9, .pointer (some ⟨hb, 1, none⟩), true), (8, .int .u64 h.pages, true), (7, .int .i64 h.pages, false), (6, .pointer (some ⟨hb, 0, none⟩), true), (2, .int .i64 page, true), (1, .pointer (some ⟨sb, 0, none⟩), true), (0, .pointer (some ⟨sb, 0, none⟩), true)] [18, 5, 4, 17, 16, 15, 14, 11, 10, 9, 8, 7, 6, 2, 1, 0] (fun b14 b22 b23 b28 b29 => [(28, .slice (some ⟨b28, 0, none⟩) [h.owner, h.next].length [h.owner, h.next].length), (15, .slice (some ⟨b14, 0, none⟩) magicB.length magicB.length), (14, .slice (some ⟨b14, 0, none⟩) magicB.length magicB.length), (27, .int .u64 h.next), (26, .pointer (some ⟨hb, 3, none⟩)), (25, .int .u64 h.owner), (24, .pointer (some ⟨hb, 2, none⟩)), (21, .int .u64 h.kind), (20, .int .i64 h.kind), (19, .pointer (some ⟨hb, 1, none⟩)), (18, .int .u64 h.pages), (17, .int .i64 h.pages), (16, .pointer (some ⟨hb, 0, none⟩)), (12, .int .i64 page), (11, .pointer (some ⟨sb, 0, none⟩)), (10, .pointer (some ⟨sb, 0, none⟩)), (9, .bool !true), (8, .bool true), (7, .agg #[.int .i64 h.pages, .int .i64 h.kind, .int .u64 h.owner, .int .u64 h.next]), (6, .int .i64 0), (5, .pointer (some ⟨hb, 0, none⟩)), (0, .pointer (some ⟨sb, 0, none⟩)), (1, .int .i64 page), (2, .agg #[.int .i64 h.pages, .int .i64 h.kind, .int .u64 h.owner, .int .u64 h.next])]) (fun b14 b22 b23 b28 b29 => Sl (eI .u64) (some ⟨b28, 0, none⟩) [h.owner, h.next].length [h.owner, h.next] :: Frz b14 magicB :: Spc sb P m :: pt hb (.cells [.int .i64 h.pages, .int .i64 h.kind, .int .u64 h.owner, .int .u64 h.next].toArray 267 (0, 0)) :: F) ?_ (fun s4_5_18 => ?_)
  · intro b14 b22 b23 b28 b29
    refine XD_two (h := ?_) (h' := ?_)
    · refine XDa_dvA (dv_call hat) (hk := ?_)
      rintro _ _ ⟨_, ⟨rfl, rfl⟩, rfl⟩
      refine ⟨by exact KP, ?_⟩
      exact XD_perm2 (s3_4_5_18 b14 b22 b23 b28 b29)
    · refine XDa_dvA (dv_lit (E' := eI .u64) [h.pages, h.kind]) (hk := ?_)
      rintro _ _ ⟨b22, rfl, rfl⟩
      refine ⟨by exact KP, ?_⟩
      exact XD_perm2 (s4_5_12_18 b14 b22 b23 b28 b29)
  refine XD_cut5 [(2, .int .i64 page, true), (1, .pointer (some ⟨sb, 0, none⟩), true), (0, .pointer (some ⟨sb, 0, none⟩), true)] [18, 12, 4, 17, 16, 15, 14, 11, 10, 9, 8, 7, 6, 2, 1, 0] (fun b14 b22 b23 b28 b29 => [(28, .slice (some ⟨b28, 0, none⟩) [h.owner, h.next].length [h.owner, h.next].length), (22, .slice (some ⟨b22, 0, none⟩) [h.pages, h.kind].length [h.pages, h.kind].length), (14, .slice (some ⟨b14, 0, none⟩) magicB.length magicB.length), (27, .int .u64 h.next), (26, .pointer (some ⟨hb, 3, none⟩)), (25, .int .u64 h.owner), (24, .pointer (some ⟨hb, 2, none⟩)), (21, .int .u64 h.kind), (20, .int .i64 h.kind), (19, .pointer (some ⟨hb, 1, none⟩)), (18, .int .u64 h.pages), (17, .int .i64 h.pages), (16, .pointer (some ⟨hb, 0, none⟩)), (12, .int .i64 page), (11, .pointer (some ⟨sb, 0, none⟩)), (10, .pointer (some ⟨sb, 0, none⟩)), (9, .bool !true), (8, .bool true), (7, .agg #[.int .i64 h.pages, .int .i64 h.kind, .int .u64 h.owner, .int .u64 h.next]), (6, .int .i64 0), (5, .pointer (some ⟨hb, 0, none⟩)), (0, .pointer (some ⟨sb, 0, none⟩)), (1, .int .i64 page), (2, .agg #[.int .i64 h.pages, .int .i64 h.kind, .int .u64 h.owner, .int .u64 h.next])]) (fun b14 b22 b23 b28 b29 => Sl (eI .u64) (some ⟨b28, 0, none⟩) [h.owner, h.next].length [h.owner, h.next] :: Sl (eI .u64) (some ⟨b22, 0, none⟩) [h.pages, h.kind].length [h.pages, h.kind] :: Sl (eI .u8) (some ⟨b14, 0, none⟩) magicB.length magicB :: Spc sb P m :: pt hb (.cells [.int .i64 h.pages, .int .i64 h.kind, .int .u64 h.owner, .int .u64 h.next].toArray 267 (0, 0)) :: F) ?_ (fun s4_12_18 => ?_)
  · intro b14 b22 b23 b28 b29
    refine XD_two (h := ?_) (h' := ?_)
    · refine XDa_dvA (dv_call hat) (hk := ?_)
      rintro _ _ ⟨_, ⟨rfl, rfl⟩, rfl⟩
      refine ⟨by exact KP, ?_⟩
      exact XD_perm2 (s3_4_12_18 b14 b22 b23 b28 b29)
    · refine XDa_dvA (dv_convSl) (hk := ?_)
      rintro _ _ ⟨rfl, rfl⟩
      refine ⟨by exact KP, ?_⟩
      exact XD_perm2 (s4_5_12_18 b14 b22 b23 b28 b29)
  refine XD_cut5 [(17, .int .u64 h.next, false), (16, .pointer (some ⟨hb, 3, none⟩), true), (15, .int .u64 h.owner, false), (14, .pointer (some ⟨hb, 2, none⟩), true), (11, .int .u64 h.kind, true), (10, .int .i64 h.kind, false), (9, .pointer (some ⟨hb, 1, none⟩), true), (8, .int .u64 h.pages, true), (7, .int .i64 h.pages, false), (6, .pointer (some ⟨hb, 0, none⟩), true), (0, .pointer (some ⟨sb, 0, none⟩), true)] [4, 3, 17, 16, 15, 14, 11, 10, 9, 8, 7, 6, 2, 1, 0] (fun b14 b22 b23 b28 b29 => [(14, .slice (some ⟨b14, 0, none⟩) magicB.length magicB.length), (13, .int .u64 (page * 4096)), (27, .int .u64 h.next), (26, .pointer (some ⟨hb, 3, none⟩)), (25, .int .u64 h.owner), (24, .pointer (some ⟨hb, 2, none⟩)), (21, .int .u64 h.kind), (20, .int .i64 h.kind), (19, .pointer (some ⟨hb, 1, none⟩)), (18, .int .u64 h.pages), (17, .int .i64 h.pages), (16, .pointer (some ⟨hb, 0, none⟩)), (12, .int .i64 page), (11, .pointer (some ⟨sb, 0, none⟩)), (10, .pointer (some ⟨sb, 0, none⟩)), (9, .bool !true), (8, .bool true), (7, .agg #[.int .i64 h.pages, .int .i64 h.kind, .int .u64 h.owner, .int .u64 h.next]), (6, .int .i64 0), (5, .pointer (some ⟨hb, 0, none⟩)), (0, .pointer (some ⟨sb, 0, none⟩)), (1, .int .i64 page), (2, .agg #[.int .i64 h.pages, .int .i64 h.kind, .int .u64 h.owner, .int .u64 h.next])]) (fun b14 b22 b23 b28 b29 => Sl (eI .u8) (some ⟨b14, 0, none⟩) magicB.length magicB :: Spc sb P m :: pt hb (.cells [.int .i64 h.pages, .int .i64 h.kind, .int .u64 h.owner, .int .u64 h.next].toArray 267 (0, 0)) :: F) ?_ (fun s3_4 => ?_)
  · intro b14 b22 b23 b28 b29
    refine XD_three (h := ?_) (h' := ?_) (h2 := ?_)
    · refine XDa_dvA (dv_convSl) (hk := ?_)
      rintro _ _ ⟨rfl, rfl⟩
      refine ⟨by exact KP, ?_⟩
      exact XD_perm2 (s3_4_5 b14 b22 b23 b28 b29)
    · refine XDa_dvA (dv_lit (E' := eI .u64) [h.pages, h.kind]) (hk := ?_)
      rintro _ _ ⟨b22, rfl, rfl⟩
      refine ⟨by exact KP, ?_⟩
      exact XD_perm2 (s3_4_12 b14 b22 b23 b28 b29)
    · refine XDa_dvA (dv_lit (E' := eI .u64) [h.owner, h.next]) (hk := ?_)
      rintro _ _ ⟨b28, rfl, rfl⟩
      refine ⟨by exact KP, ?_⟩
      exact XD_perm2 (s3_4_18 b14 b22 b23 b28 b29)
  refine XD_cut5 [(17, .int .u64 h.next, false), (16, .pointer (some ⟨hb, 3, none⟩), true), (15, .int .u64 h.owner, false), (14, .pointer (some ⟨hb, 2, none⟩), true), (0, .pointer (some ⟨sb, 0, none⟩), true)] [12, 3, 17, 16, 15, 14, 11, 10, 9, 8, 7, 6, 2, 1, 0] (fun b14 b22 b23 b28 b29 => [(22, .slice (some ⟨b22, 0, none⟩) [h.pages, h.kind].length [h.pages, h.kind].length), (13, .int .u64 (page * 4096)), (27, .int .u64 h.next), (26, .pointer (some ⟨hb, 3, none⟩)), (25, .int .u64 h.owner), (24, .pointer (some ⟨hb, 2, none⟩)), (21, .int .u64 h.kind), (20, .int .i64 h.kind), (19, .pointer (some ⟨hb, 1, none⟩)), (18, .int .u64 h.pages), (17, .int .i64 h.pages), (16, .pointer (some ⟨hb, 0, none⟩)), (12, .int .i64 page), (11, .pointer (some ⟨sb, 0, none⟩)), (10, .pointer (some ⟨sb, 0, none⟩)), (9, .bool !true), (8, .bool true), (7, .agg #[.int .i64 h.pages, .int .i64 h.kind, .int .u64 h.owner, .int .u64 h.next]), (6, .int .i64 0), (5, .pointer (some ⟨hb, 0, none⟩)), (0, .pointer (some ⟨sb, 0, none⟩)), (1, .int .i64 page), (2, .agg #[.int .i64 h.pages, .int .i64 h.kind, .int .u64 h.owner, .int .u64 h.next])]) (fun b14 b22 b23 b28 b29 => Sl (eI .u64) (some ⟨b22, 0, none⟩) [h.pages, h.kind].length [h.pages, h.kind] :: Spc sb P m :: pt hb (.cells [.int .i64 h.pages, .int .i64 h.kind, .int .u64 h.owner, .int .u64 h.next].toArray 267 (0, 0)) :: F) ?_ (fun s3_12 => ?_)
  · intro b14 b22 b23 b28 b29
    refine XD_three (h := ?_) (h' := ?_) (h2 := ?_)
    · refine XDa_dvA (dv_lit (E' := eI .u8) magicB) (hk := ?_)
      rintro _ _ ⟨b14, rfl, rfl⟩
      refine ⟨by exact KP, ?_⟩
      exact XD_perm2 (s3_4_12 b14 b22 b23 b28 b29)
    · refine XDa_dvA (dv_call (wbytes_spec _ _ _ [h.pages, h.kind] 4 (by omega) (by simp) Sl.view)) (hk := ?_)
      rintro _ _ ⟨_, ⟨b23, rfl, rfl⟩, rfl⟩
      refine ⟨by exact KP, ?_⟩
      exact XD_perm2 (s3_12_13 b14 b22 b23 b28 b29)
    · refine XDa_dvA (dv_lit (E' := eI .u64) [h.owner, h.next]) (hk := ?_)
      rintro _ _ ⟨b28, rfl, rfl⟩
      refine ⟨by exact KP, ?_⟩
      exact XD_perm2 (s3_12_18 b14 b22 b23 b28 b29)
  refine XD_cut5 [(11, .int .u64 h.kind, true), (10, .int .i64 h.kind, false), (9, .pointer (some ⟨hb, 1, none⟩), true), (8, .int .u64 h.pages, true), (7, .int .i64 h.pages, false), (6, .pointer (some ⟨hb, 0, none⟩), true), (0, .pointer (some ⟨sb, 0, none⟩), true)] [18, 3, 17, 16, 15, 14, 11, 10, 9, 8, 7, 6, 2, 1, 0] (fun b14 b22 b23 b28 b29 => [(28, .slice (some ⟨b28, 0, none⟩) [h.owner, h.next].length [h.owner, h.next].length), (13, .int .u64 (page * 4096)), (27, .int .u64 h.next), (26, .pointer (some ⟨hb, 3, none⟩)), (25, .int .u64 h.owner), (24, .pointer (some ⟨hb, 2, none⟩)), (21, .int .u64 h.kind), (20, .int .i64 h.kind), (19, .pointer (some ⟨hb, 1, none⟩)), (18, .int .u64 h.pages), (17, .int .i64 h.pages), (16, .pointer (some ⟨hb, 0, none⟩)), (12, .int .i64 page), (11, .pointer (some ⟨sb, 0, none⟩)), (10, .pointer (some ⟨sb, 0, none⟩)), (9, .bool !true), (8, .bool true), (7, .agg #[.int .i64 h.pages, .int .i64 h.kind, .int .u64 h.owner, .int .u64 h.next]), (6, .int .i64 0), (5, .pointer (some ⟨hb, 0, none⟩)), (0, .pointer (some ⟨sb, 0, none⟩)), (1, .int .i64 page), (2, .agg #[.int .i64 h.pages, .int .i64 h.kind, .int .u64 h.owner, .int .u64 h.next])]) (fun b14 b22 b23 b28 b29 => Sl (eI .u64) (some ⟨b28, 0, none⟩) [h.owner, h.next].length [h.owner, h.next] :: Spc sb P m :: pt hb (.cells [.int .i64 h.pages, .int .i64 h.kind, .int .u64 h.owner, .int .u64 h.next].toArray 267 (0, 0)) :: F) ?_ (fun s3_18 => ?_)
  · intro b14 b22 b23 b28 b29
    refine XD_two (h := ?_) (h' := ?_)
    · refine XDa_dvA (dv_lit (E' := eI .u8) magicB) (hk := ?_)
      rintro _ _ ⟨b14, rfl, rfl⟩
      refine ⟨by exact KP, ?_⟩
      exact XD_perm2 (s3_4_18 b14 b22 b23 b28 b29)
    · refine XDa_dvA (dv_lit (E' := eI .u64) [h.pages, h.kind]) (hk := ?_)
      rintro _ _ ⟨b22, rfl, rfl⟩
      refine ⟨by exact KP, ?_⟩
      exact XD_perm2 (s3_12_18 b14 b22 b23 b28 b29)
  refine XD_cut5 [(17, .int .u64 h.next, false), (16, .pointer (some ⟨hb, 3, none⟩), true), (15, .int .u64 h.owner, false), (14, .pointer (some ⟨hb, 2, none⟩), true), (11, .int .u64 h.kind, true), (10, .int .i64 h.kind, false), (9, .pointer (some ⟨hb, 1, none⟩), true), (8, .int .u64 h.pages, true), (7, .int .i64 h.pages, false), (6, .pointer (some ⟨hb, 0, none⟩), true), (2, .int .i64 page, true), (1, .pointer (some ⟨sb, 0, none⟩), true), (0, .pointer (some ⟨sb, 0, none⟩), true)] [5, 4, 17, 16, 15, 14, 11, 10, 9, 8, 7, 6, 2, 1, 0] (fun b14 b22 b23 b28 b29 => [(15, .slice (some ⟨b14, 0, none⟩) magicB.length magicB.length), (14, .slice (some ⟨b14, 0, none⟩) magicB.length magicB.length), (27, .int .u64 h.next), (26, .pointer (some ⟨hb, 3, none⟩)), (25, .int .u64 h.owner), (24, .pointer (some ⟨hb, 2, none⟩)), (21, .int .u64 h.kind), (20, .int .i64 h.kind), (19, .pointer (some ⟨hb, 1, none⟩)), (18, .int .u64 h.pages), (17, .int .i64 h.pages), (16, .pointer (some ⟨hb, 0, none⟩)), (12, .int .i64 page), (11, .pointer (some ⟨sb, 0, none⟩)), (10, .pointer (some ⟨sb, 0, none⟩)), (9, .bool !true), (8, .bool true), (7, .agg #[.int .i64 h.pages, .int .i64 h.kind, .int .u64 h.owner, .int .u64 h.next]), (6, .int .i64 0), (5, .pointer (some ⟨hb, 0, none⟩)), (0, .pointer (some ⟨sb, 0, none⟩)), (1, .int .i64 page), (2, .agg #[.int .i64 h.pages, .int .i64 h.kind, .int .u64 h.owner, .int .u64 h.next])]) (fun b14 b22 b23 b28 b29 => Frz b14 magicB :: Spc sb P m :: pt hb (.cells [.int .i64 h.pages, .int .i64 h.kind, .int .u64 h.owner, .int .u64 h.next].toArray 267 (0, 0)) :: F) ?_ (fun s4_5 => ?_)
  · intro b14 b22 b23 b28 b29
    refine XD_three (h := ?_) (h' := ?_) (h2 := ?_)
    · refine XDa_dvA (dv_call hat) (hk := ?_)
      rintro _ _ ⟨_, ⟨rfl, rfl⟩, rfl⟩
      refine ⟨by exact KP, ?_⟩
      exact XD_perm2 (s3_4_5 b14 b22 b23 b28 b29)
    · refine XDa_dvA (dv_lit (E' := eI .u64) [h.pages, h.kind]) (hk := ?_)
      rintro _ _ ⟨b22, rfl, rfl⟩
      refine ⟨by exact KP, ?_⟩
      exact XD_perm2 (s4_5_12 b14 b22 b23 b28 b29)
    · refine XDa_dvA (dv_lit (E' := eI .u64) [h.owner, h.next]) (hk := ?_)
      rintro _ _ ⟨b28, rfl, rfl⟩
      refine ⟨by exact KP, ?_⟩
      exact XD_perm2 (s4_5_18 b14 b22 b23 b28 b29)
  refine XD_cut5 [(17, .int .u64 h.next, false), (16, .pointer (some ⟨hb, 3, none⟩), true), (15, .int .u64 h.owner, false), (14, .pointer (some ⟨hb, 2, none⟩), true), (2, .int .i64 page, true), (1, .pointer (some ⟨sb, 0, none⟩), true), (0, .pointer (some ⟨sb, 0, none⟩), true)] [12, 4, 17, 16, 15, 14, 11, 10, 9, 8, 7, 6, 2, 1, 0] (fun b14 b22 b23 b28 b29 => [(22, .slice (some ⟨b22, 0, none⟩) [h.pages, h.kind].length [h.pages, h.kind].length), (14, .slice (some ⟨b14, 0, none⟩) magicB.length magicB.length), (27, .int .u64 h.next), (26, .pointer (some ⟨hb, 3, none⟩)), (25, .int .u64 h.owner), (24, .pointer (some ⟨hb, 2, none⟩)), (21, .int .u64 h.kind), (20, .int .i64 h.kind), (19, .pointer (some ⟨hb, 1, none⟩)), (18, .int .u64 h.pages), (17, .int .i64 h.pages), (16, .pointer (some ⟨hb, 0, none⟩)), (12, .int .i64 page), (11, .pointer (some ⟨sb, 0, none⟩)), (10, .pointer (some ⟨sb, 0, none⟩)), (9, .bool !true), (8, .bool true), (7, .agg #[.int .i64 h.pages, .int .i64 h.kind, .int .u64 h.owner, .int .u64 h.next]), (6, .int .i64 0), (5, .pointer (some ⟨hb, 0, none⟩)), (0, .pointer (some ⟨sb, 0, none⟩)), (1, .int .i64 page), (2, .agg #[.int .i64 h.pages, .int .i64 h.kind, .int .u64 h.owner, .int .u64 h.next])]) (fun b14 b22 b23 b28 b29 => Sl (eI .u64) (some ⟨b22, 0, none⟩) [h.pages, h.kind].length [h.pages, h.kind] :: Sl (eI .u8) (some ⟨b14, 0, none⟩) magicB.length magicB :: Spc sb P m :: pt hb (.cells [.int .i64 h.pages, .int .i64 h.kind, .int .u64 h.owner, .int .u64 h.next].toArray 267 (0, 0)) :: F) ?_ (fun s4_12 => ?_)
  · intro b14 b22 b23 b28 b29
    refine XD_three (h := ?_) (h' := ?_) (h2 := ?_)
    · refine XDa_dvA (dv_call hat) (hk := ?_)
      rintro _ _ ⟨_, ⟨rfl, rfl⟩, rfl⟩
      refine ⟨by exact KP, ?_⟩
      exact XD_perm2 (s3_4_12 b14 b22 b23 b28 b29)
    · refine XDa_dvA (dv_convSl) (hk := ?_)
      rintro _ _ ⟨rfl, rfl⟩
      refine ⟨by exact KP, ?_⟩
      exact XD_perm2 (s4_5_12 b14 b22 b23 b28 b29)
    · refine XDa_dvA (dv_lit (E' := eI .u64) [h.owner, h.next]) (hk := ?_)
      rintro _ _ ⟨b28, rfl, rfl⟩
      refine ⟨by exact KP, ?_⟩
      exact XD_perm2 (s4_12_18 b14 b22 b23 b28 b29)
  refine XD_cut5 [(11, .int .u64 h.kind, true), (10, .int .i64 h.kind, false), (9, .pointer (some ⟨hb, 1, none⟩), true), (8, .int .u64 h.pages, true), (7, .int .i64 h.pages, false), (6, .pointer (some ⟨hb, 0, none⟩), true), (2, .int .i64 page, true), (1, .pointer (some ⟨sb, 0, none⟩), true), (0, .pointer (some ⟨sb, 0, none⟩), true)] [18, 4, 17, 16, 15, 14, 11, 10, 9, 8, 7, 6, 2, 1, 0] (fun b14 b22 b23 b28 b29 => [(28, .slice (some ⟨b28, 0, none⟩) [h.owner, h.next].length [h.owner, h.next].length), (14, .slice (some ⟨b14, 0, none⟩) magicB.length magicB.length), (27, .int .u64 h.next), (26, .pointer (some ⟨hb, 3, none⟩)), (25, .int .u64 h.owner), (24, .pointer (some ⟨hb, 2, none⟩)), (21, .int .u64 h.kind), (20, .int .i64 h.kind), (19, .pointer (some ⟨hb, 1, none⟩)), (18, .int .u64 h.pages), (17, .int .i64 h.pages), (16, .pointer (some ⟨hb, 0, none⟩)), (12, .int .i64 page), (11, .pointer (some ⟨sb, 0, none⟩)), (10, .pointer (some ⟨sb, 0, none⟩)), (9, .bool !true), (8, .bool true), (7, .agg #[.int .i64 h.pages, .int .i64 h.kind, .int .u64 h.owner, .int .u64 h.next]), (6, .int .i64 0), (5, .pointer (some ⟨hb, 0, none⟩)), (0, .pointer (some ⟨sb, 0, none⟩)), (1, .int .i64 page), (2, .agg #[.int .i64 h.pages, .int .i64 h.kind, .int .u64 h.owner, .int .u64 h.next])]) (fun b14 b22 b23 b28 b29 => Sl (eI .u64) (some ⟨b28, 0, none⟩) [h.owner, h.next].length [h.owner, h.next] :: Sl (eI .u8) (some ⟨b14, 0, none⟩) magicB.length magicB :: Spc sb P m :: pt hb (.cells [.int .i64 h.pages, .int .i64 h.kind, .int .u64 h.owner, .int .u64 h.next].toArray 267 (0, 0)) :: F) ?_ (fun s4_18 => ?_)
  · intro b14 b22 b23 b28 b29
    refine XD_three (h := ?_) (h' := ?_) (h2 := ?_)
    · refine XDa_dvA (dv_call hat) (hk := ?_)
      rintro _ _ ⟨_, ⟨rfl, rfl⟩, rfl⟩
      refine ⟨by exact KP, ?_⟩
      exact XD_perm2 (s3_4_18 b14 b22 b23 b28 b29)
    · refine XDa_dvA (dv_convSl) (hk := ?_)
      rintro _ _ ⟨rfl, rfl⟩
      refine ⟨by exact KP, ?_⟩
      exact XD_perm2 (s4_5_18 b14 b22 b23 b28 b29)
    · refine XDa_dvA (dv_lit (E' := eI .u64) [h.pages, h.kind]) (hk := ?_)
      rintro _ _ ⟨b22, rfl, rfl⟩
      refine ⟨by exact KP, ?_⟩
      exact XD_perm2 (s4_12_18 b14 b22 b23 b28 b29)
  refine XD_cut5 [(2, .int .i64 page, true), (1, .pointer (some ⟨sb, 0, none⟩), true), (0, .pointer (some ⟨sb, 0, none⟩), true)] [18, 12, 17, 16, 15, 14, 11, 10, 9, 8, 7, 6, 2, 1, 0] (fun b14 b22 b23 b28 b29 => [(28, .slice (some ⟨b28, 0, none⟩) [h.owner, h.next].length [h.owner, h.next].length), (22, .slice (some ⟨b22, 0, none⟩) [h.pages, h.kind].length [h.pages, h.kind].length), (27, .int .u64 h.next), (26, .pointer (some ⟨hb, 3, none⟩)), (25, .int .u64 h.owner), (24, .pointer (some ⟨hb, 2, none⟩)), (21, .int .u64 h.kind), (20, .int .i64 h.kind), (19, .pointer (some ⟨hb, 1, none⟩)), (18, .int .u64 h.pages), (17, .int .i64 h.pages), (16, .pointer (some ⟨hb, 0, none⟩)), (12, .int .i64 page), (11, .pointer (some ⟨sb, 0, none⟩)), (10, .pointer (some ⟨sb, 0, none⟩)), (9, .bool !true), (8, .bool true), (7, .agg #[.int .i64 h.pages, .int .i64 h.kind, .int .u64 h.owner, .int .u64 h.next]), (6, .int .i64 0), (5, .pointer (some ⟨hb, 0, none⟩)), (0, .pointer (some ⟨sb, 0, none⟩)), (1, .int .i64 page), (2, .agg #[.int .i64 h.pages, .int .i64 h.kind, .int .u64 h.owner, .int .u64 h.next])]) (fun b14 b22 b23 b28 b29 => Sl (eI .u64) (some ⟨b28, 0, none⟩) [h.owner, h.next].length [h.owner, h.next] :: Sl (eI .u64) (some ⟨b22, 0, none⟩) [h.pages, h.kind].length [h.pages, h.kind] :: Spc sb P m :: pt hb (.cells [.int .i64 h.pages, .int .i64 h.kind, .int .u64 h.owner, .int .u64 h.next].toArray 267 (0, 0)) :: F) ?_ (fun s12_18 => ?_)
  · intro b14 b22 b23 b28 b29
    refine XD_two (h := ?_) (h' := ?_)
    · refine XDa_dvA (dv_call hat) (hk := ?_)
      rintro _ _ ⟨_, ⟨rfl, rfl⟩, rfl⟩
      refine ⟨by exact KP, ?_⟩
      exact XD_perm2 (s3_12_18 b14 b22 b23 b28 b29)
    · refine XDa_dvA (dv_lit (E' := eI .u8) magicB) (hk := ?_)
      rintro _ _ ⟨b14, rfl, rfl⟩
      refine ⟨by exact KP, ?_⟩
      exact XD_perm2 (s4_12_18 b14 b22 b23 b28 b29)
  refine XD_cut5 [(17, .int .u64 h.next, false), (16, .pointer (some ⟨hb, 3, none⟩), true), (15, .int .u64 h.owner, false), (14, .pointer (some ⟨hb, 2, none⟩), true), (11, .int .u64 h.kind, true), (10, .int .i64 h.kind, false), (9, .pointer (some ⟨hb, 1, none⟩), true), (8, .int .u64 h.pages, true), (7, .int .i64 h.pages, false), (6, .pointer (some ⟨hb, 0, none⟩), true), (0, .pointer (some ⟨sb, 0, none⟩), true)] [3, 17, 16, 15, 14, 11, 10, 9, 8, 7, 6, 2, 1, 0] (fun b14 b22 b23 b28 b29 => [(13, .int .u64 (page * 4096)), (27, .int .u64 h.next), (26, .pointer (some ⟨hb, 3, none⟩)), (25, .int .u64 h.owner), (24, .pointer (some ⟨hb, 2, none⟩)), (21, .int .u64 h.kind), (20, .int .i64 h.kind), (19, .pointer (some ⟨hb, 1, none⟩)), (18, .int .u64 h.pages), (17, .int .i64 h.pages), (16, .pointer (some ⟨hb, 0, none⟩)), (12, .int .i64 page), (11, .pointer (some ⟨sb, 0, none⟩)), (10, .pointer (some ⟨sb, 0, none⟩)), (9, .bool !true), (8, .bool true), (7, .agg #[.int .i64 h.pages, .int .i64 h.kind, .int .u64 h.owner, .int .u64 h.next]), (6, .int .i64 0), (5, .pointer (some ⟨hb, 0, none⟩)), (0, .pointer (some ⟨sb, 0, none⟩)), (1, .int .i64 page), (2, .agg #[.int .i64 h.pages, .int .i64 h.kind, .int .u64 h.owner, .int .u64 h.next])]) (fun b14 b22 b23 b28 b29 => Spc sb P m :: pt hb (.cells [.int .i64 h.pages, .int .i64 h.kind, .int .u64 h.owner, .int .u64 h.next].toArray 267 (0, 0)) :: F) ?_ (fun s3 => ?_)
  · intro b14 b22 b23 b28 b29
    refine XD_three (h := ?_) (h' := ?_) (h2 := ?_)
    · refine XDa_dvA (dv_lit (E' := eI .u8) magicB) (hk := ?_)
      rintro _ _ ⟨b14, rfl, rfl⟩
      refine ⟨by exact KP, ?_⟩
      exact XD_perm2 (s3_4 b14 b22 b23 b28 b29)
    · refine XDa_dvA (dv_lit (E' := eI .u64) [h.pages, h.kind]) (hk := ?_)
      rintro _ _ ⟨b22, rfl, rfl⟩
      refine ⟨by exact KP, ?_⟩
      exact XD_perm2 (s3_12 b14 b22 b23 b28 b29)
    · refine XDa_dvA (dv_lit (E' := eI .u64) [h.owner, h.next]) (hk := ?_)
      rintro _ _ ⟨b28, rfl, rfl⟩
      refine ⟨by exact KP, ?_⟩
      exact XD_perm2 (s3_18 b14 b22 b23 b28 b29)
  refine XD_cut5 [(17, .int .u64 h.next, false), (16, .pointer (some ⟨hb, 3, none⟩), true), (15, .int .u64 h.owner, false), (14, .pointer (some ⟨hb, 2, none⟩), true), (11, .int .u64 h.kind, true), (10, .int .i64 h.kind, false), (9, .pointer (some ⟨hb, 1, none⟩), true), (8, .int .u64 h.pages, true), (7, .int .i64 h.pages, false), (6, .pointer (some ⟨hb, 0, none⟩), true), (2, .int .i64 page, true), (1, .pointer (some ⟨sb, 0, none⟩), true), (0, .pointer (some ⟨sb, 0, none⟩), true)] [4, 17, 16, 15, 14, 11, 10, 9, 8, 7, 6, 2, 1, 0] (fun b14 b22 b23 b28 b29 => [(14, .slice (some ⟨b14, 0, none⟩) magicB.length magicB.length), (27, .int .u64 h.next), (26, .pointer (some ⟨hb, 3, none⟩)), (25, .int .u64 h.owner), (24, .pointer (some ⟨hb, 2, none⟩)), (21, .int .u64 h.kind), (20, .int .i64 h.kind), (19, .pointer (some ⟨hb, 1, none⟩)), (18, .int .u64 h.pages), (17, .int .i64 h.pages), (16, .pointer (some ⟨hb, 0, none⟩)), (12, .int .i64 page), (11, .pointer (some ⟨sb, 0, none⟩)), (10, .pointer (some ⟨sb, 0, none⟩)), (9, .bool !true), (8, .bool true), (7, .agg #[.int .i64 h.pages, .int .i64 h.kind, .int .u64 h.owner, .int .u64 h.next]), (6, .int .i64 0), (5, .pointer (some ⟨hb, 0, none⟩)), (0, .pointer (some ⟨sb, 0, none⟩)), (1, .int .i64 page), (2, .agg #[.int .i64 h.pages, .int .i64 h.kind, .int .u64 h.owner, .int .u64 h.next])]) (fun b14 b22 b23 b28 b29 => Sl (eI .u8) (some ⟨b14, 0, none⟩) magicB.length magicB :: Spc sb P m :: pt hb (.cells [.int .i64 h.pages, .int .i64 h.kind, .int .u64 h.owner, .int .u64 h.next].toArray 267 (0, 0)) :: F) ?_ (fun s4 => ?_)
  · intro b14 b22 b23 b28 b29
    refine XD_four (h := ?_) (h' := ?_) (h2 := ?_) (h3 := ?_)
    · refine XDa_dvA (dv_call hat) (hk := ?_)
      rintro _ _ ⟨_, ⟨rfl, rfl⟩, rfl⟩
      refine ⟨by exact KP, ?_⟩
      exact XD_perm2 (s3_4 b14 b22 b23 b28 b29)
    · refine XDa_dvA (dv_convSl) (hk := ?_)
      rintro _ _ ⟨rfl, rfl⟩
      refine ⟨by exact KP, ?_⟩
      exact XD_perm2 (s4_5 b14 b22 b23 b28 b29)
    · refine XDa_dvA (dv_lit (E' := eI .u64) [h.pages, h.kind]) (hk := ?_)
      rintro _ _ ⟨b22, rfl, rfl⟩
      refine ⟨by exact KP, ?_⟩
      exact XD_perm2 (s4_12 b14 b22 b23 b28 b29)
    · refine XDa_dvA (dv_lit (E' := eI .u64) [h.owner, h.next]) (hk := ?_)
      rintro _ _ ⟨b28, rfl, rfl⟩
      refine ⟨by exact KP, ?_⟩
      exact XD_perm2 (s4_18 b14 b22 b23 b28 b29)
  refine XD_cut5 [(17, .int .u64 h.next, false), (16, .pointer (some ⟨hb, 3, none⟩), true), (15, .int .u64 h.owner, false), (14, .pointer (some ⟨hb, 2, none⟩), true), (2, .int .i64 page, true), (1, .pointer (some ⟨sb, 0, none⟩), true), (0, .pointer (some ⟨sb, 0, none⟩), true)] [12, 17, 16, 15, 14, 11, 10, 9, 8, 7, 6, 2, 1, 0] (fun b14 b22 b23 b28 b29 => [(22, .slice (some ⟨b22, 0, none⟩) [h.pages, h.kind].length [h.pages, h.kind].length), (27, .int .u64 h.next), (26, .pointer (some ⟨hb, 3, none⟩)), (25, .int .u64 h.owner), (24, .pointer (some ⟨hb, 2, none⟩)), (21, .int .u64 h.kind), (20, .int .i64 h.kind), (19, .pointer (some ⟨hb, 1, none⟩)), (18, .int .u64 h.pages), (17, .int .i64 h.pages), (16, .pointer (some ⟨hb, 0, none⟩)), (12, .int .i64 page), (11, .pointer (some ⟨sb, 0, none⟩)), (10, .pointer (some ⟨sb, 0, none⟩)), (9, .bool !true), (8, .bool true), (7, .agg #[.int .i64 h.pages, .int .i64 h.kind, .int .u64 h.owner, .int .u64 h.next]), (6, .int .i64 0), (5, .pointer (some ⟨hb, 0, none⟩)), (0, .pointer (some ⟨sb, 0, none⟩)), (1, .int .i64 page), (2, .agg #[.int .i64 h.pages, .int .i64 h.kind, .int .u64 h.owner, .int .u64 h.next])]) (fun b14 b22 b23 b28 b29 => Sl (eI .u64) (some ⟨b22, 0, none⟩) [h.pages, h.kind].length [h.pages, h.kind] :: Spc sb P m :: pt hb (.cells [.int .i64 h.pages, .int .i64 h.kind, .int .u64 h.owner, .int .u64 h.next].toArray 267 (0, 0)) :: F) ?_ (fun s12 => ?_)
  · intro b14 b22 b23 b28 b29
    refine XD_three (h := ?_) (h' := ?_) (h2 := ?_)
    · refine XDa_dvA (dv_call hat) (hk := ?_)
      rintro _ _ ⟨_, ⟨rfl, rfl⟩, rfl⟩
      refine ⟨by exact KP, ?_⟩
      exact XD_perm2 (s3_12 b14 b22 b23 b28 b29)
    · refine XDa_dvA (dv_lit (E' := eI .u8) magicB) (hk := ?_)
      rintro _ _ ⟨b14, rfl, rfl⟩
      refine ⟨by exact KP, ?_⟩
      exact XD_perm2 (s4_12 b14 b22 b23 b28 b29)
    · refine XDa_dvA (dv_lit (E' := eI .u64) [h.owner, h.next]) (hk := ?_)
      rintro _ _ ⟨b28, rfl, rfl⟩
      refine ⟨by exact KP, ?_⟩
      exact XD_perm2 (s12_18 b14 b22 b23 b28 b29)
  refine XD_cut5 [(11, .int .u64 h.kind, true), (10, .int .i64 h.kind, false), (9, .pointer (some ⟨hb, 1, none⟩), true), (8, .int .u64 h.pages, true), (7, .int .i64 h.pages, false), (6, .pointer (some ⟨hb, 0, none⟩), true), (2, .int .i64 page, true), (1, .pointer (some ⟨sb, 0, none⟩), true), (0, .pointer (some ⟨sb, 0, none⟩), true)] [18, 17, 16, 15, 14, 11, 10, 9, 8, 7, 6, 2, 1, 0] (fun b14 b22 b23 b28 b29 => [(28, .slice (some ⟨b28, 0, none⟩) [h.owner, h.next].length [h.owner, h.next].length), (27, .int .u64 h.next), (26, .pointer (some ⟨hb, 3, none⟩)), (25, .int .u64 h.owner), (24, .pointer (some ⟨hb, 2, none⟩)), (21, .int .u64 h.kind), (20, .int .i64 h.kind), (19, .pointer (some ⟨hb, 1, none⟩)), (18, .int .u64 h.pages), (17, .int .i64 h.pages), (16, .pointer (some ⟨hb, 0, none⟩)), (12, .int .i64 page), (11, .pointer (some ⟨sb, 0, none⟩)), (10, .pointer (some ⟨sb, 0, none⟩)), (9, .bool !true), (8, .bool true), (7, .agg #[.int .i64 h.pages, .int .i64 h.kind, .int .u64 h.owner, .int .u64 h.next]), (6, .int .i64 0), (5, .pointer (some ⟨hb, 0, none⟩)), (0, .pointer (some ⟨sb, 0, none⟩)), (1, .int .i64 page), (2, .agg #[.int .i64 h.pages, .int .i64 h.kind, .int .u64 h.owner, .int .u64 h.next])]) (fun b14 b22 b23 b28 b29 => Sl (eI .u64) (some ⟨b28, 0, none⟩) [h.owner, h.next].length [h.owner, h.next] :: Spc sb P m :: pt hb (.cells [.int .i64 h.pages, .int .i64 h.kind, .int .u64 h.owner, .int .u64 h.next].toArray 267 (0, 0)) :: F) ?_ (fun s18 => ?_)
  · intro b14 b22 b23 b28 b29
    refine XD_three (h := ?_) (h' := ?_) (h2 := ?_)
    · refine XDa_dvA (dv_call hat) (hk := ?_)
      rintro _ _ ⟨_, ⟨rfl, rfl⟩, rfl⟩
      refine ⟨by exact KP, ?_⟩
      exact XD_perm2 (s3_18 b14 b22 b23 b28 b29)
    · refine XDa_dvA (dv_lit (E' := eI .u8) magicB) (hk := ?_)
      rintro _ _ ⟨b14, rfl, rfl⟩
      refine ⟨by exact KP, ?_⟩
      exact XD_perm2 (s4_18 b14 b22 b23 b28 b29)
    · refine XDa_dvA (dv_lit (E' := eI .u64) [h.pages, h.kind]) (hk := ?_)
      rintro _ _ ⟨b22, rfl, rfl⟩
      refine ⟨by exact KP, ?_⟩
      exact XD_perm2 (s12_18 b14 b22 b23 b28 b29)
  have b14 := 0
  have b22 := 0
  have b23 := 0
  have b28 := 0
  have b29 := 0
  refine XD_four (h := ?_) (h' := ?_) (h2 := ?_) (h3 := ?_)
  · refine XDa_dvA (dv_call hat) (hk := ?_)
    rintro _ _ ⟨_, ⟨rfl, rfl⟩, rfl⟩
    refine ⟨by exact KP, ?_⟩
    exact XD_perm2 (s3 b14 b22 b23 b28 b29)
  · refine XDa_dvA (dv_lit (E' := eI .u8) magicB) (hk := ?_)
    rintro _ _ ⟨b14, rfl, rfl⟩
    refine ⟨by exact KP, ?_⟩
    exact XD_perm2 (s4 b14 b22 b23 b28 b29)
  · refine XDa_dvA (dv_lit (E' := eI .u64) [h.pages, h.kind]) (hk := ?_)
    rintro _ _ ⟨b22, rfl, rfl⟩
    refine ⟨by exact KP, ?_⟩
    exact XD_perm2 (s12 b14 b22 b23 b28 b29)
  · refine XDa_dvA (dv_lit (E' := eI .u64) [h.owner, h.next]) (hk := ?_)
    rintro _ _ ⟨b28, rfl, rfl⟩
    refine ⟨by exact KP, ?_⟩
    exact XD_perm2 (s18 b14 b22 b23 b28 b29)
end Go.Proofs.YtamecmklcnohjaaGreat.Sep
namespace Go.Proofs.YtamecmklcnohjaaGreat.Sep
open Go.RowKit
set_option linter.unusedSimpArgs false
set_option linter.unusedVariables false
def bad (p k : Int) : Prop := p < 1 ∨ 1048576 < p ∨ k < 0 ∨ 255 < k
instance (p k : Int) : Decidable (bad p k) := by unfold bad; exact inferInstance
def kgetV (s sb : Nat) (C : Co) (m : Mm) (p k o : Int) : Value → List HP → Prop :=
  if bad p k then fun v L => v = .tuple #[.int .i64 0, .int .i64 0, .int .i64 1] ∧ L = [Ck s sb C, Spc sb C.P m]
  else if (getC C (rnd p)).2.2 = 0 then fun v L => v = .tuple #[.int .i64 (getC C (rnd p)).2.1, .int .i64 (rnd p), .int .i64 0] ∧ L = [Ck s sb (getC C (rnd p)).1, Spc sb C.P (stM m ((getC C (rnd p)).2.1 * 4096) (hdB ⟨rnd p, k, o, 0⟩))]
  else fun v L => v = .tuple #[.int .i64 0, .int .i64 0, .int .i64 (getC C (rnd p)).2.2] ∧ L = [Ck s sb (getC C (rnd p)).1, Spc sb C.P m]
set_option maxHeartbeats 8000000
attribute [local irreducible] X XE XO XD XDi XDa PV RV DV pt base Spec Sl Mp Keeps Pg Kc Pgs Spc Ck
theorem kget_spec (s sb : Nat) (C : Co) (m : Mm) (p k o : Int) (h : CoOk C) (hr : ¬ bad p k → (getC C (rnd p)).2.2 = 0 → RunOk C.P ((getC C (rnd p)).2.1, rnd p)) :
    Spec Tryz.prog 117 [.pointer (some ⟨s, 0, none⟩), .int .i64 p, .int .i64 k, .int .u64 o] [Ck s sb C, Spc sb C.P m] (kgetV s sb C m p k o) := by
  refine Spec.intro (IsEnt.out) Tryz.func117 rfl Tryz.ntmps117 (by simp) (fun w0 F => ?_)
  simp only [envOf, List.zipIdx, List.map, List.cons_append, List.nil_append, Nat.zero_add, Nat.reduceAdd]
  by_cases hb : bad p k
  · have hv : kgetV s sb C m p k o = fun v L => v = .tuple #[.int .i64 0, .int .i64 0, .int .i64 1] ∧ L = [Ck s sb C, Spc sb C.P m] := by unfold kgetV; rw [if_pos hb]
    rw [hv]
    unfold bad at hb
    (repeat refine Z ?_)
    refine XO_either (hT := fun h1 => ?_) (hF := fun h1 => ?_) <;> simp only [decide_eq_true_eq, decide_eq_false_iff_not] at h1
    · (repeat refine Z ?_)
      refine X_cond rfl (fun _ => ?_) (fun h => by cases h)
      (repeat refine Z ?_)
      refine XE_ret (.inl rfl) (tells_tmps rfl rfl) ⟨_, ⟨rfl, rfl⟩, by exact EN⟩
    · (repeat refine Z ?_)
      refine XO_either (hT := fun h2 => ?_) (hF := fun h2 => ?_) <;> simp only [decide_eq_true_eq, decide_eq_false_iff_not] at h2
      · (repeat refine Z ?_)
        refine X_cond rfl (fun _ => ?_) (fun h => by cases h)
        (repeat refine Z ?_)
        refine XE_ret (.inl rfl) (tells_tmps rfl rfl) ⟨_, ⟨rfl, rfl⟩, by exact EN⟩
      · (repeat refine Z ?_)
        refine XO_either (hT := fun h3 => ?_) (hF := fun h3 => ?_) <;> simp only [decide_eq_true_eq, decide_eq_false_iff_not] at h3
        · (repeat refine Z ?_)
          refine X_cond rfl (fun _ => ?_) (fun h => by cases h)
          (repeat refine Z ?_)
          refine XE_ret (.inl rfl) (tells_tmps rfl rfl) ⟨_, ⟨rfl, rfl⟩, by exact EN⟩
        · (repeat refine Z ?_)
          refine X_cond rfl (fun _ => ?_) (fun h => ?_)
          · (repeat refine Z ?_)
            refine XE_ret (.inl rfl) (tells_tmps rfl rfl) ⟨_, ⟨rfl, rfl⟩, by exact EN⟩
          · exfalso
            simp only [decide_eq_false_iff_not] at h
            omega
  · have hb' : 1 ≤ p ∧ p ≤ 1048576 ∧ 0 ≤ k ∧ k ≤ 255 := by unfold bad at hb; omega
    obtain ⟨g1, g2, g3, g4⟩ := hb'
    obtain ⟨r1, r2, -, -, -, -⟩ := rnd_ok g1 g2
    (repeat refine Z ?_)
    refine XO_known false (hb := decide_eq_false (by omega)) (hk := ?_)
    (repeat refine Z ?_)
    refine XO_known false (hb := decide_eq_false (by omega)) (hk := ?_)
    (repeat refine Z ?_)
    refine XO_known false (hb := decide_eq_false (by omega)) (hk := ?_)
    (repeat refine Z ?_)
    refine X_cond rfl (fun h => absurd h (by simp; omega)) (fun _ => ?_)
    (repeat refine Z ?_)
    refine XO_call (kpages_spec s sb C p h g1 g2) (hk := ?_)
    rintro _ _ ⟨rfl, rfl⟩
    (repeat refine Z ?_)
    by_cases hz : (getC C (rnd p)).2.2 = 0
    · have hv : kgetV s sb C m p k o = fun v L => v = .tuple #[.int .i64 (getC C (rnd p)).2.1, .int .i64 (rnd p), .int .i64 0] ∧ L = [Ck s sb (getC C (rnd p)).1, Spc sb C.P (stM m ((getC C (rnd p)).2.1 * 4096) (hdB ⟨rnd p, k, o, 0⟩))] := by unfold kgetV; rw [if_neg hb, if_pos hz]
      rw [hv]
      have hrun := hr hb hz
      unfold RunOk at hrun
      simp only at hrun
      rw [hz]
      generalize getC C (rnd p) = G at hrun ⊢
      refine X_cond rfl (fun h => by cases h) (fun _ => ?_)
      refine X_open (A := Ck s sb G.1) (by exact FDs) Ck.open ?_
      rintro ⟨pb, kb⟩ -
      dsimp only [List.cons_append, List.nil_append]
      (repeat refine Z ?_)
      refine XO_pv (pv_buildG [.int .i64 (rnd p), .int .i64 k, .int .u64 o, .int .u64 0]) (hk := ?_)
      (repeat refine Z ?_)
      refine XO_call (hwrite_spec sb C.P m G.2.1 ⟨rnd p, k, o, 0⟩ h.p2 ⟨by show 1 ≤ rnd p; omega, r2, g3, by show k < 256; omega⟩ ⟨by omega, by omega⟩) (hk := ?_)
      rintro _ _ ⟨rfl, rfl⟩
      (repeat refine Z ?_)
      refine XE_fold (by exact FAs) (Ck.fold (C := G.1)) ?_
      refine XE_ret (.inl rfl) (tells_tmps rfl rfl) ⟨_, ⟨rfl, rfl⟩, by exact EN⟩
    · have hv : kgetV s sb C m p k o = fun v L => v = .tuple #[.int .i64 0, .int .i64 0, .int .i64 (getC C (rnd p)).2.2] ∧ L = [Ck s sb (getC C (rnd p)).1, Spc sb C.P m] := by unfold kgetV; rw [if_neg hb, if_neg hz]
      rw [hv]
      refine X_cond rfl (fun _ => ?_) (fun h => ?_)
      · (repeat refine Z ?_)
        refine XE_ret (.inl rfl) (tells_tmps rfl rfl) ⟨_, ⟨rfl, rfl⟩, by exact EN⟩
      · exact absurd (by simpa using h) hz
end Go.Proofs.YtamecmklcnohjaaGreat.Sep
namespace Go.Proofs.YtamecmklcnohjaaGreat.Sep
open Go.RowKit
set_option linter.unusedSimpArgs false
set_option linter.unusedVariables false
theorem readI_hdr {P : Int} {m : Int → Int} {page : Int} {h : Hd} (hin : 0 ≤ page ∧ page < P) (hr : rdM m (page * 4096) 32 = hdB h) (hg : HdGood h) : readI P m page = (h, 0) := by
  obtain ⟨g1, g2, g3, g4, g5⟩ := hg
  unfold readI
  rw [if_pos hin, hr, hd_back g1 g2 g3 g4 g5]
theorem get_hr {C : Co} {m : Int → Int} {got : List (Int × Hd)} (h : KInv C m got) (p k o : Int) (ho : 0 ≤ o ∧ o < 18446744073709551616) : ¬ bad p k → (getC C (rnd p)).2.2 = 0 → RunOk C.P ((getC C (rnd p)).2.1, rnd p) := fun hb hz => by
  have hb' : 1 ≤ p ∧ p ≤ 1048576 ∧ 0 ≤ k ∧ k ≤ 255 := by unfold bad at hb; omega
  obtain ⟨g1, g2, g3, g4⟩ := hb'
  obtain ⟨r1, r2, r3, -⟩ := rnd_ok g1 g2
  exact (kget (hd := ⟨rnd p, k, o, 0⟩) h ⟨⟨by show 1 ≤ rnd p; omega, r2, g3, by show k < 256; omega⟩, ho.1, ho.2, Int.le_refl 0, (by decide : (0 : Int) < 18446744073709551616)⟩ r3 hz).2.2
theorem get_inv2 {C : Co} {m : Int → Int} {got : List (Int × Hd)} (h : KInv C m got) {p k o : Int} (ho : 0 ≤ o ∧ o < 18446744073709551616) (hb : ¬ bad p k) (hz : (getC C (rnd p)).2.2 = 0) :
    KInv (getC C (rnd p)).1 (wrM m ((getC C (rnd p)).2.1 * 4096) (hdB ⟨rnd p, k, o, 0⟩)) (got ++ [((getC C (rnd p)).2.1, ⟨rnd p, k, o, 0⟩)]) ∧ (getC C (rnd p)).1.P = C.P := by
  have hb' : 1 ≤ p ∧ p ≤ 1048576 ∧ 0 ≤ k ∧ k ≤ 255 := by unfold bad at hb; omega
  obtain ⟨g1, g2, g3, g4⟩ := hb'
  obtain ⟨r1, r2, r3, -⟩ := rnd_ok g1 g2
  have := kget (hd := ⟨rnd p, k, o, 0⟩) h ⟨⟨by show 1 ≤ rnd p; omega, r2, g3, by show k < 256; omega⟩, ho.1, ho.2, Int.le_refl 0, (by decide : (0 : Int) < 18446744073709551616)⟩ r3 hz
  exact ⟨this.1, this.2.1⟩
theorem put_ok0 {C : Co} {m : Int → Int} {l1 l2 : List (Int × Hd)} {p : Int} {hd : Hd} (h : KInv C m (l1 ++ (p, hd) :: l2)) : readI C.P m p = (hd, 0) ∧ putCE C (p, hd.pages) = 0 := by
  have hr : RunOk C.P (p, hd.pages) := h.run (p, hd) (by simp)
  have hh := h.hdr (p, hd) (by simp)
  have hr' := hr
  unfold RunOk at hr'
  simp only at hr'
  refine ⟨readI_hdr ⟨hr'.1, by omega⟩ hh.1 hh.2, ?_⟩
  unfold putCE
  split
  · rfl
  · have hd' : ∀ x, cnt x C.fr + ind x (p, hd.pages) ≤ 1 := fun x => by
      have h1 := h.part x
      have h2 := cnt_mem (x := x) (r := (p, hd.pages)) (l := gr (l1 ++ (p, hd) :: l2)) (List.mem_map.2 ⟨(p, hd), by simp, rfl⟩)
      have h3 := part_le1 (x := x) (P := C.P)
      have h4 := cnt_nn x (kall C.ks 7)
      unfold cC at h1
      omega
    have hs := giveI_some h.ci.ok.right hr'.1 hr'.2.1 hr'.2.2 hd'
    unfold giveE
    rw [hs]; rfl
theorem bestU_none {xs : List (Int × Int)} {n : Int} (hn : 0 < n) : ∀ {i : Nat}, bestU xs n i = none → ∀ j, j < i → (xs.getD j (0, 0)).2 < n
  | 0, h, j, hj => by omega
  | i + 1, h, j, hj => by
    simp only [bestU] at h
    split at h
    · cases h
    · rename_i hc
      rw [h] at hc
      rcases Nat.lt_succ_iff_lt_or_eq.1 hj with hj | rfl
      · exact bestU_none hn h j hj
      · by_cases hv : n ≤ (xs.getD j (0, 0)).2
        · exact absurd ⟨hn, hv, rfl⟩ hc
        · omega
theorem take_none {C : Co} {n : Int} (hn : 1 ≤ n) (h : (takeC C n).2.2 = 4) : ∀ r ∈ C.fr, r.2 < n := by
  unfold takeC at h
  rw [if_neg (by omega)] at h
  cases ht : takeI C.fr n with
  | some q => rw [ht] at h; cases h
  | none =>
    unfold takeI at ht
    have hb : bestU C.fr n C.fr.length = none := by
      cases hb : bestU C.fr n C.fr.length with
      | none => rfl
      | some j => rw [hb] at ht; cases ht
    intro r hr
    obtain ⟨j, hj, rfl⟩ := List.getElem_of_mem hr
    have := bestU_none (by omega) hb j hj
    simpa [List.getD, hj] using this
theorem take_code {C : Co} {n : Int} (hn : 1 ≤ n) : (takeC C n).2.2 = 0 ∨ (takeC C n).2.2 = 4 := by
  unfold takeC
  rw [if_neg (by omega)]
  cases takeI C.fr n with
  | none => exact .inr rfl
  | some q => exact .inl rfl
theorem kall0 {C : Co} (h : CoOk C) (h0 : ¬ 0 < trimN C) : kall C.ks 7 = [] := by
  cases hk : kall C.ks 7 with
  | nil => rfl
  | cons r l =>
    exfalso
    unfold trimN at h0
    rw [hk, tot_cons] at h0
    have h1 := kall_bd h (r := r) (by rw [hk]; simp)
    have h2 := tot_le (l := l) (fun q hq => (kall_bd h (r := q) (by rw [hk]; simp [hq])).2.2)
    omega
theorem get_full {C : Co} {n : Int} (h : CoOk C) (hn : 1 ≤ n) (hz : (getC C n).2.2 ≠ 0) : (getC C n).2.2 = 4 ∧ (getC C n).1 = trimC C ∧ ∀ r ∈ (trimC C).fr, r.2 < n := by
  unfold getC at hz ⊢
  split at hz
  · exact absurd rfl hz
  · rename_i hc
    rw [if_neg hc]
    split at hz
    · rename_i he
      rw [if_pos he]
      split at hz
      · rename_i h3
        rw [if_pos h3]
        rcases take_code (C := trimC C) hn with h4 | h4
        · exact absurd h4 hz
        · exact ⟨h4, (takeC_full h4).1, take_none hn h4⟩
      · rename_i h3
        rw [if_neg h3]
        refine ⟨he, rfl, ?_⟩
        have hf : (trimC C).fr = C.fr := by unfold trimC; rw [kall0 h h3]; rfl
        rw [hf]
        exact take_none hn he
    · rename_i he
      rcases take_code (C := C) hn with h4 | h4
      · exact absurd h4 hz
      · exact absurd h4 he
theorem kget_ok (s sb : Nat) {C : Co} {m : Mm} {got : List (Int × Hd)} {P p k o : Int} (hK : KInv C m.f got) (hP : C.P = P) (ho : 0 ≤ o ∧ o < 18446744073709551616) (hb : ¬ bad p k) (hz : (getC C (rnd p)).2.2 = 0) :
    Spec Tryz.prog 117 [.pointer (some ⟨s, 0, none⟩), .int .i64 p, .int .i64 k, .int .u64 o] [Ck s sb C, Spc sb P m]
      (fun v L => v = .tuple #[.int .i64 (getC C (rnd p)).2.1, .int .i64 (rnd p), .int .i64 0] ∧ L = [Ck s sb (getC C (rnd p)).1, Spc sb P (stM m ((getC C (rnd p)).2.1 * 4096) (hdB ⟨rnd p, k, o, 0⟩))]) := by
  subst hP
  have h := kget_spec s sb C m p k o hK.ci.ok (get_hr hK p k o ho)
  unfold kgetV at h
  rwa [if_neg hb, if_pos hz] at h
theorem kget_no (s sb : Nat) {C : Co} {m : Mm} {P p k o : Int} (hC : CoOk C) (hP : C.P = P) (hb : ¬ bad p k) (hz : (getC C (rnd p)).2.2 ≠ 0) :
    Spec Tryz.prog 117 [.pointer (some ⟨s, 0, none⟩), .int .i64 p, .int .i64 k, .int .u64 o] [Ck s sb C, Spc sb P m]
      (fun v L => v = .tuple #[.int .i64 0, .int .i64 0, .int .i64 4] ∧ L = [Ck s sb (trimC C), Spc sb P m]) := by
  subst hP
  have h := kget_spec s sb C m p k o hC (fun _ h => absurd h hz)
  unfold kgetV at h
  have hr : 1 ≤ rnd p := by
    have : 1 ≤ p ∧ p ≤ 1048576 := by unfold bad at hb; omega
    have := (rnd_ok this.1 this.2).1
    omega
  obtain ⟨e1, e2, -⟩ := get_full hC hr hz
  rwa [if_neg hb, if_neg hz, e1, e2] at h
theorem kput_ok (s sb : Nat) {C : Co} {m : Mm} {l1 l2 : List (Int × Hd)} {P p : Int} {hd : Hd} (hK : KInv C m.f (l1 ++ (p, hd) :: l2)) (hP : C.P = P) :
    Spec Tryz.prog 167 [.pointer (some ⟨s, 0, none⟩), .int .i64 p] [Ck s sb C, Spc sb P m]
      (fun v L => v = .int .i64 0 ∧ L = [Ck s sb (putC C (p, hd.pages)), Spc sb P (kputM P m p)]) := by
  subst hP
  have h := kput_spec s sb C m p hK.ci.ok
  obtain ⟨e1, e2⟩ := put_ok0 hK
  unfold kputV at h
  rw [e1, if_pos rfl] at h
  dsimp only at h
  rwa [e2] at h
theorem hread_ok (sb : Nat) {C : Co} {m : Mm} {l1 l2 : List (Int × Hd)} {P p : Int} {hd : Hd} (hK : KInv C m.f (l1 ++ (p, hd) :: l2)) (hP : C.P = P) :
    Spec Tryz.prog 160 [.pointer (some ⟨sb, 0, none⟩), .int .i64 p] [Spc sb P m]
      (fun v L => v = .tuple #[hdV hd, .int .i64 0] ∧ L = [Spc sb P (hrM P m p)]) := by
  subst hP
  have h := hread_spec sb C.P m p (by have := hK.ci.ok.p1; omega) hK.ci.ok.p2
  have hr : RunOk C.P (p, hd.pages) := hK.run (p, hd) (by simp)
  have hh := hK.hdr (p, hd) (by simp)
  unfold RunOk at hr
  simp only at hr
  rwa [readI_hdr ⟨hr.1, by omega⟩ hh.1 hh.2] at h
theorem kget_inv {C : Co} {m : Mm} {got : List (Int × Hd)} {P p k o : Int} (hK : KInv C m.f got) (hP : C.P = P) (ho : 0 ≤ o ∧ o < 18446744073709551616) (hb : ¬ bad p k) (hz : (getC C (rnd p)).2.2 = 0) :
    KInv (getC C (rnd p)).1 (stM m ((getC C (rnd p)).2.1 * 4096) (hdB ⟨rnd p, k, o, 0⟩)).f (got ++ [((getC C (rnd p)).2.1, ⟨rnd p, k, o, 0⟩)]) ∧ (getC C (rnd p)).1.P = P := by
  subst hP; exact get_inv2 hK ho hb hz
theorem kput_inv {C : Co} {m : Mm} {l1 l2 : List (Int × Hd)} {P p : Int} {hd : Hd} (hK : KInv C m.f (l1 ++ (p, hd) :: l2)) (hP : C.P = P) :
    KInv (putC C (p, hd.pages)) (kputM P m p).f (l1 ++ l2) ∧ (putC C (p, hd.pages)).P = P := by
  subst hP; exact kput hK
end Go.Proofs.YtamecmklcnohjaaGreat.Sep
namespace Go.Proofs.YtamecmklcnohjaaGreat.Sep
open Go.RowKit
set_option linter.unusedSimpArgs false
set_option linter.unusedVariables false
theorem take_whole {C : Co} {a b : Int} (hf : C.fr = [(a, b)]) (h1 : 1 ≤ b) : (takeC C b).2 = (a, 0) ∧ (takeC C b).1.fr = [] ∧ (takeC C b).1.ks = C.ks ∧ (takeC C b).1.P = C.P := by
  have hb : bestU [(a, b)] b 1 = some 0 := by
    simp [bestU, less]; omega
  have ht : takeI C.fr b = some (a, []) := by
    unfold takeI
    rw [hf]
    show (bestU [(a, b)] b 1).map _ = _
    rw [hb]
    simp [takeAt]
  unfold takeC
  rw [if_neg (by omega), ht]
  exact ⟨rfl, rfl, rfl, rfl⟩
theorem get_none {C : Co} {w : Int} (hf : C.fr = []) (hk : kall C.ks 7 = []) (hw : 1 ≤ w) (hc : 0 ≤ cclass w → cclass w < 7) : (getC C w).2.2 = 4 ∧ (getC C w).1 = trimC C ∧ (trimC C).fr = [] := by
  have hks : ∀ k, k < 7 → C.ks k = [] := fun k hk7 => by
    have key : ∀ n, kall C.ks n = [] → ∀ k, k < n → C.ks k = [] := by
      intro n
      induction n with
      | zero => intro _ k h; omega
      | succ n ih =>
        intro h k hk'
        have h' : kall C.ks n = [] ∧ (C.ks n).map (fun p => (p, cpages n)) = [] := List.append_eq_nil_iff.1 h
        rcases Nat.lt_succ_iff_lt_or_eq.1 hk' with hlt | rfl
        · exact ih h'.1 k hlt
        · exact List.map_eq_nil_iff.1 h'.2
    exact key 7 hk k hk7
  have ht : takeC C w = (C, 0, 4) := by
    unfold takeC
    rw [if_neg (by omega), hf]
    rfl
  have hn : ¬ 0 < trimN C := by unfold trimN; rw [hk]; decide
  refine ⟨?_, ?_, by unfold trimC; rw [hk]; exact hf⟩
  · unfold getC
    rw [if_neg (fun h => by have := hks (cclass w).toNat (by omega); rw [this] at h; simp at h), ht, if_pos rfl, if_neg hn]
  · unfold getC
    rw [if_neg (fun h => by have := hks (cclass w).toNat (by omega); rw [this] at h; simp at h), ht, if_pos rfl, if_neg hn]
end Go.Proofs.YtamecmklcnohjaaGreat.Sep
namespace Go.Proofs.YtamecmklcnohjaaGreat.Sep
open Go.RowKit
set_option linter.unusedSimpArgs false
set_option linter.unusedVariables false
def plH (k o : Int) : Int → List (Int × Int) → List (Int × Hd)
  | _, [] => []
  | nx, (p, n) :: l => (p, ⟨n, k, o, nx⟩) :: plH k o (p + 1) l
def lastL : Int → List (Int × Int) → Int
  | nx, [] => nx
  | _, (p, _) :: l => lastL (p + 1) l
theorem plH_snoc (k o : Int) (p n : Int) : ∀ (l : List (Int × Int)) (nx : Int), plH k o nx (l ++ [(p, n)]) = plH k o nx l ++ [(p, ⟨n, k, o, lastL nx l⟩)]
  | [], nx => rfl
  | (q, m) :: l, nx => by
    show (q, _) :: plH k o (q + 1) (l ++ [(p, n)]) = _
    rw [plH_snoc k o p n l]; rfl
theorem lastL_snoc (p n : Int) : ∀ (l : List (Int × Int)) (nx : Int), lastL nx (l ++ [(p, n)]) = p + 1
  | [], nx => rfl
  | (q, m) :: l, nx => lastL_snoc p n l (q + 1)
theorem plH_gr (k o : Int) : ∀ (l : List (Int × Int)) (nx : Int), gr (plH k o nx l) = l
  | [], nx => rfl
  | (q, m) :: l, nx => by
    show (q, m) :: gr (plH k o (q + 1) l) = _
    rw [plH_gr k o l]
theorem plH_len (k o : Int) (l : List (Int × Int)) (nx : Int) : (plH k o nx l).length = l.length := by
  have := congrArg List.length (plH_gr k o l nx)
  simpa [gr] using this
theorem cnt_perm {x : Int} {l l' : List (Int × Int)} (h : l.Perm l') : cnt x l = cnt x l' := by
  induction h with
  | nil => rfl
  | cons a _ ih => simp only [cnt, ih]
  | swap a b l => simp only [cnt]; omega
  | trans _ _ h1 h2 => exact h1.trans h2
theorem tot_perm {l l' : List (Int × Int)} (h : l.Perm l') : totI l = totI l' := by
  induction h with
  | nil => rfl
  | cons a _ ih => rw [tot_cons, tot_cons, ih]
  | swap a b l => simp only [tot_cons]; omega
  | trans _ _ h1 h2 => exact h1.trans h2
theorem KInv.perm {C : Co} {m : Int → Int} {g g' : List (Int × Hd)} (h : KInv C m g) (hp : g.Perm g') : KInv C m g' := by
  have hg : (gr g).Perm (gr g') := hp.map _
  refine ⟨h.ci, fun q hq => h.run q (hp.symm.subset hq), fun x => ?_, ?_, fun q hq => h.hdr q (hp.symm.subset hq)⟩
  · rw [← cnt_perm hg]; exact h.part x
  · rw [← tot_perm hg]; exact h.tot
def lkM (P : Int) (m : Mm) (page next : Int) : Mm := stM (hrM P m page) (page * 4096 + 24) (leB 8 next)
theorem hdB_split (h : Hd) : hdB h = (magicB ++ ((leB 4 h.pages ++ leB 4 h.kind) ++ leB 8 h.owner)) ++ leB 8 h.next := by unfold hdB; simp [List.append_assoc]
theorem hdB_front (h : Hd) : (magicB ++ ((leB 4 h.pages ++ leB 4 h.kind) ++ leB 8 h.owner)).length = 24 := by simp [leB_len, magicB]
theorem klink {C : Co} {m : Int → Int} {l1 l2 : List (Int × Hd)} {p next : Int} {hd : Hd} (h : KInv C m (l1 ++ (p, hd) :: l2)) (h0 : 0 ≤ next ∧ next < 18446744073709551616) :
    KInv C (wrM m (p * 4096 + 24) (leB 8 next)) (l1 ++ (p, { hd with next := next }) :: l2) := by
  have hg : gr (l1 ++ (p, { hd with next := next }) :: l2) = gr (l1 ++ (p, hd) :: l2) := by simp [gr]
  have hrp : RunOk C.P (p, hd.pages) := h.run (p, hd) (by simp)
  have hdis : ∀ q ∈ l1 ++ l2, q.1 ≠ p := by
    intro q hq hqp
    have h1 := h.part p
    have h2 := part_le1 (x := p) (P := C.P)
    have h3 : cnt p (gr (l1 ++ (p, hd) :: l2)) = cnt p (gr (l1 ++ l2)) + ind p (p, hd.pages) := by
      rw [gr_app, gr_app, cnt_append, cnt_append]
      show _ + (ind p (p, hd.pages) + cnt p (gr l2)) = _
      omega
    have h4 : ind p (p, hd.pages) = 1 := ind_self hrp.2.1
    have h5 := cnt_mem (x := p) (r := (q.1, q.2.pages)) (l := gr (l1 ++ l2)) (List.mem_map.2 ⟨q, hq, rfl⟩)
    have hrq : RunOk C.P (q.1, q.2.pages) := h.run q (by rcases List.mem_append.1 hq with hq | hq <;> simp [hq])
    have h6 : ind q.1 (q.1, q.2.pages) = 1 := ind_self hrq.2.1
    rw [hqp] at h5 h6
    have h7 := cC_nn p C
    omega
  refine ⟨h.ci, fun q hq => ?_, fun x => by rw [hg]; exact h.part x, by rw [hg]; exact h.tot, fun q hq => ?_⟩
  · rcases List.mem_append.1 hq with hq | hq
    · exact h.run q (by simp [hq])
    · rcases List.mem_cons.1 hq with rfl | hq
      · exact hrp
      · exact h.run q (by simp [hq])
  · have hother : ∀ q ∈ l1 ++ l2, rdM (wrM m (p * 4096 + 24) (leB 8 next)) (q.1 * 4096) 32 = hdB q.2 ∧ HdGood q.2 := fun q hq => by
      have h1 := h.hdr q (by rcases List.mem_append.1 hq with hq | hq <;> simp [hq])
      have h2 := hdis q hq
      rw [rd_wr_ne (by rw [leB_len]; omega)]
      exact h1
    rcases List.mem_append.1 hq with hq | hq
    · exact hother q (by simp [hq])
    · rcases List.mem_cons.1 hq with rfl | hq
      · obtain ⟨h1, h2⟩ := h.hdr (p, hd) (by simp)
        simp only at h1 h2
        refine ⟨?_, h2.1, h2.2.1, h2.2.2.1, h0.1, h0.2⟩
        show rdM (wrM m (p * 4096 + 24) (leB 8 next)) (p * 4096) 32 = _
        have e1 : rdM m (p * 4096) 24 = magicB ++ ((leB 4 hd.pages ++ leB 4 hd.kind) ++ leB 8 hd.owner) := by
          have h3 := h1
          rw [show (32 : Nat) = 24 + 8 from rfl, rd_app, hdB_split] at h3
          exact (List.append_inj h3 (by rw [rdM_len, hdB_front])).1
        rw [show (32 : Nat) = 24 + 8 from rfl, rd_app, rd_wr_ne (by rw [leB_len]; omega), e1]
        have e2 := rd_wr m (p * 4096 + 24) (leB 8 next)
        rw [leB_len] at e2
        rw [show p * 4096 + ((24 : Nat) : Int) = p * 4096 + 24 from rfl, e2]
        rw [hdB_split]
      · exact hother q (by simp [hq])
end Go.Proofs.YtamecmklcnohjaaGreat.Sep
