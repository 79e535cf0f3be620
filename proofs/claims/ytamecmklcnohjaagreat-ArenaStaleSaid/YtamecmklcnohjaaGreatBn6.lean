import Derived.Test.YtamecmklcnohjaaGreatBn5
import Derived.Test.YtamecmklcnohjaaGreatBn4
import Derived.Test.YtamecmklcnohjaaGreatBn3
/- What the laws share: a separation logic over the model, and what the program's functions do, by it. Part 6 of 15: SpaceF HeadC Runs RunsB RunsC RunsD Free Pagerun ClassA Cache. -/
namespace Go.Proofs.YtamecmklcnohjaaGreat.Sep
open Go.RowKit
set_option linter.unusedSimpArgs false
set_option linter.unusedVariables false
def tb (T : List (Int × Nat)) : List (Int × Option Nat) := T.map fun z => (z.1, some z.2)
structure ZInv (P : Int) (m : Int → Int) (at_ n : Int) (M : List (Int × Nat × List Int)) (T : List (Int × Nat)) : Prop where
  mem : ∀ a, memOf M a = if a / 4096 ∈ T.map (·.1) then m a else zrM m at_ n a
  len : ∀ q ∈ M, 0 ≤ q.1 ∧ q.1 < P ∧ q.2.2.length = 4096
  sub : ∀ z ∈ T, ∃ ys, (z.1, z.2, ys) ∈ M
  nd : (T.map (·.1)).Nodup
def zpage (at_ n p : Int) (ys : List Int) : List Int :=
  if min (at_ + n) (p * 4096 + 4096) ≤ max at_ (p * 4096) then ys
  else cutIn ys (max at_ (p * 4096) - p * 4096).toNat (List.replicate (min (at_ + n) (p * 4096 + 4096) - max at_ (p * 4096)).toNat 0)
theorem memOf_mid {M1 M2 : List (Int × Nat × List Int)} {p : Int} {b : Nat} {ys : List Int} (hn : lk M1 p = none) {a : Int} (ha : a / 4096 ≠ p) (ys' : List Int) : memOf (M1 ++ (p, b, ys') :: M2) a = memOf (M1 ++ (p, b, ys) :: M2) a := by
  rw [← ins_split (v := (b, ys)) hn]
  unfold memOf
  rw [lk_ins, if_neg ha]
theorem zinv_step {P : Int} {m : Int → Int} {at_ n p : Int} {b : Nat} {ys : List Int} {M1 M2 : List (Int × Nat × List Int)} {T1 T2 : List (Int × Nat)} (h : ZInv P m at_ n (M1 ++ (p, b, ys) :: M2) (T1 ++ (p, b) :: T2)) (hn : lk M1 p = none) :
    ZInv P m at_ n (M1 ++ (p, b, zpage at_ n p ys) :: M2) (T1 ++ T2) := by
  have hl := (h.len (p, b, ys) (by simp)).2.2
  have hlk : lk (M1 ++ (p, b, ys) :: M2) p = some (b, ys) := lk_mid hn
  have hnd := h.nd
  rw [List.map_append, List.map_cons, List.nodup_append] at hnd
  obtain ⟨n1, n2, n3⟩ := hnd
  rw [List.nodup_cons] at n2
  have hp1 : p ∉ T1.map (·.1) := fun hp => n3 p hp p (by simp) rfl
  have hzl : (zpage at_ n p ys).length = 4096 := by
    unfold zpage
    split
    · exact hl
    · rw [cutIn_len (by rw [List.length_replicate, hl]; omega)]; exact hl
  refine ⟨fun a => ?_, fun q hq => ?_, fun z hz => ?_, ?_⟩
  · by_cases ha : a / 4096 = p
    · have hin : ¬ a / 4096 ∈ (T1 ++ T2).map (·.1) := by
        rw [ha, List.map_append, List.mem_append]
        rintro (hx | hx)
        · exact hp1 hx
        · exact n2.1 hx
      rw [if_neg hin]
      have hm := h.mem a
      rw [if_pos (by rw [ha]; simp)] at hm
      unfold zpage
      split
      · rw [hm]; unfold zrM; rw [if_neg (by omega)]
      · rw [← ins_split (v := (b, ys)) hn, memOf_put hlk hl (by rw [List.length_replicate]; omega)]
        unfold wrM zrM
        rw [List.length_replicate]
        by_cases hc : at_ ≤ a ∧ a < at_ + n
        · rw [if_pos hc, if_pos (by omega)]; exact rep0 _ _
        · rw [if_neg hc, if_neg (by omega), hm]
    · rw [memOf_mid hn ha, h.mem a]
      have e : a / 4096 ∈ (T1 ++ (p, b) :: T2).map (·.1) ↔ a / 4096 ∈ (T1 ++ T2).map (·.1) := by
        simp only [List.map_append, List.map_cons, List.mem_append, List.mem_cons, ha, false_or]
      by_cases hx : a / 4096 ∈ (T1 ++ T2).map (·.1)
      · rw [if_pos hx, if_pos (e.2 hx)]
      · rw [if_neg hx, if_neg (fun h => hx (e.1 h))]
  · rcases List.mem_append.1 hq with hq | hq
    · exact h.len q (by simp [hq])
    · rcases List.mem_cons.1 hq with rfl | hq
      · exact ⟨(h.len (p, b, ys) (by simp)).1, (h.len (p, b, ys) (by simp)).2.1, hzl⟩
      · exact h.len q (by simp [hq])
  · have hz' : z ∈ T1 ++ (p, b) :: T2 := by rcases List.mem_append.1 hz with hz | hz <;> simp [hz]
    have hne : z.1 ≠ p := by
      rintro rfl
      rcases List.mem_append.1 hz with hz | hz
      · exact hp1 (List.mem_map.2 ⟨z, hz, rfl⟩)
      · exact n2.1 (List.mem_map.2 ⟨z, hz, rfl⟩)
    obtain ⟨zs, hzs⟩ := h.sub z hz'
    refine ⟨zs, ?_⟩
    rcases List.mem_append.1 hzs with hx | hx
    · simp [hx]
    · rcases List.mem_cons.1 hx with hx | hx
      · exact absurd (congrArg (·.1) hx) hne
      · simp [hx]
  · rw [List.map_append, List.nodup_append]
    exact ⟨n1, n2.2, fun a ha c hc => n3 a ha c (List.mem_cons_of_mem _ hc)⟩
theorem lk_skip {M1 M2 : List (Int × Nat × List Int)} {p : Int} {v : Nat × List Int} {k : Int} (h : k ≠ p) : lk (M1 ++ (p, v) :: M2) k = lk (M1 ++ M2) k := by
  induction M1 with
  | nil => simp [lk, h]
  | cons q M1 ih => obtain ⟨a, u⟩ := q; simp only [List.cons_append, lk]; split; rfl; exact ih
theorem zinv_del {P : Int} {m : Int → Int} {at_ n p : Int} {b : Nat} {ys : List Int} {M1 M2 : List (Int × Nat × List Int)} {T1 T2 : List (Int × Nat)} (h : ZInv P m at_ n (M1 ++ (p, b, ys) :: M2) (T1 ++ (p, b) :: T2)) (hn : lk (M1 ++ M2) p = none)
    (hf : at_ ≤ p * 4096 ∧ p * 4096 + 4096 ≤ at_ + n) : ZInv P m at_ n (M1 ++ M2) (T1 ++ T2) := by
  have hnd := h.nd
  rw [List.map_append, List.map_cons, List.nodup_append] at hnd
  obtain ⟨n1, n2, n3⟩ := hnd
  rw [List.nodup_cons] at n2
  have hp1 : p ∉ T1.map (·.1) := fun hp => n3 p hp p (by simp) rfl
  refine ⟨fun a => ?_, fun q hq => h.len q (by rcases List.mem_append.1 hq with hq | hq <;> simp [hq]), fun z hz => ?_, ?_⟩
  · by_cases ha : a / 4096 = p
    · have hin : ¬ a / 4096 ∈ (T1 ++ T2).map (·.1) := by
        rw [ha, List.map_append, List.mem_append]
        rintro (hx | hx)
        · exact hp1 hx
        · exact n2.1 hx
      rw [if_neg hin]
      unfold memOf zrM
      rw [ha, hn, if_pos (by omega)]
    · have hm := h.mem a
      have e : a / 4096 ∈ (T1 ++ (p, b) :: T2).map (·.1) ↔ a / 4096 ∈ (T1 ++ T2).map (·.1) := by
        simp only [List.map_append, List.map_cons, List.mem_append, List.mem_cons, ha, false_or]
      have e2 : memOf (M1 ++ (p, b, ys) :: M2) a = memOf (M1 ++ M2) a := by unfold memOf; rw [lk_skip ha]
      rw [e2] at hm
      rw [hm]
      by_cases hx : a / 4096 ∈ (T1 ++ T2).map (·.1)
      · rw [if_pos hx, if_pos (e.2 hx)]
      · rw [if_neg hx, if_neg (fun h => hx (e.1 h))]
  · have hz' : z ∈ T1 ++ (p, b) :: T2 := by rcases List.mem_append.1 hz with hz | hz <;> simp [hz]
    have hne : z.1 ≠ p := by
      rintro rfl
      rcases List.mem_append.1 hz with hz | hz
      · exact hp1 (List.mem_map.2 ⟨z, hz, rfl⟩)
      · exact n2.1 (List.mem_map.2 ⟨z, hz, rfl⟩)
    obtain ⟨zs, hzs⟩ := h.sub z hz'
    refine ⟨zs, ?_⟩
    rcases List.mem_append.1 hzs with hx | hx
    · simp [hx]
    · rcases List.mem_cons.1 hx with hx | hx
      · exact absurd (congrArg (·.1) hx) hne
      · simp [hx]
  · rw [List.map_append, List.nodup_append]
    exact ⟨n1, n2.2, fun a ha c hc => n3 a ha c (List.mem_cons_of_mem _ hc)⟩
theorem zinv_start {P : Int} {m : Int → Int} {at_ n : Int} {M : List (Int × Nat × List Int)} (h : SpOk P m M) (hnd : (M.map (·.1)).Nodup) : ZInv P m at_ n M (M.map fun q => (q.1, q.2.1)) := by
  have e : (M.map fun q => (q.1, q.2.1)).map (·.1) = M.map (·.1) := by rw [List.map_map]; rfl
  refine ⟨fun a => ?_, h.len, fun z hz => ?_, by rw [e]; exact hnd⟩
  · rw [e, h.mem]
    split
    · rfl
    · rename_i hx
      have h0 : m a = 0 := by
        rw [← h.mem]; unfold memOf
        rw [lk_none.2 hx]
      unfold zrM
      split
      · exact h0
      · rfl
  · obtain ⟨q, hq, rfl⟩ := List.mem_map.1 hz
    exact ⟨q.2.2, hq⟩
theorem zinv_end {P : Int} {m : Int → Int} {at_ n : Int} {M : List (Int × Nat × List Int)} (h : ZInv P m at_ n M []) (hb : ∀ a, 0 ≤ m a ∧ m a ≤ 255) : SpOk P (zrM m at_ n) M :=
  ⟨funext fun a => by rw [h.mem a]; simp, h.len, fun a => by unfold zrM; split; exact ⟨Int.le_refl 0, by decide⟩; exact hb a⟩
theorem tb_app (T1 T2 : List (Int × Nat)) : tb (T1 ++ T2) = tb T1 ++ tb T2 := by simp [tb]
theorem mpi_nd {κ α : Type} {ke : κ → Value} {ve : α → Value} {b r : Nat} {l todo : List (κ × α)} : ∀ H, MpI ke ve b r l todo H → (l.map (·.1)).Nodup := fun H h => h.1
theorem pblk_keys (M : List (Int × Nat × List Int)) : (pblk M).map (·.1) = M.map (·.1) := by unfold pblk; rw [List.map_map]; rfl
theorem key_or {p : Int} (h0 : 0 ≤ p) (h1 : p < 1048576) : bitop .or .u64 (p / 65536 * 65536) (p % 65536) = p := by
  obtain ⟨k, rfl⟩ : ∃ k : Nat, p = (k : Int) := ⟨p.toNat, by omega⟩
  have h2 := bitop_or_u64 (a := k / 65536 * 65536) (b := k % 65536) (by omega) (by omega)
  have e1 : ((k / 65536 * 65536 : Nat) : Int) = (k : Int) / 65536 * 65536 := by omega
  have e2 : ((k % 65536 : Nat) : Int) = (k : Int) % 65536 := by omega
  rw [e1, e2] at h2
  rw [h2, Nat.mul_comm, show (65536 : Nat) = 2 ^ 16 from rfl, ← Nat.two_pow_add_eq_or_of_lt (Nat.mod_lt _ (by decide)), Nat.div_add_mod]
set_option maxHeartbeats 8000000
attribute [local irreducible] X XE XO XD XDi XDa PV RV DV pt base Spec Sl Mp Keeps Pgs Spc MpI MpL
theorem number_spec (p : Int) (h0 : 0 ≤ p) (h1 : p < 1048576) : Spec Tryz.prog 123 [keyV p] [] (fun v L => v = .int .u64 p ∧ L = []) := by
  refine Spec.intro (IsEnt.out) Tryz.func123 rfl Tryz.ntmps123 (by simp) (fun w0 F => ?_)
  simp only [envOf, List.zipIdx, List.map, List.cons_append, List.nil_append, Nat.zero_add, Nat.reduceAdd]
  unfold keyV
  (repeat refine Z ?_)
  refine XO_dv (dv_box (row := [.int .u16 (p / 65536), .int .u16 (p % 65536)])) (hk := ?_)
  rintro _ _ ⟨cb, rfl, rfl⟩
  (repeat refine Z ?_)
  refine XO_pv (pv_shlN (r := p / 65536 * 65536) (hw := by show IntKind.u64.wrap (p / 65536 * 65536) = _; exact wrap_u64 (by omega) (by omega))) (hk := ?_)
  (repeat refine Z ?_)
  refine XE_ret (.inl rfl) (tells_tmps rfl rfl) ⟨_, ⟨?_, rfl⟩, by exact EN⟩
  exact congrArg (Value.int .u64) (key_or h0 h1)
def zeroV (sb : Nat) (P : Int) (m : Mm) (at_ n : Int) : Value → List HP → Prop :=
  if at_ + n ≤ P * 4096 then fun v L => v = .int .i64 0 ∧ L = [Spc sb P (zzM m at_ n)] else fun v L => v = .int .i64 3 ∧ L = [Spc sb P m]
theorem Zero_spec (sb : Nat) (P : Int) (m : Mm) (at_ n : Int) (hP0 : 0 ≤ P) (hP : P ≤ 1048576) (h0 : 0 ≤ at_) (h1 : at_ ≤ 18446744073709551615) (h2 : 0 ≤ n) (h3 : n ≤ 18446744073709551615) :
    Spec Tryz.prog 66 [.pointer (some ⟨sb, 0, none⟩), .int .u64 at_, .int .u64 n] [Spc sb P m] (zeroV sb P m at_ n) := by
  refine Spec.intro (IsEnt.out) Tryz.func66 rfl Tryz.ntmps66 (by simp) (fun w0 F => ?_)
  simp only [envOf, List.zipIdx, List.map, List.cons_append, List.nil_append, Nat.zero_add, Nat.reduceAdd]
  (repeat refine Z ?_)
  refine XO_call (fits_spec sb P m at_ n n hP0 hP h0 h1 h2 (by omega)) (hk := ?_)
  rintro _ _ ⟨rfl, rfl⟩
  have hfi : fitsI P at_ n n = if at_ + n ≤ P * 4096 then 0 else 3 := by unfold fitsI; split <;> simp
  rw [hfi]
  unfold zeroV
  by_cases hf : at_ + n ≤ P * 4096
  case neg =>
    simp only [if_neg hf]
    (repeat refine Z ?_)
    refine X_cond rfl (fun _ => ?_) (fun h => by cases h)
    (repeat refine Z ?_)
    refine XE_ret (.inl rfl) (tells_tmps rfl rfl) ⟨_, ⟨rfl, rfl⟩, by exact EN⟩
  simp only [if_pos hf]
  (repeat refine Z ?_)
  refine X_cond rfl (fun h => by cases h) (fun _ => ?_)
  refine X_open .here Spc.open ?_
  rintro ⟨mb, M⟩ hM
  dsimp only [List.cons_append, List.nil_append] at hM ⊢
  (repeat refine Z ?_)
  (repeat refine ZD ?_)
  refine XD_one (h := ?_)
  refine XDa_dvA (dv_call (touched_spec at_ n h0 h2 (by omega))) (hk := ?_)
  (rintro _ _ ⟨_, ⟨rfl, rfl⟩, rfl⟩; refine ⟨by exact KP, ?_⟩)
  (repeat refine ZD ?_)
  refine XD_one (h := ?_)
  refine XDa_dvk0 dv_store (K := _) (hk := ?_)
  rintro _ _ rfl
  refine ⟨by exact KP, ?_⟩
  (refine XD_end (h := ?_); (repeat refine Z ?_))
  refine XO_fact (A := Mp keyV pgV mb (pblk M)) (by exact FDs) Mp.nodup (fun hnd => ?_)
  rw [pblk_keys] at hnd
  refine XO_dv (dv_range (ke := keyV) (ve := pgV) (l := pblk M)) (hk := ?_)
  rintro _ _ ⟨r, rfl, rfl⟩
  (repeat refine Z ?_)
  have hZ0 := zinv_start (at_ := at_) (n := n) hM hnd
  have htb : tb (M.map fun q => (q.1, q.2.1)) = pblk M := by simp [tb, pblk]
  refine X_loop (ι := List (Int × Nat × List Int) × List (Int × Nat)) (fun q => ZInv P m.f at_ n q.1 q.2) (fun q => [(0, .pointer (some ⟨sb, 0, none⟩)), (1, .int .u64 at_), (2, .int .u64 n), (35, .pointer (some ⟨r, 0, none⟩))])
    (fun q => MpI keyV pgV mb r (pblk q.1) (tb q.2) :: pt sb (.cells [.int .i64 P, .map (some mb), .int .i64 (IntKind.i64.wrap (m.t + touchI at_ n))].toArray 188 (0, 0)) :: Pgs q.1 :: F) (fun q => q.2.length) (M, M.map fun q => (q.1, q.2.1)) hZ0 ?_ (by dsimp only; rw [htb]; exact EN) ?_
  · exact SBs
  rintro ⟨M', T⟩ hZ
  dsimp only at hZ ⊢
  (repeat refine Z ?_)
  refine XO_fact (A := MpI keyV pgV mb r (pblk M') (tb T)) (by exact FDs) mpi_nd (fun hnd' => ?_)
  rw [pblk_keys] at hnd'
  refine XO_dv (dv_nextL (ke := keyV) (ve := pgV) (l := pblk M') (todo := tb T)) (hk := ?_)
  rintro _ _ (⟨rfl, hT0, rfl⟩ | ⟨t1, z, t2, ht, rfl, rfl⟩)
  · refine XO_conv (fun _ => SL.head MpI.done) ?_
    have hT : T = [] := by cases T with
      | nil => rfl
      | cons => simp [tb] at hT0
    subst hT
    (repeat refine Z ?_)
    refine X_cond rfl (fun h => by cases h) (fun _ => ?_)
    (repeat refine Z ?_)
    refine XE_fold (by exact FAs) (Spc.fold (zinv_end hZ hM.byt)) ?_
    refine XE_ret (.inl rfl) (tells_tmps rfl rfl) ⟨_, ⟨rfl, rfl⟩, by exact EN⟩
  · obtain ⟨T1, z', T2, hTz, ht1, hz, ht2⟩ : ∃ T1 z' T2, T = T1 ++ z' :: T2 ∧ t1 = tb T1 ∧ z = (z'.1, some z'.2) ∧ t2 = tb T2 := by
      unfold tb at ht
      obtain ⟨T1, T3, h1, h2, h3⟩ := List.map_eq_append_iff.1 ht
      obtain ⟨z', T2, h4, h5, h6⟩ := List.map_eq_cons_iff.1 h3
      exact ⟨T1, z', T2, by rw [h1, h4], h2.symm, h5.symm, h6.symm⟩
    subst hTz ht1 hz ht2
    obtain ⟨p, b⟩ := z'
    obtain ⟨ys, hys⟩ := hZ.sub (p, b) (by simp)
    obtain ⟨M1, M2, rfl⟩ := List.append_of_mem hys
    have hn : lk M1 p = none := by
      rw [List.map_append, List.map_cons, List.nodup_append] at hnd'
      exact lk_none.2 fun hp => hnd'.2.2 p hp p (by simp) rfl
    obtain ⟨hp0, hp1, hyl⟩ := hZ.len (p, b, ys) (by simp)
    have hZ' := zinv_step hZ hn
    simp only at hp0 hp1 hyl
    (repeat refine Z ?_)
    refine X_cond rfl (fun _ => ?_) (fun h => by cases h)
    (repeat refine Z ?_)
    refine XO_rv (rv_entry (ke := keyV) (ve := pgV)) (hk := ?_)
    refine XO_conv (L' := MpI keyV pgV mb r (pblk (M1 ++ (p, b, ys) :: M2)) (tb T1 ++ tb T2) :: _) (fun _ => SL.head MpL.on) ?_
    (repeat refine Z ?_)
    refine XO_dv (dv_alloc (row := [.int .u16 0, .int .u16 0])) (hk := ?_)
    rintro _ _ ⟨cb, rfl, rfl⟩
    refine XO_dv0 (dv_storeW (vs := [.int .u16 (p / 65536), .int .u16 (p % 65536)])) (hk := ?_)
    rintro _ _ rfl
    (repeat refine Z ?_)
    refine XO_call (number_spec p hp0 (by omega)) (hk := ?_)
    rintro _ _ ⟨rfl, rfl⟩
    (repeat refine Z ?_)
    have hle : (T1 ++ T2).length < (T1 ++ (p, b) :: T2).length := by simp
    refine X_cond rfl (fun h4 => ?_) (fun h4 => ?_) <;> simp only [decide_eq_true_eq, decide_eq_false_iff_not] at h4
    · (repeat refine Z ?_)
      have e : zpage at_ n p ys = ys := by unfold zpage; rw [if_pos h4]
      rw [e] at hZ'
      exact X_round (M1 ++ (p, b, ys) :: M2, T1 ++ T2) hZ' hle (by exact SBs) (by dsimp only; rw [tb_app]; exact EN)
    · (repeat refine Z ?_)
      refine X_cond rfl (fun h5 => ?_) (fun h5 => ?_)
      · simp only [beq_iff_eq] at h5
        have hn2 : lk (M1 ++ M2) p = none := by
          rw [List.map_append, List.map_cons, List.nodup_append, List.nodup_cons] at hnd'
          refine lk_none.2 fun hp => ?_
          rw [List.map_append, List.mem_append] at hp
          rcases hp with hp | hp
          · exact hnd'.2.2 p hp p (by simp) rfl
          · exact hnd'.2.1.1 hp
        have hZd := zinv_del hZ hn2 (by omega)
        have hnt : p ∉ (tb T1 ++ tb T2).map (·.1) := by
          have h6 := hZ.nd
          rw [List.map_append, List.map_cons, List.nodup_append, List.nodup_cons] at h6
          have e : ∀ T : List (Int × Nat), (tb T).map (·.1) = T.map (·.1) := fun T => by simp [tb]
          rw [List.map_append, e, e, List.mem_append]
          rintro (hp | hp)
          · exact h6.2.2 p hp p (by simp) rfl
          · exact h6.2.1.1 hp
        (repeat refine Z ?_)
        (repeat refine ZD ?_)
        refine XD_one (h := ?_)
        refine XDa_dvk0 (dv_deleteI (ke := keyV) (ve := pgV) p (ht := tk_page) (hnt := hnt)) (K := _) (hk := ?_)
        rintro _ _ rfl
        refine ⟨by exact KP, ?_⟩
        (refine XD_end (h := ?_); (repeat refine Z ?_))
        have hdl : del (pblk (M1 ++ (p, b, ys) :: M2)) p = pblk (M1 ++ M2) := by
          unfold pblk
          rw [List.map_append, List.map_cons, List.map_append]
          exact del_split (by rw [lk_map (fun q : Nat × List Int => some q.1) p M1, hn]; rfl)
        rw [hdl]
        refine XE_open (A := Pgs (M1 ++ (p, b, ys) :: M2)) (by exact FDs) Pgs.out ?_
        rintro ⟨⟩ -
        dsimp only [List.cons_append, List.nil_append]
        exact X_round (M1 ++ M2, T1 ++ T2) hZd hle (by exact SBs) (by dsimp only; rw [tb_app]; exact EN)
      refine X_open (A := Pgs (M1 ++ (p, b, ys) :: M2)) (by exact FDs) Pgs.out ?_
      rintro ⟨⟩ -
      dsimp only [List.cons_append, List.nil_append]
      (repeat refine Z ?_)
      refine XO_pv pv_sliceArrLH (hk := ?_)
      obtain ⟨lo, hlo⟩ : ∃ lo, lo = (max at_ (p * 4096) - p * 4096).toNat := ⟨_, rfl⟩
      obtain ⟨w, hw⟩ : ∃ w, w = (min (at_ + n) (p * 4096 + 4096) - max at_ (p * 4096)).toNat := ⟨_, rfl⟩
      have hfit : lo + w ≤ ys.length := by omega
      refine XO_dv0 (dv_clearAt (kk := .u8) (b := b) (o := 0) (i := lo) (m := w) (c2 := 4096 - lo) (c := 4096) (xs := ys)
        (hx := by
          show some (Value.slice (subA (some ⟨b, 0, none⟩) (max at_ (p * 4096) - p * 4096).toNat 4096 1) ((min (at_ + n) (p * 4096 + 4096) - p * 4096).toNat - (max at_ (p * 4096) - p * 4096).toNat) (4096 - (max at_ (p * 4096) - p * 4096).toNat)) = _
          rw [subA_lt (by omega), ← hlo, show (min (at_ + n) (p * 4096 + 4096) - p * 4096).toNat - lo = w from by omega, Nat.mul_one]) (hm := hfit)) (hk := ?_)
      rintro _ _ rfl
      (repeat refine Z ?_)
      have e : zpage at_ n p ys = ys.take lo ++ (List.replicate w 0 ++ ys.drop (lo + w)) := by
        unfold zpage cutIn
        rw [if_neg h4, List.length_replicate, ← hlo, ← hw]
      rw [e] at hZ'
      refine XE_fold (by exact FAs) (Pgs.back (p := p) (b := b) (xs := ys.take lo ++ (List.replicate w 0 ++ ys.drop (lo + w))) (M1 := M1) (M2 := M2)) ?_
      rw [show pblk (M1 ++ (p, b, ys) :: M2) = pblk (M1 ++ (p, b, ys.take lo ++ (List.replicate w 0 ++ ys.drop (lo + w))) :: M2) from by simp [pblk]]
      exact X_round (M1 ++ (p, b, ys.take lo ++ (List.replicate w 0 ++ ys.drop (lo + w))) :: M2, T1 ++ T2) hZ' hle (by exact SBs) (by dsimp only; rw [tb_app]; exact EN)
end Go.Proofs.YtamecmklcnohjaaGreat.Sep
namespace Go.Proofs.YtamecmklcnohjaaGreat.Sep
open Go.RowKit
set_option linter.unusedSimpArgs false
set_option linter.unusedVariables false
def clearV (sb : Nat) (P : Int) (m : Mm) (page : Int) : Value → List HP → Prop :=
  if (readI P m.f page).2 = 0 then fun v L => v = .int .i64 0 ∧ L = [Spc sb P (zzM (hrM P m page) (page * 4096) 32)] else fun v L => v = .int .i64 (readI P m.f page).2 ∧ L = [Spc sb P (hrM P m page)]
theorem readI_in {P : Int} {m : Int → Int} {page : Int} (h : (readI P m page).2 = 0) : 0 ≤ page ∧ page < P := by
  by_cases hin : 0 ≤ page ∧ page < P
  · exact hin
  · unfold readI at h
    rw [if_neg hin] at h
    exact absurd h (by decide)
set_option maxHeartbeats 8000000
attribute [local irreducible] X XE XO XD XDi XDa PV RV DV pt base Spec Sl Mp Keeps Pgs Spc
theorem hclear_spec (sb : Nat) (P : Int) (m : Mm) (page : Int) (h0 : 0 ≤ P) (h1 : P ≤ 1048576) : Spec Tryz.prog 191 [.pointer (some ⟨sb, 0, none⟩), .int .i64 page] [Spc sb P m] (clearV sb P m page) := by
  refine Spec.intro (IsEnt.out) Tryz.func191 rfl Tryz.ntmps191 (by simp) (fun w0 F => ?_)
  simp only [envOf, List.zipIdx, List.map, List.cons_append, List.nil_append, Nat.zero_add, Nat.reduceAdd]
  (repeat refine Z ?_)
  refine XO_call (hread_spec sb P m page h0 h1) (hk := ?_)
  rintro _ _ ⟨rfl, rfl⟩
  (repeat refine Z ?_)
  refine XO_dv (dv_alloc (row := [.int .i64 0, .int .i64 0, .int .u64 0, .int .u64 0])) (hk := ?_)
  rintro _ _ ⟨hb, rfl, rfl⟩
  refine XO_dv0 (dv_storeW (vs := [.int .i64 (readI P m.f page).1.pages, .int .i64 (readI P m.f page).1.kind, .int .u64 (readI P m.f page).1.owner, .int .u64 (readI P m.f page).1.next])) (hk := ?_)
  rintro _ _ rfl
  (repeat refine Z ?_)
  unfold clearV
  by_cases hz : (readI P m.f page).2 = 0
  · obtain ⟨p0, p1⟩ := readI_in hz
    rw [if_pos hz, hz]
    refine X_cond rfl (fun h => by cases h) (fun _ => ?_)
    (repeat refine Z ?_)
    refine XO_call (hat_spec sb P (hrM P m page) page h0 h1) (hk := ?_)
    rintro _ _ ⟨rfl, rfl⟩
    rw [show hatI P page = page * 4096 from by unfold hatI; rw [if_pos ⟨p0, p1⟩]]
    (repeat refine Z ?_)
    refine XO_call (Zero_spec sb P (hrM P m page) (page * 4096) 32 h0 h1 (by omega) (by omega) (by omega) (by omega)) (hk := ?_)
    unfold zeroV
    rw [if_pos (show page * 4096 + 32 ≤ P * 4096 by omega)]
    rintro _ _ ⟨rfl, rfl⟩
    (repeat refine Z ?_)
    refine XE_ret (.inl rfl) (tells_tmps rfl rfl) ⟨_, ⟨rfl, rfl⟩, by exact EN⟩
  · rw [if_neg hz]
    refine X_cond rfl (fun _ => ?_) (fun h => ?_)
    · (repeat refine Z ?_)
      refine XE_ret (.inl rfl) (tells_tmps rfl rfl) ⟨_, ⟨rfl, rfl⟩, by exact EN⟩
    · exact absurd (by simpa using h) hz
def eSl : E (Option Addr × Nat × Nat) := ⟨1, false, fun x => [.slice x.1 x.2.1 x.2.2], fun _ => rfl, fun _ _ h => by simp at h; subst h; rfl, by decide, fun _ => rfl⟩
end Go.Proofs.YtamecmklcnohjaaGreat.Sep
namespace Go.Proofs.YtamecmklcnohjaaGreat.Sep
open Go.RowKit
set_option linter.unusedSimpArgs false
set_option linter.unusedVariables false
set_option maxHeartbeats 8000000
attribute [local irreducible] X XE XO XD XDi XDa PV RV DV pt base Spec Sl Mp Keeps

def eRun : E (Int × Int) := ⟨2, true, fun p => [.int .i64 p.1, .int .i64 p.2], fun _ => rfl, fun _ _ h => by simp at h; rcases h with rfl | rfl <;> rfl, by decide, fun h => by cases h⟩
def Bd (xs : List (Int × Int)) : Prop := ∀ r ∈ xs, 0 ≤ r.1 ∧ 0 ≤ r.2 ∧ r.1 + r.2 ≤ 1048576
def less (xs : List (Int × Int)) (i : Nat) : Option Nat → Bool
  | none => true
  | some j => decide ((xs.getD i (0, 0)).2 < (xs.getD j (0, 0)).2)
def bestU (xs : List (Int × Int)) (n : Int) : Nat → Option Nat
  | 0 => none
  | i + 1 => if 0 < n ∧ n ≤ (xs.getD i (0, 0)).2 ∧ less xs i (bestU xs n i) = true then some i else bestU xs n i
def optI : Option Nat → Int
  | none => -1
  | some i => i
theorem bestU_lt {xs : List (Int × Int)} {n : Int} : ∀ {i j : Nat}, bestU xs n i = some j → j < i
  | 0, j, h => by cases h
  | i + 1, j, h => by
    unfold bestU at h
    split at h
    · cases h; omega
    · have := bestU_lt h; omega
theorem end_spec (p n : Int) (h1 : 0 ≤ p) (h2 : 0 ≤ n) (h3 : p + n ≤ 4611686018427387904) : Spec Tryz.prog 170 [.agg #[.int .i64 p, .int .i64 n]] [] (fun v L => v = .int .i64 (p + n) ∧ L = []) := by
  refine Spec.intro (IsEnt.out) Tryz.func170 rfl Tryz.ntmps170 (by simp) (fun w0 F => ?_)
  simp only [envOf, List.zipIdx, List.map, List.cons_append, List.nil_append, Nat.zero_add, Nat.reduceAdd]
  (repeat refine Z ?_)
  refine XO_dv dv_box (hk := ?_)
  rintro _ _ ⟨b1, rfl, rfl⟩
  (repeat refine Z ?_)
  refine XE_ret (.inl rfl) (tells_tmps rfl rfl) ⟨_, ⟨rfl, rfl⟩, by exact EN⟩
theorem best_spec (A : HP) (a : Option Addr) (c : Nat) (xs : List (Int × Int)) (n : Int) (hV : View A eRun a xs) (hl : xs.length ≤ 4611686018427387904) :
    Spec Tryz.prog 189 [.slice a xs.length c, .int .i64 n] [A] (fun v L => v = .int .i64 (optI (bestU xs n xs.length)) ∧ L = [A]) := by
  refine Spec.intro (IsEnt.out) Tryz.func189 rfl Tryz.ntmps189 (by simp) (fun w0 F => ?_)
  simp only [envOf, List.zipIdx, List.map, List.cons_append, List.nil_append, Nat.zero_add, Nat.reduceAdd]
  (repeat refine Z ?_)
  refine X_loop (ι := Nat) (fun k => k ≤ xs.length) (fun k => [(0, .slice a xs.length c), (1, .int .i64 n), (8, .slice a xs.length c), (9, .int .i64 (xs.length : Int)), (10, .int .i64 k), (5, .int .i64 (optI (bestU xs n k)))]) (fun _ => A :: F) (fun k => xs.length - k) 0 (Nat.zero_le _) ?_ (by exact EN) ?_
  · exact SBs
  intro k hk
  dsimp only at hk ⊢
  (repeat refine Z ?_)
  refine X_cond rfl (fun hc => ?_) (fun hc => ?_) <;> simp only [decide_eq_true_eq, decide_eq_false_iff_not] at hc
  · have hkl : k < xs.length := by omega
    refine X_view .here hV (by omega) ?_
    rintro b o rfl
    (repeat refine Z ?_)
    refine XO_rv (rv_vel (i := k) (hV := hV)) (hk := ?_)
    (repeat refine Z ?_)
    refine XO_dv dv_alloc (hk := ?_)
    rintro _ _ ⟨cb, rfl, rfl⟩
    (repeat refine Z ?_)
    refine XO_dv0 dv_storeW (hk := ?_)
    rintro _ _ rfl
    (repeat refine Z ?_)
    have hgk : xs.getD k (0, 0) = xs[k] := by simp [List.getD, hkl]
    (repeat refine ZD ?_)
    refine XDi_either (hT := fun h => ?_) (hF := fun h => ?_) <;> simp only [decide_eq_true_eq, decide_eq_false_iff_not] at h
    · (repeat refine ZD ?_)
      refine XDi_either (hT := fun h2 => ?_) (hF := fun h2 => ?_) <;> simp only [decide_eq_true_eq, decide_eq_false_iff_not] at h2
      · cases hb : bestU xs n k with
        | none =>
          have hb1 : bestU xs n (k + 1) = some k := by unfold bestU; rw [if_pos ⟨h, by rw [hgk]; exact h2, by rw [hb]; rfl⟩]
          (repeat refine ZD ?_)
          refine XD_end (h := ?_)
          (repeat refine Z ?_)
          refine X_cond rfl (fun _ => ?_) (fun h => by cases h)
          (repeat refine Z ?_)
          refine X_round (k + 1) (by show k + 1 ≤ _; omega) (by show xs.length - (k + 1) < xs.length - k; omega) (by rw [hb1]; exact SBs) (by exact EN)
        | some j =>
          have hj := bestU_lt hb
          have hjl : j < xs.length := by omega
          have hgj : xs.getD j (0, 0) = xs[j] := by simp [List.getD, hjl]
          (repeat refine ZD ?_)
          refine XDi_known false (hb := decide_eq_false (by show ¬ (j : Int) < 0; omega)) (hT := ?_)
          (repeat refine ZD ?_)
          refine XDi_pvA (pv_index (iv := j)) (h := ?_)
          (repeat refine ZD ?_)
          refine XDi_rvA (rv_velf (i := j) (f := 1) (hV := hV)) (h := ?_)
          (repeat refine ZD ?_)
          refine XD_end (h := ?_)
          (repeat refine Z ?_)
          refine X_cond rfl (fun h3 => ?_) (fun h3 => ?_) <;> simp only [decide_eq_true_eq, decide_eq_false_iff_not] at h3
          · have hb1 : bestU xs n (k + 1) = some k := by unfold bestU; rw [if_pos ⟨h, by rw [hgk]; exact h2, by rw [hb]; show decide _ = true; rw [hgk, hgj]; exact decide_eq_true h3⟩]
            (repeat refine Z ?_)
            refine X_round (k + 1) (by show k + 1 ≤ _; omega) (by show xs.length - (k + 1) < xs.length - k; omega) (by rw [hb1]; exact SBs) (by exact EN)
          · have hb1 : bestU xs n (k + 1) = some j := by rw [bestU, if_neg (fun h' => h3 (by have := h'.2.2; rw [hb] at this; have this : decide ((xs.getD k (0, 0)).2 < (xs.getD j (0, 0)).2) = true := this; rw [hgk, hgj] at this; exact of_decide_eq_true this)), hb]
            (repeat refine Z ?_)
            refine X_round (k + 1) (by show k + 1 ≤ _; omega) (by show xs.length - (k + 1) < xs.length - k; omega) (by rw [hb1]; exact SBs) (by exact EN)
      · have hb1 : bestU xs n (k + 1) = bestU xs n k := by rw [bestU, if_neg (fun h' => h2 (by rw [← hgk]; exact h'.2.1))]
        (repeat refine ZD ?_)
        refine XD_end (h := ?_)
        (repeat refine Z ?_)
        refine X_cond rfl (fun h => by cases h) (fun _ => ?_)
        (repeat refine Z ?_)
        refine X_round (k + 1) (by show k + 1 ≤ _; omega) (by show xs.length - (k + 1) < xs.length - k; omega) (by rw [hb1]; exact SBs) (by exact EN)
    · have hb1 : bestU xs n (k + 1) = bestU xs n k := by rw [bestU, if_neg (fun h' => h h'.1)]
      (repeat refine ZD ?_)
      refine XD_end (h := ?_)
      (repeat refine Z ?_)
      refine X_cond rfl (fun h => by cases h) (fun _ => ?_)
      (repeat refine Z ?_)
      refine X_round (k + 1) (by show k + 1 ≤ _; omega) (by show xs.length - (k + 1) < xs.length - k; omega) (by rw [hb1]; exact SBs) (by exact EN)
  · obtain rfl : k = xs.length := by omega
    (repeat refine Z ?_)
    refine XE_ret (.inl rfl) (tells_tmps rfl rfl) ⟨_, ⟨rfl, rfl⟩, by exact EN⟩
def afterI (xs : List (Int × Int)) (p : Int) : Nat := xs.findIdx (fun r => decide (p ≤ r.1 + r.2))
theorem after_spec (A : HP) (a : Option Addr) (c : Nat) (xs : List (Int × Int)) (p : Int) (hV : View A eRun a xs) (hl : xs.length ≤ 4611686018427387904) (hB : Bd xs) :
    Spec Tryz.prog 169 [.slice a xs.length c, .int .i64 p] [A] (fun v L => v = .int .i64 (afterI xs p : Int) ∧ L = [A]) := by
  refine Spec.intro (IsEnt.out) Tryz.func169 rfl Tryz.ntmps169 (by simp) (fun w0 F => ?_)
  simp only [envOf, List.zipIdx, List.map, List.cons_append, List.nil_append, Nat.zero_add, Nat.reduceAdd]
  (repeat refine Z ?_)
  refine X_loop (ι := Nat) (fun k => k ≤ xs.length ∧ ∀ j (hj : j < xs.length), j < k → xs[j].1 + xs[j].2 < p) (fun k => [(0, .slice a xs.length c), (1, .int .i64 p), (7, .slice a xs.length c), (8, .int .i64 (xs.length : Int)), (9, .int .i64 k)]) (fun _ => A :: F) (fun k => xs.length - k) 0 ⟨Nat.zero_le _, fun _ _ h => by omega⟩ ?_ (by exact EN) ?_
  · exact SBs
  rintro k ⟨hk, hall⟩
  dsimp only at hk hall ⊢
  (repeat refine Z ?_)
  refine X_cond rfl (fun hc => ?_) (fun hc => ?_) <;> simp only [decide_eq_true_eq, decide_eq_false_iff_not] at hc
  · have hkl : k < xs.length := by omega
    refine X_view .here hV (by omega) ?_
    rintro b o rfl
    obtain ⟨g1, g2, g3⟩ := hB xs[k] (List.getElem_mem hkl)
    (repeat refine Z ?_)
    refine XO_rv (rv_vel (i := k) (hV := hV)) (hk := ?_)
    (repeat refine Z ?_)
    refine XO_dv dv_alloc (hk := ?_)
    rintro _ _ ⟨cb, rfl, rfl⟩
    (repeat refine Z ?_)
    refine XO_dv0 dv_storeW (hk := ?_)
    rintro _ _ rfl
    (repeat refine Z ?_)
    refine XO_call (end_spec xs[k].1 xs[k].2 g1 g2 (by omega)) (hk := ?_)
    rintro _ _ ⟨rfl, rfl⟩
    (repeat refine Z ?_)
    refine X_cond rfl (fun h3 => ?_) (fun h3 => ?_) <;> simp only [decide_eq_true_eq, decide_eq_false_iff_not] at h3
    · have he : afterI xs p = k := by
        unfold afterI
        refine (List.findIdx_eq hkl).2 ⟨by simpa using h3, fun j hj => ?_⟩
        have := hall j (by omega) hj
        simp; omega
      (repeat refine Z ?_)
      refine XE_ret (.inl rfl) (tells_tmps rfl rfl) ⟨_, ⟨?_, rfl⟩, by exact EN⟩
      rw [he]; rfl
    · (repeat refine Z ?_)
      refine X_round (k + 1) ⟨by omega, fun j hj hlt => ?_⟩ (by show xs.length - (k + 1) < xs.length - k; omega) (by exact SBs) (by exact EN)
      rcases Nat.lt_or_ge j k with h | h
      · exact hall j hj h
      · obtain rfl : j = k := by omega
        omega
  · obtain rfl : k = xs.length := by omega
    have he : afterI xs p = xs.length := by
      unfold afterI
      rw [List.findIdx_eq_length]
      intro x hx
      obtain ⟨j, hj, rfl⟩ := List.getElem_of_mem hx
      have := hall j hj hj
      simp; omega
    (repeat refine Z ?_)
    rw [← he]
    refine XE_ret (.inl rfl) (tells_tmps rfl rfl) ⟨_, ⟨rfl, rfl⟩, by exact EN⟩
def totI (xs : List (Int × Int)) : Int := (xs.map (·.2)).sum
theorem total_spec (A : HP) (a : Option Addr) (c : Nat) (xs : List (Int × Int)) (hV : View A eRun a xs) (hl : xs.length ≤ 1048576) (hB : Bd xs) :
    Spec Tryz.prog 134 [.slice a xs.length c] [A] (fun v L => v = .int .i64 (totI xs) ∧ L = [A]) := by
  refine Spec.intro (IsEnt.out) Tryz.func134 rfl Tryz.ntmps134 (by simp) (fun w0 F => ?_)
  simp only [envOf, List.zipIdx, List.map, List.cons_append, List.nil_append, Nat.zero_add, Nat.reduceAdd]
  (repeat refine Z ?_)
  refine X_loop (ι := Nat) (fun k => k ≤ xs.length) (fun k => [(0, .slice a xs.length c), (6, .slice a xs.length c), (7, .int .i64 (xs.length : Int)), (8, .int .i64 k), (3, .int .i64 (totI (xs.take k)))]) (fun _ => A :: F) (fun k => xs.length - k) 0 (Nat.zero_le _) ?_ (by exact EN) ?_
  · exact SBs
  intro k hk
  dsimp only at hk ⊢
  (repeat refine Z ?_)
  refine X_cond rfl (fun hc => ?_) (fun hc => ?_) <;> simp only [decide_eq_true_eq, decide_eq_false_iff_not] at hc
  · have hkl : k < xs.length := by omega
    refine X_view .here hV (by omega) ?_
    rintro b o rfl
    obtain ⟨g1, g2, g3⟩ := hB xs[k] (List.getElem_mem hkl)
    have hs : totI (xs.take (k + 1)) = totI (xs.take k) + xs[k].2 := by
      unfold totI
      rw [List.take_succ_eq_append_getElem hkl, List.map_append, List.sum_append]; simp
    have hb : ∀ l : List (Int × Int), (∀ r ∈ l, 0 ≤ r.1 ∧ 0 ≤ r.2 ∧ r.1 + r.2 ≤ 1048576) → 0 ≤ totI l ∧ totI l ≤ 1048576 * l.length := by
      intro l
      induction l with
      | nil => intro _; simp [totI]
      | cons r l ih =>
        intro h
        have h1 := h r (by simp)
        have h2 := ih (fun q hq => h q (by simp [hq]))
        have : totI (r :: l) = r.2 + totI l := by simp [totI]
        rw [this]; simp; omega
    have hb1 := hb (xs.take k) (fun r hr => hB r (List.mem_of_mem_take hr))
    have hlk : ((xs.take k).length : Int) ≤ 1048576 := by simp; omega
    (repeat refine Z ?_)
    refine XO_rv (rv_vel (i := k) (hV := hV)) (hk := ?_)
    (repeat refine Z ?_)
    refine XO_dv dv_alloc (hk := ?_)
    rintro _ _ ⟨cb, rfl, rfl⟩
    (repeat refine Z ?_)
    refine XO_dv0 dv_storeW (hk := ?_)
    rintro _ _ rfl
    (repeat refine Z ?_)
    refine X_round (k + 1) (by show k + 1 ≤ _; omega) (by show xs.length - (k + 1) < xs.length - k; omega) (by rw [hs]; exact SBs) (by exact EN)
  · obtain rfl : k = xs.length := by omega
    rw [List.take_length]
    (repeat refine Z ?_)
    refine XE_ret (.inl rfl) (tells_tmps rfl rfl) ⟨_, ⟨rfl, rfl⟩, by exact EN⟩
end Go.Proofs.YtamecmklcnohjaaGreat.Sep
namespace Go.Proofs.YtamecmklcnohjaaGreat.Sep
open Go.RowKit
set_option linter.unusedSimpArgs false
set_option linter.unusedVariables false
set_option maxHeartbeats 8000000
attribute [local irreducible] X XE XO XD XDi XDa PV RV DV pt base Spec Sl Mp Keeps

def hasB (p n : Int) (r : Int × Int) : Bool := decide (0 < n ∧ (p < 0 ∧ r.1 < p + n ∨ 0 ≤ p ∧ r.1 - p < n) ∧ p < r.1 + r.2)
theorem has1_spec (b1 b2 : Nat) (p n : Int) (r : Int × Int) (h1 : 0 ≤ p) (h2 : p ≤ 1048576) (g1 : 0 ≤ r.1) (g2 : 0 ≤ r.2) (g3 : r.1 + r.2 ≤ 1048576) : Spec Tryz.prog 193 [eRun.val r, .pointer (some ⟨b1, 0, none⟩), .pointer (some ⟨b2, 0, none⟩)] [pt b1 (.cells [.int .i64 p].toArray 3 (0, 0)), pt b2 (.cells [.int .i64 n].toArray 3 (0, 0))]
    (fun v L => v = .bool (hasB p n r) ∧ L = [pt b1 (.cells [.int .i64 p].toArray 3 (0, 0)), pt b2 (.cells [.int .i64 n].toArray 3 (0, 0))]) := by
  refine Spec.intro (IsEnt.out) Tryz.func193 rfl Tryz.ntmps193 (by simp) (fun w0 F => ?_)
  simp only [envOf, List.zipIdx, List.map, List.cons_append, List.nil_append, Nat.zero_add, Nat.reduceAdd]
  (repeat refine Z ?_)
  refine XO_dv (dv_box (row := eRun.cells r)) (hk := ?_)
  rintro _ _ ⟨b3, rfl, rfl⟩
  (repeat refine Z ?_)
  refine XO_known false (hb := decide_eq_false (by omega)) (hk := ?_)
  (repeat refine Z ?_)
  refine XO_known true (hb := decide_eq_true (by omega)) (hk := ?_)
  (repeat refine Z ?_)
  have hd1 : (0 ≤ p) := h1
  (repeat refine ZD ?_)
  refine XDi_either (hT := fun h => ?_) (hF := fun h => ?_) <;> simp only [decide_eq_true_eq, decide_eq_false_iff_not] at h
  · (repeat refine ZD ?_)
    refine XDi_either (hT := fun h4 => ?_) (hF := fun h4 => ?_) <;> simp only [decide_eq_true_eq, decide_eq_false_iff_not] at h4
    · (repeat refine ZD ?_)
      refine XD_one (h := ?_)
      refine XDa_dvA (dv_call (end_spec r.1 r.2 g1 g2 (by omega))) (hk := ?_)
      (rintro _ _ ⟨_, ⟨rfl, rfl⟩, rfl⟩; refine ⟨by exact KP, ?_⟩)
      (repeat refine ZD ?_)
      (refine XD_one (h := ?_); refine XDa_dvA (dv_of_rv (rv_of_pv pv_assign)) (hk := ?_); rintro _ _ ⟨rfl, rfl⟩; refine ⟨by exact KP, ?_⟩)
      (refine XD_end (h := ?_); (repeat refine Z ?_))
      refine XE_ret (.inl rfl) (tells_tmps rfl rfl) ⟨_, ⟨?_, rfl⟩, by exact EN⟩
      show Value.bool _ = _
      congr 1
      unfold hasB
      rw [decide_eq_decide]
      exact ⟨fun h' => ⟨h, .inr ⟨h1, h4⟩, h'⟩, fun h' => h'.2.2⟩
    · (repeat refine ZD ?_)
      (refine XD_head (h := ?_); first | refine XDi_gF (h := ?_) | refine XDi_gU (h := ?_))
      (repeat refine ZD ?_)
      (refine XD_one (h := ?_); refine XDa_dvA (dv_of_rv (rv_of_pv pv_assign)) (hk := ?_); rintro _ _ ⟨rfl, rfl⟩; refine ⟨by exact KP, ?_⟩)
      (refine XD_end (h := ?_); (repeat refine Z ?_))
      refine XE_ret (.inl rfl) (tells_tmps rfl rfl) ⟨_, ⟨?_, rfl⟩, by exact EN⟩
      show Value.bool _ = _
      congr 1
      unfold hasB
      rw [eq_comm, decide_eq_false_iff_not]
      rintro ⟨_, h', _⟩
      omega
  · (repeat refine ZD ?_)
    (refine XD_head (h := ?_); first | refine XDi_gF (h := ?_) | refine XDi_gU (h := ?_))
    (repeat refine ZD ?_)
    (refine XD_one (h := ?_); refine XDa_dvA (dv_of_rv (rv_of_pv pv_assign)) (hk := ?_); rintro _ _ ⟨rfl, rfl⟩; refine ⟨by exact KP, ?_⟩)
    (refine XD_end (h := ?_); (repeat refine Z ?_))
    refine XE_ret (.inl rfl) (tells_tmps rfl rfl) ⟨_, ⟨?_, rfl⟩, by exact EN⟩
    show Value.bool _ = _
    congr 1
    unfold hasB
    rw [eq_comm, decide_eq_false_iff_not]
    exact fun h' => h h'.1
theorem index_spec (A B1 B2 : HP) (a : Option Addr) (c : Nat) (xs : List (Int × Int)) (fn : FuncId) (c1 c2 : Value) (q : Int × Int → Bool) (hV : View A eRun a xs) (hl : xs.length ≤ 4611686018427387904)
    (hq : ∀ r ∈ xs, Spec Tryz.prog fn [eRun.val r, c1, c2] [B1, B2] (fun v L => v = .bool (q r) ∧ L = [B1, B2])) :
    Spec Tryz.prog 199 [.slice a xs.length c, .func (.func fn) #[] #[c1, c2]] [A, B1, B2] (fun v L => v = .int .i64 (optI (xs.findIdx? q)) ∧ L = [A, B1, B2]) := by
  refine Spec.intro (IsEnt.out) Tryz.func199 rfl Tryz.ntmps199 (by simp) (fun w0 F => ?_)
  simp only [envOf, List.zipIdx, List.map, List.cons_append, List.nil_append, Nat.zero_add, Nat.reduceAdd]
  (repeat refine Z ?_)
  refine X_loop (ι := Nat) (fun k => k ≤ xs.length ∧ ∀ j (hj : j < xs.length), j < k → q xs[j] = false) (fun k => [(0, .slice a xs.length c), (1, .func (.func fn) #[] #[c1, c2]), (6, .slice a xs.length c), (7, .int .i64 (xs.length : Int)), (8, .int .i64 k)]) (fun _ => A :: B1 :: B2 :: F) (fun k => xs.length - k) 0 ⟨Nat.zero_le _, fun _ _ h => by omega⟩ ?_ (by exact EN) ?_
  · exact SBs
  rintro k ⟨hk, hall⟩
  dsimp only at hk hall ⊢
  (repeat refine Z ?_)
  refine X_cond rfl (fun hc => ?_) (fun hc => ?_) <;> simp only [decide_eq_true_eq, decide_eq_false_iff_not] at hc
  · have hkl : k < xs.length := by omega
    refine X_view .here hV (by omega) ?_
    rintro b o rfl
    (repeat refine Z ?_)
    refine XO_rv (rv_vel (i := k) (hV := hV)) (hk := ?_)
    (repeat refine Z ?_)
    refine XO_call (hq xs[k] (List.getElem_mem hkl)) (hk := ?_)
    rintro _ _ ⟨rfl, rfl⟩
    (repeat refine Z ?_)
    refine X_cond rfl (fun h3 => ?_) (fun h3 => ?_)
    · have he : xs.findIdx? q = some k := by
        rw [List.findIdx?_eq_some_iff_getElem]
        exact ⟨hkl, by simpa using h3, fun j hj => by simp [hall j (by omega) hj]⟩
      (repeat refine Z ?_)
      refine XE_ret (.inl rfl) (tells_tmps rfl rfl) ⟨_, ⟨?_, rfl⟩, by exact EN⟩
      rw [he]; rfl
    · (repeat refine Z ?_)
      refine X_round (k + 1) ⟨by omega, fun j hj hlt => ?_⟩ (by show xs.length - (k + 1) < xs.length - k; omega) (by exact SBs) (by exact EN)
      rcases Nat.lt_or_ge j k with h | h
      · exact hall j hj h
      · obtain rfl : j = k := by omega
        exact h3
  · obtain rfl : k = xs.length := by omega
    have he : xs.findIdx? q = none := by
      rw [List.findIdx?_eq_none_iff]
      intro x hx
      obtain ⟨j, hj, rfl⟩ := List.getElem_of_mem hx
      exact hall j hj hj
    (repeat refine Z ?_)
    refine XE_ret (.inl rfl) (tells_tmps rfl rfl) ⟨_, ⟨?_, rfl⟩, by exact EN⟩
    rw [he]; rfl
theorem contains_spec (A B1 B2 : HP) (a : Option Addr) (c : Nat) (xs : List (Int × Int)) (fn : FuncId) (c1 c2 : Value) (q : Int × Int → Bool) (hV : View A eRun a xs) (hl : xs.length ≤ 4611686018427387904)
    (hq : ∀ r ∈ xs, Spec Tryz.prog fn [eRun.val r, c1, c2] [B1, B2] (fun v L => v = .bool (q r) ∧ L = [B1, B2])) :
    Spec Tryz.prog 192 [.slice a xs.length c, .func (.func fn) #[] #[c1, c2]] [A, B1, B2] (fun v L => v = .bool (xs.any q) ∧ L = [A, B1, B2]) := by
  refine Spec.intro (IsEnt.out) Tryz.func192 rfl Tryz.ntmps192 (by simp) (fun w0 F => ?_)
  simp only [envOf, List.zipIdx, List.map, List.cons_append, List.nil_append, Nat.zero_add, Nat.reduceAdd]
  (repeat refine Z ?_)
  refine XO_call (index_spec A B1 B2 a c xs fn c1 c2 q hV hl hq) (hk := ?_)
  rintro _ _ ⟨rfl, rfl⟩
  (repeat refine Z ?_)
  refine XE_ret (.inl rfl) (tells_tmps rfl rfl) ⟨_, ⟨?_, rfl⟩, by exact EN⟩
  show Value.bool _ = _
  congr 1
  cases hi : xs.findIdx? q with
  | none =>
    rw [List.findIdx?_eq_none_iff] at hi
    have : xs.any q = false := by rw [List.any_eq_false]; intro x hx; simp [hi x hx]
    rw [this]; rfl
  | some k =>
    rw [List.findIdx?_eq_some_iff_getElem] at hi
    obtain ⟨hk, h, _⟩ := hi
    have : xs.any q = true := by rw [List.any_eq_true]; exact ⟨_, List.getElem_mem hk, h⟩
    rw [this]
    exact decide_eq_true (by show (0 : Int) ≤ (k : Int); omega)
theorem has_spec (A : HP) (a : Option Addr) (c : Nat) (xs : List (Int × Int)) (p n : Int) (hV : View A eRun a xs) (hl : xs.length ≤ 4611686018427387904) (h1 : 0 ≤ p) (h2 : p ≤ 1048576) (hB : Bd xs) :
    Spec Tryz.prog 168 [.slice a xs.length c, .int .i64 p, .int .i64 n] [A] (fun v L => v = .bool (xs.any (hasB p n)) ∧ L = [A]) := by
  refine Spec.intro (IsEnt.out) Tryz.func168 rfl Tryz.ntmps168 (by simp) (fun w0 F => ?_)
  simp only [envOf, List.zipIdx, List.map, List.cons_append, List.nil_append, Nat.zero_add, Nat.reduceAdd]
  (repeat refine Z ?_)
  refine XO_dv dv_box1 (hk := ?_)
  rintro _ _ ⟨b1, rfl, rfl⟩
  (repeat refine Z ?_)
  refine XO_dv dv_box1 (hk := ?_)
  rintro _ _ ⟨b2, rfl, rfl⟩
  (repeat refine Z ?_)
  refine XO_call (contains_spec A _ _ a c xs _ _ _ (hasB p n) hV hl (fun r hr => has1_spec b1 b2 p n r h1 h2 (hB r hr).1 (hB r hr).2.1 (hB r hr).2.2)) (hk := ?_)
  rintro _ _ ⟨rfl, rfl⟩
  (repeat refine Z ?_)
  refine XE_ret (.inl rfl) (tells_tmps rfl rfl) ⟨_, ⟨rfl, rfl⟩, by exact EN⟩
end Go.Proofs.YtamecmklcnohjaaGreat.Sep
namespace Go.Proofs.YtamecmklcnohjaaGreat.Sep
open Go.RowKit
set_option linter.unusedSimpArgs false
set_option linter.unusedVariables false
set_option maxHeartbeats 8000000
attribute [local irreducible] X XE XO XD XDi XDa PV RV DV pt base Spec Sl Mp Keeps

instance teq_run : TEq Tryz.prog 97 [.i64, .i64] := ⟨_, Tryz.underlying97, by kernel_rfl, by kernel_rfl, ⟨by decide, rfl, Tryz.underlying3, by decide, rfl, Tryz.underlying3, trivial⟩⟩
theorem delete_spec (b o c i m : Nat) (xs : List (Int × Int)) (hm : m = xs.length) (hi : i < xs.length) (hl : xs.length ≤ 4611686018427387904) :
    Spec Tryz.prog 190 [.slice (some ⟨b, o, none⟩) m c, .int .i64 i, .int .i64 (i + 1 : Int)] [Sl eRun (some ⟨b, o, none⟩) c xs]
      (fun v L => v = .slice (some ⟨b, o, none⟩) (xs.eraseIdx i).length c ∧ L = [Sl eRun (some ⟨b, o, none⟩) c (xs.eraseIdx i)]) := by
  subst hm
  refine Spec.intro (IsEnt.out) Tryz.func190 rfl Tryz.ntmps190 (by simp) (fun w0 F => ?_)
  simp only [envOf, List.zipIdx, List.map, List.cons_append, List.nil_append, Nat.zero_add, Nat.reduceAdd]
  refine X_fact (A := Sl eRun (some ⟨b, o, none⟩) c xs) .here Sl.cap (fun hc => ?_)
  have hel : (xs.eraseIdx i) = xs.take i ++ xs.drop (i + 1) := List.eraseIdx_eq_take_drop_succ ..
  have hen : (xs.take i ++ xs.drop (i + 1)).length = i + (xs.length - (i + 1)) := by simp; omega
  (repeat refine Z ?_)
  refine XO_pv pv_sliceLHM (hk := ?_)
  (repeat refine Z ?_)
  refine X_cond rfl (fun h => ?_) (fun h => ?_)
  · exfalso; simp at h; omega
  (repeat refine Z ?_)
  (repeat refine ZD ?_)
  refine XD_one (h := ?_)
  refine XDa_dvA (dv_appendSelf (E' := eRun) (i := i) (j := i + 1) (xs := xs)) (hk := ?_)
  rintro _ _ ⟨rfl, rfl⟩
  refine ⟨by exact KP, ?_⟩
  (repeat refine ZD ?_)
  (refine XD_one (h := ?_); refine XDa_dvA (dv_of_rv (rv_of_pv pv_assign)) (hk := ?_); rintro _ _ ⟨rfl, rfl⟩; refine ⟨by exact KP, ?_⟩)
  (refine XD_end (h := ?_); (repeat refine Z ?_))
  have hlx : (xs.eraseIdx i).length = i + (xs.length - (i + 1)) := by rw [hel]; exact hen
  rw [← hel, ← hlx]
  refine XO_pv (pv_sliceLH (h1 := by omega) (h2 := by omega)) (hk := ?_)
  (repeat refine Z ?_)
  refine XO_dv0 (dv_clear (xs := xs.eraseIdx i) (hm := by omega)) (hk := ?_)
  rintro _ _ rfl
  (repeat refine Z ?_)
  refine XE_ret (.inl rfl) (tells_tmps rfl rfl) ⟨_, ⟨rfl, rfl⟩, by exact EN⟩
def takeAt (xs : List (Int × Int)) (n : Int) (i : Nat) : Int × List (Int × Int) :=
  ((xs.getD i (0, 0)).1, if (xs.getD i (0, 0)).2 = n then xs.eraseIdx i else xs.set i ((xs.getD i (0, 0)).1 + n, (xs.getD i (0, 0)).2 - n))
def takeI (xs : List (Int × Int)) (n : Int) : Option (Int × List (Int × Int)) := (bestU xs n xs.length).map (takeAt xs n)
def takeV (A : HP) : Option (Int × List (Int × Int)) → Value → List HP → Prop
  | none, v, L => v = .tuple #[.int .i64 0, .slice none 0 0, .bool false] ∧ L = [A]
  | some (p, ys), v, L => ∃ b c, v = .tuple #[.int .i64 p, .slice (some ⟨b, 0, none⟩) ys.length c, .bool true] ∧ L = [A, Sl eRun (some ⟨b, 0, none⟩) c ys]
theorem bestU_ge {xs : List (Int × Int)} {n : Int} : ∀ {i j : Nat}, bestU xs n i = some j → 0 < n ∧ n ≤ (xs.getD j (0, 0)).2
  | 0, j, h => by cases h
  | i + 1, j, h => by
    unfold bestU at h
    split at h
    · rename_i h1; cases h; exact ⟨h1.1, h1.2.1⟩
    · exact bestU_ge h
theorem take_spec (A : HP) (a : Option Addr) (c : Nat) (xs : List (Int × Int)) (n : Int) (hV : View A eRun a xs) (hl : xs.length ≤ 1048576) (hB : Bd xs) :
    Spec Tryz.prog 166 [.slice a xs.length c, .int .i64 n] [A] (takeV A (takeI xs n)) := by
  refine Spec.intro (IsEnt.out) Tryz.func166 rfl Tryz.ntmps166 (by simp) (fun w0 F => ?_)
  simp only [envOf, List.zipIdx, List.map, List.cons_append, List.nil_append, Nat.zero_add, Nat.reduceAdd]
  (repeat refine Z ?_)
  refine XO_call (best_spec A a c xs n hV (by omega)) (hk := ?_)
  rintro _ _ ⟨rfl, rfl⟩
  (repeat refine Z ?_)
  cases hb : bestU xs n xs.length with
  | none =>
    have ht : takeI xs n = none := by unfold takeI; rw [hb]; rfl
    rw [ht]
    refine X_cond rfl (fun h => ?_) (fun h => ?_)
    · (repeat refine Z ?_)
      refine XE_ret (.inl rfl) (tells_tmps rfl rfl) ⟨_, ⟨rfl, rfl⟩, by exact EN⟩
    · cases h
  | some i =>
    have ht : takeI xs n = some (takeAt xs n i) := by unfold takeI; rw [hb]; rfl
    rw [ht]
    have hi := bestU_lt hb
    obtain ⟨hn0, hn1⟩ := bestU_ge hb
    have hgi : xs.getD i (0, 0) = xs[i] := by simp [List.getD, hi]
    rw [hgi] at hn1
    obtain ⟨g1, g2, g3⟩ := hB xs[i] (List.getElem_mem hi)
    simp only [optI]
    refine X_cond rfl (fun h => ?_) (fun h => ?_)
    · exfalso
      have : (i : Int) < 0 := of_decide_eq_true h
      omega
    refine X_view .here hV (by omega) ?_
    rintro b o rfl
    (repeat refine Z ?_)
    refine XO_dv (dv_makeSlice (E' := eRun) (0, 0)) (hk := ?_)
    rintro _ _ ⟨nb, rfl, rfl⟩
    (repeat refine Z ?_)
    simp only [Int.toNat_natCast]
    obtain ⟨zs, hz, hzl⟩ : ∃ zs, zs = List.replicate xs.length ((0, 0) : Int × Int) ∧ zs.length = xs.length := ⟨_, rfl, by simp⟩
    rw [← hz]
    refine XO_dv (dv_copy (E' := eRun) (ys := xs) (xs := zs) (A := A) (hx := by rw [hzl]; rfl) (hv := hV) (hn := by rw [hzl]; simp)) (hk := ?_)
    rintro _ _ ⟨rfl, rfl⟩
    rw [show xs ++ zs.drop xs.length = xs from by rw [List.drop_of_length_le (by omega), List.append_nil]]
    (repeat refine Z ?_)
    refine XO_rv (rv_velf (i := i) (f := 0) (hV := hV)) (hk := ?_)
    (repeat refine Z ?_)
    refine XO_rv (rv_velf (i := i) (f := 1) (hV := hV)) (hk := ?_)
    (repeat refine Z ?_)
    refine XO_dv0 (dv_putElW (E' := eRun) (i := i) (x' := (xs[i].1 + n, xs[i].2 - n))) (hk := ?_)
    rintro _ _ rfl
    (repeat refine Z ?_)
    (repeat refine ZD ?_)
    refine XDi_rvA (rv_el (E' := eRun) (i := i) (hl := by simp; omega)) (h := ?_)
    simp only [List.getElem_set_self]
    (repeat refine ZD ?_)
    refine XDi_rvA (rv_vel (i := i) (hV := hV)) (h := ?_)
    (repeat refine ZD ?_)
    refine XD_one (h := ?_)
    refine XDa_dvA (dv_call (end_spec xs[i].1 xs[i].2 g1 g2 (by omega))) (hk := ?_)
    rintro _ _ ⟨_, ⟨rfl, rfl⟩, rfl⟩
    refine ⟨?_, ?_⟩
    · repeat (first | exact keeps_fnil | refine keeps_skip (h := ?_) | refine keeps_takeA (hv := by first | exact rv_velG (i := i) (x' := xs[i]) (hV := hV) (hget := by simp [hi]) | exact rv_elG (i := i) (x' := (xs[i].1 + n, xs[i].2 - n)) (hget := by simp [hi])) (h := ?_))
    (repeat refine ZD ?_)
    refine XDi_pvA (pv_buildG [.int .i64 (xs[i].1 + xs[i].2), .int .i64 0]) (h := ?_)
    (repeat refine ZD ?_)
    refine XDi_pvA (pv_eqRec [xs[i].1 + n, xs[i].2 - n] [xs[i].1 + xs[i].2, 0]) (h := ?_)
    (repeat refine ZD ?_)
    (refine XD_end (h := ?_); (repeat refine Z ?_))
    refine X_cond rfl (fun h => ?_) (fun h => ?_) <;> simp only [decide_eq_true_eq, decide_eq_false_iff_not] at h
    · have hq : xs[i].2 = n := by simp at h; omega
      have hta : takeAt xs n i = (xs[i].1, xs.eraseIdx i) := by unfold takeAt; rw [hgi, if_pos hq]
      have hse : (xs.set i (xs[i].1 + n, xs[i].2 - n)).eraseIdx i = xs.eraseIdx i := by
        exact List.eraseIdx_set_eq
      rw [hta]
      have hsl : (xs.set i (xs[i].1 + n, xs[i].2 - n)).length = xs.length := by simp
      (repeat refine Z ?_)
      refine XO_call (delete_spec nb 0 xs.length i xs.length (xs.set i (xs[i].1 + n, xs[i].2 - n)) (by simp) (by omega) (by omega)) (hk := ?_)
      rintro _ _ ⟨rfl, rfl⟩
      rw [hse]
      (repeat refine Z ?_)
      refine XE_ret (.inl rfl) (tells_tmps rfl rfl) ⟨_, ⟨nb, xs.length, rfl, rfl⟩, by exact EN⟩
    · have hq : ¬ xs[i].2 = n := fun h' => h (by simp [h'])
      have hta : takeAt xs n i = (xs[i].1, xs.set i (xs[i].1 + n, xs[i].2 - n)) := by unfold takeAt; rw [hgi, if_neg hq]
      rw [hta]
      have hsl : (xs.set i (xs[i].1 + n, xs[i].2 - n)).length = xs.length := by simp
      (repeat refine Z ?_)
      refine XE_ret (.inl rfl) (tells_tmps rfl rfl) ⟨_, ⟨nb, xs.length, by rw [hsl]; rfl, rfl⟩, by exact EN⟩
end Go.Proofs.YtamecmklcnohjaaGreat.Sep
namespace Go.Proofs.YtamecmklcnohjaaGreat.Sep
open Go.RowKit
set_option linter.unusedSimpArgs false
set_option linter.unusedVariables false
set_option maxHeartbeats 8000000
attribute [local irreducible] X XE XO XD XDi XDa PV RV DV pt base Spec Sl Mp Keeps

def mergeI : Int × Int → List (Int × Int) → (Int × Int) × List (Int × Int)
  | r, [] => (r, [])
  | r, x :: xs => if x.1 ≤ r.1 + r.2 then mergeI (min x.1 r.1, x.2 + r.2) xs else (r, x :: xs)
def giveL (xs : List (Int × Int)) (page n : Int) : List (Int × Int) :=
  xs.take (afterI xs page) ++ (mergeI (page, n) (xs.drop (afterI xs page))).1 :: (mergeI (page, n) (xs.drop (afterI xs page))).2
def giveI (xs : List (Int × Int)) (pages page n : Int) : Option (List (Int × Int)) :=
  if page < 0 ∨ n < 1 ∨ pages < n ∨ pages - n < page ∨ xs.any (hasB page n) = true then none else some (giveL xs page n)
def giveV (A : HP) : Option (List (Int × Int)) → Value → List HP → Prop
  | none, v, L => v = .tuple #[.slice none 0 0, .bool false] ∧ L = [A]
  | some ys, v, L => ∃ a c, v = .tuple #[.slice a ys.length c, .bool true] ∧ L = [A, Sl eRun a c ys]
theorem give_spec (A : HP) (a : Option Addr) (c : Nat) (xs : List (Int × Int)) (pages page n : Int) (hV : View A eRun a xs) (hc : xs.length ≤ c) (hl : xs.length ≤ 1048576) (hB : Bd xs) (p0 : 0 ≤ pages) (p1 : pages ≤ 1048576) (n0 : -9223372036854775808 ≤ n) (n1 : n ≤ 9223372036854775807) (q0 : -9223372036854775808 ≤ page) (q1 : page ≤ 9223372036854775807) :
    Spec Tryz.prog 132 [.slice a xs.length c, .int .i64 pages, .int .i64 page, .int .i64 n] [A] (giveV A (giveI xs pages page n)) := by
  refine Spec.intro (IsEnt.out) Tryz.func132 rfl Tryz.ntmps132 (by simp) (fun w0 F => ?_)
  simp only [envOf, List.zipIdx, List.map, List.cons_append, List.nil_append, Nat.zero_add, Nat.reduceAdd]
  (repeat refine Z ?_)
  by_cases hbad : page < 0 ∨ n < 1 ∨ pages < n ∨ pages - n < page
  · have hg : giveI xs pages page n = none := by
      unfold giveI
      rw [if_pos]
      rcases hbad with h | h | h | h
      · exact .inl h
      · exact .inr (.inl h)
      · exact .inr (.inr (.inl h))
      · exact .inr (.inr (.inr (.inl h)))
    rw [hg]
    refine XO_either (hT := fun h => ?_) (hF := fun h => ?_) <;> simp only [decide_eq_true_eq, decide_eq_false_iff_not] at h
    · (repeat refine Z ?_)
      refine X_cond rfl (fun _ => ?_) (fun h => by cases h)
      (repeat refine Z ?_)
      refine XE_ret (.inl rfl) (tells_tmps rfl rfl) ⟨_, ⟨rfl, rfl⟩, by exact EN⟩
    (repeat refine Z ?_)
    refine XO_either (hT := fun h => ?_) (hF := fun h => ?_) <;> simp only [decide_eq_true_eq, decide_eq_false_iff_not] at h
    · (repeat refine Z ?_)
      refine X_cond rfl (fun _ => ?_) (fun h => by cases h)
      (repeat refine Z ?_)
      refine XE_ret (.inl rfl) (tells_tmps rfl rfl) ⟨_, ⟨rfl, rfl⟩, by exact EN⟩
    (repeat refine Z ?_)
    refine XO_either (hT := fun h => ?_) (hF := fun h => ?_) <;> simp only [decide_eq_true_eq, decide_eq_false_iff_not] at h
    · (repeat refine Z ?_)
      refine X_cond rfl (fun _ => ?_) (fun h => by cases h)
      (repeat refine Z ?_)
      refine XE_ret (.inl rfl) (tells_tmps rfl rfl) ⟨_, ⟨rfl, rfl⟩, by exact EN⟩
    (repeat refine Z ?_)
    refine XO_known true (hb := decide_eq_true (by omega)) (hk := ?_)
    (repeat refine Z ?_)
    refine X_cond rfl (fun _ => ?_) (fun h => by cases h)
    (repeat refine Z ?_)
    refine XE_ret (.inl rfl) (tells_tmps rfl rfl) ⟨_, ⟨rfl, rfl⟩, by exact EN⟩
  refine XO_known false (hb := decide_eq_false (by omega)) (hk := ?_)
  (repeat refine Z ?_)
  refine XO_known false (hb := decide_eq_false (by omega)) (hk := ?_)
  (repeat refine Z ?_)
  refine XO_known false (hb := decide_eq_false (by omega)) (hk := ?_)
  (repeat refine Z ?_)
  refine XO_known false (hb := decide_eq_false (by omega)) (hk := ?_)
  (repeat refine Z ?_)
  refine XO_call (has_spec A a c xs page n hV (by omega) (by omega) (by omega) hB) (hk := ?_)
  rintro _ _ ⟨rfl, rfl⟩
  (repeat refine Z ?_)
  refine X_cond rfl (fun h => ?_) (fun h => ?_)
  · have hg : giveI xs pages page n = none := by
      unfold giveI
      rw [if_pos (.inr (.inr (.inr (.inr h))))]
    rw [hg]
    (repeat refine Z ?_)
    refine XE_ret (.inl rfl) (tells_tmps rfl rfl) ⟨_, ⟨rfl, rfl⟩, by exact EN⟩
  have hg : giveI xs pages page n = some (giveL xs page n) := by
    unfold giveI
    rw [if_neg]
    rintro (h' | h' | h' | h' | h') <;> first | omega | (rw [h] at h'; cases h')
  rw [hg]
  have hai : afterI xs page ≤ xs.length := List.findIdx_le_length
  (repeat refine Z ?_)
  refine XO_call (after_spec A a c xs page hV (by omega) hB) (hk := ?_)
  rintro _ _ ⟨rfl, rfl⟩
  unfold giveL
  generalize afterI xs page = i0 at hai ⊢
  (repeat refine Z ?_)
  refine XO_conv (fun _ => SL_nilSl eRun) ?_
  refine XO_dv (dv_append (E' := eRun) (xs := []) (ys := xs.take i0) (A := A) (a := none) (a2 := a) (c := 0) (c2 := c) (hy := by rw [List.length_take, Nat.min_eq_left hai]; rfl) (hv := View.take i0 hV) (hb := by simp; omega)) (hk := ?_)
  rintro _ _ ⟨a1, c1, rfl, rfl⟩
  rw [List.nil_append]
  (repeat refine Z ?_)
  (refine XO_dv dv_alloc (hk := ?_); rintro _ _ ⟨cb, rfl, rfl⟩; ((repeat refine Z ?_)); refine XO_dv0 dv_storeW (hk := ?_); rintro _ _ rfl; ((repeat refine Z ?_)))
  refine X_loop (ι := Nat × Int × Int) (fun q => i0 ≤ q.1 ∧ q.1 ≤ xs.length ∧ mergeI (page, n) (xs.drop i0) = mergeI q.2 (xs.drop q.1) ∧ 0 ≤ q.2.1 ∧ q.2.1 ≤ 1048576 ∧ 0 ≤ q.2.2 ∧ q.2.2 ≤ 1048576 * (q.1 + 1 : Int))
    (fun q => [(0, .slice a xs.length c), (10, .int .i64 (q.1 : Int)), (12, .pointer (some ⟨cb, 0, none⟩)), (11, .slice a1 (xs.take i0).length c1)])
    (fun q => pt cb (.cells [.int .i64 q.2.1, .int .i64 q.2.2].toArray 97 (0, 0)) :: Sl eRun a1 c1 (xs.take i0) :: A :: F) (fun q => xs.length - q.1) (i0, (page, n)) ⟨Nat.le_refl _, hai, rfl, by show 0 ≤ page; omega, by show page ≤ _; omega, by show 0 ≤ n; omega, by show n ≤ 1048576 * ((i0 : Int) + 1); omega⟩ ?_ (by exact EN) ?_
  · exact SBs
  rintro ⟨i, r1, r2⟩ ⟨hi0, hil, hm, hr0, hr1, hr2, hr3⟩
  dsimp only at hi0 hil hm hr0 hr1 hr2 hr3 ⊢
  (repeat refine Z ?_)
  (repeat refine ZD ?_)
  refine XDi_either (hT := fun h => ?_) (hF := fun h => ?_) <;> simp only [decide_eq_true_eq, decide_eq_false_iff_not] at h
  · have hlt : i < xs.length := by omega
    obtain ⟨g1, g2, g3⟩ := hB xs[i] (List.getElem_mem hlt)
    have hdr : xs.drop i = xs[i] :: xs.drop (i + 1) := List.drop_eq_getElem_cons hlt
    refine XDi_view hV (by omega) ?_
    rintro b o rfl
    (repeat refine ZD ?_)
    refine XDi_rvA (rv_velf (i := i) (f := 0) (hV := hV)) (h := ?_)
    (repeat refine ZD ?_)
    refine XD_one (h := ?_)
    refine XDa_dvA (dv_call (end_spec r1 r2 hr0 hr2 (by omega))) (hk := ?_)
    rintro _ _ ⟨_, ⟨rfl, rfl⟩, rfl⟩
    refine ⟨?_, ?_⟩
    · repeat (first | exact keeps_fnil | refine keeps_skip (h := ?_) | refine keeps_takeA (hv := by first | exact rv_load | exact rv_loadW | exact rv_velf (i := i) (f := 0) (hV := hV)) (h := ?_))
    (repeat refine ZD ?_)
    (refine XD_end (h := ?_); (repeat refine Z ?_))
    refine X_cond rfl (fun h2 => ?_) (fun h2 => ?_) <;> simp only [decide_eq_true_eq, decide_eq_false_iff_not] at h2
    · have hm2 : mergeI (r1, r2) (xs.drop i) = mergeI (min xs[i].1 r1, xs[i].2 + r2) (xs.drop (i + 1)) := by
        rw [hdr, mergeI, if_pos h2]
      (repeat refine Z ?_)
      (repeat refine ZD ?_)
      refine XDi_rvA (rv_velf (i := i) (f := 0) (hV := hV)) (h := ?_)
      (repeat refine ZD ?_)
      refine XDi_rvA (rv_velf (i := i) (f := 1) (hV := hV)) (h := ?_)
      (repeat refine ZD ?_)
      refine XD_one (h := ?_)
      refine XDa_dvk0 dv_storeW (K := _) (hk := ?_)
      rintro _ _ rfl
      refine ⟨by exact KP, ?_⟩
      (refine XD_end (h := ?_); (repeat refine Z ?_))
      refine X_round (i + 1, (min xs[i].1 r1, xs[i].2 + r2)) ⟨by show i0 ≤ i + 1; omega, by show i + 1 ≤ _; omega, by show _ = mergeI _ _; rw [hm, hm2], by show 0 ≤ min _ _; omega, by show min _ _ ≤ _; omega, by show 0 ≤ _ + _; omega, by show _ + _ ≤ 1048576 * (((i + 1 : Nat) : Int) + 1); push_cast; omega⟩ (by show xs.length - (i + 1) < xs.length - i; omega) (by exact SBs) (by exact EN)
    · have hm2 : mergeI (r1, r2) (xs.drop i) = ((r1, r2), xs.drop i) := by
        rw [hdr, mergeI, if_neg h2]
      rw [hm, hm2]
      dsimp only
      (repeat refine Z ?_)
      (repeat refine ZD ?_)
      refine XD_one (h := ?_)
      refine XDa_dvA (dv_lit (E' := eRun) [(r1, r2)]) (hk := ?_)
      rintro _ _ ⟨lb, rfl, rfl⟩
      refine ⟨by exact KP, ?_⟩
      (repeat refine ZD ?_)
      refine XD_one (h := ?_)
      refine XDa_dvA (dv_append (E' := eRun) (xs := xs.take i0) (ys := [(r1, r2)]) (A := Sl eRun (some ⟨lb, 0, none⟩) 1 [(r1, r2)]) (a := a1) (a2 := some ⟨lb, 0, none⟩) (c := c1) (c2 := 1) (hv := Sl.view) (hb := by simp; omega)) (hk := ?_)
      rintro _ _ ⟨a2, c2, rfl, rfl⟩
      refine ⟨by exact KP, ?_⟩
      (repeat refine ZD ?_)
      refine XD_one (h := ?_)
      refine XDa_dvA (dv_append (E' := eRun) (xs := xs.take i0 ++ [(r1, r2)]) (ys := xs.drop i) (A := A) (a := a2) (c := c2) (c2 := c - i) (hy := by rw [List.length_drop]; rfl) (hv := View.drop i rfl hc hV) (hb := by simp; omega)) (hk := ?_)
      rintro _ _ ⟨a3, c3, rfl, rfl⟩
      refine ⟨by exact KP, ?_⟩
      rw [show xs.take i0 ++ [(r1, r2)] ++ xs.drop i = xs.take i0 ++ (r1, r2) :: xs.drop i from by simp]
      (repeat refine ZD ?_)
      (refine XD_one (h := ?_); refine XDa_dvA (dv_of_rv (rv_of_pv pv_assign)) (hk := ?_); rintro _ _ ⟨rfl, rfl⟩; refine ⟨by exact KP, ?_⟩)
      (refine XD_one (h := ?_); refine XDa_dvA (dv_of_rv (rv_of_pv pv_assign)) (hk := ?_); rintro _ _ ⟨rfl, rfl⟩; refine ⟨by exact KP, ?_⟩)
      (refine XD_end (h := ?_); (repeat refine Z ?_))
      refine XE_ret (.inl rfl) (tells_tmps rfl rfl) ⟨_, ⟨a3, c3, rfl, rfl⟩, by exact EN⟩
  · obtain rfl : i = xs.length := by omega
    have hm2 : mergeI (r1, r2) (xs.drop xs.length) = ((r1, r2), xs.drop xs.length) := by
      rw [List.drop_length, mergeI]
    (repeat refine ZD ?_)
    (refine XD_head (h := ?_); first | refine XDi_gF (h := ?_) | refine XDi_gU (h := ?_))
    (repeat refine ZD ?_)
    (refine XD_end (h := ?_); (repeat refine Z ?_))
    refine X_cond rfl (fun h => by cases h) (fun _ => ?_)
    rw [hm, hm2]
    dsimp only
    (repeat refine Z ?_)
    (repeat refine ZD ?_)
    refine XD_one (h := ?_)
    refine XDa_dvA (dv_lit (E' := eRun) [(r1, r2)]) (hk := ?_)
    rintro _ _ ⟨lb, rfl, rfl⟩
    refine ⟨by exact KP, ?_⟩
    (repeat refine ZD ?_)
    refine XD_one (h := ?_)
    refine XDa_dvA (dv_append (E' := eRun) (xs := xs.take i0) (ys := [(r1, r2)]) (A := Sl eRun (some ⟨lb, 0, none⟩) 1 [(r1, r2)]) (a := a1) (a2 := some ⟨lb, 0, none⟩) (c := c1) (c2 := 1) (hv := Sl.view) (hb := by simp; omega)) (hk := ?_)
    rintro _ _ ⟨a2, c2, rfl, rfl⟩
    refine ⟨by exact KP, ?_⟩
    (repeat refine ZD ?_)
    refine XD_one (h := ?_)
    refine XDa_dvA (dv_append (E' := eRun) (xs := xs.take i0 ++ [(r1, r2)]) (ys := xs.drop xs.length) (A := A) (a := a2) (c := c2) (c2 := c - xs.length) (hy := by rw [List.length_drop]; rfl) (hv := View.drop xs.length rfl hc hV) (hb := by simp; omega)) (hk := ?_)
    rintro _ _ ⟨a3, c3, rfl, rfl⟩
    refine ⟨by exact KP, ?_⟩
    rw [show xs.take i0 ++ [(r1, r2)] ++ xs.drop xs.length = xs.take i0 ++ (r1, r2) :: xs.drop xs.length from by simp]
    (repeat refine ZD ?_)
    (refine XD_one (h := ?_); refine XDa_dvA (dv_of_rv (rv_of_pv pv_assign)) (hk := ?_); rintro _ _ ⟨rfl, rfl⟩; refine ⟨by exact KP, ?_⟩)
    (refine XD_one (h := ?_); refine XDa_dvA (dv_of_rv (rv_of_pv pv_assign)) (hk := ?_); rintro _ _ ⟨rfl, rfl⟩; refine ⟨by exact KP, ?_⟩)
    (refine XD_end (h := ?_); (repeat refine Z ?_))
    refine XE_ret (.inl rfl) (tells_tmps rfl rfl) ⟨_, ⟨a3, c3, rfl, rfl⟩, by exact EN⟩
end Go.Proofs.YtamecmklcnohjaaGreat.Sep
namespace Go.Proofs.YtamecmklcnohjaaGreat.Sep
open Go.RowKit
set_option linter.unusedSimpArgs false
set_option linter.unusedVariables false
def RightFrom (P : Int) : Int → List (Int × Int) → Prop
  | _, [] => True
  | lo, r :: l => lo ≤ r.1 ∧ 1 ≤ r.2 ∧ r.1 + r.2 ≤ P ∧ RightFrom P (r.1 + r.2 + 1) l
def ind (x : Int) (r : Int × Int) : Int := if r.1 ≤ x ∧ x < r.1 + r.2 then 1 else 0
def cnt (x : Int) : List (Int × Int) → Int
  | [] => 0
  | r :: l => ind x r + cnt x l
theorem ind_nn (x : Int) (r : Int × Int) : 0 ≤ ind x r := by unfold ind; split <;> omega
theorem cnt_nn (x : Int) : ∀ l, 0 ≤ cnt x l
  | [] => by simp [cnt]
  | r :: l => by have := ind_nn x r; have := cnt_nn x l; simp only [cnt]; omega
theorem cnt_append (x : Int) : ∀ l l', cnt x (l ++ l') = cnt x l + cnt x l'
  | [], l' => by simp [cnt]
  | r :: l, l' => by simp only [List.cons_append, cnt, cnt_append x l l']; omega
theorem tot_cons (r : Int × Int) (l : List (Int × Int)) : totI (r :: l) = r.2 + totI l := by simp [totI]
theorem tot_append (l l' : List (Int × Int)) : totI (l ++ l') = totI l + totI l' := by simp [totI, List.sum_append]
theorem rf_mono {P lo lo' : Int} {l : List (Int × Int)} (h : lo' ≤ lo) (hr : RightFrom P lo l) : RightFrom P lo' l := by
  cases l with
  | nil => trivial
  | cons r l => obtain ⟨h1, h2, h3, h4⟩ := hr; exact ⟨by omega, h2, h3, h4⟩
theorem rf_mem {P : Int} : ∀ {l : List (Int × Int)} {lo : Int}, RightFrom P lo l → ∀ r ∈ l, lo ≤ r.1 ∧ 1 ≤ r.2 ∧ r.1 + r.2 ≤ P
  | [], _, _, r, hr => by cases hr
  | q :: l, lo, ⟨h1, h2, h3, h4⟩, r, hr => by
    rcases List.mem_cons.1 hr with rfl | hr
    · exact ⟨h1, h2, h3⟩
    · have := rf_mem h4 r hr; exact ⟨by omega, this.2⟩
theorem rf_len {P : Int} : ∀ {l : List (Int × Int)} {lo : Int}, lo ≤ P + 1 → RightFrom P lo l → (l.length : Int) ≤ P + 1 - lo
  | [], lo, h, _ => by simp; omega
  | r :: l, lo, h, ⟨h1, h2, h3, h4⟩ => by
    have := rf_len (by omega) h4
    simp; omega
theorem rf_bd {P : Int} {l : List (Int × Int)} (hP : P ≤ 1048576) (h : RightFrom P 0 l) : Bd l := fun r hr => by
  have := rf_mem h r hr; omega
theorem rf_len' {P : Int} {l : List (Int × Int)} (h0 : 0 ≤ P) (hP : P ≤ 1048576) (h : RightFrom P 0 l) : l.length ≤ 1048576 := by
  cases l with
  | nil => simp
  | cons r l =>
    obtain ⟨h1, h2, h3, h4⟩ := h
    have := rf_len (by omega) h4
    simp; omega
theorem rf_erase {P : Int} : ∀ {l : List (Int × Int)} {lo : Int} (i : Nat), RightFrom P lo l → RightFrom P lo (l.eraseIdx i)
  | [], _, _, _ => by simp [RightFrom]
  | r :: l, lo, 0, ⟨h1, h2, h3, h4⟩ => by simpa using rf_mono (by omega) h4
  | r :: l, lo, i + 1, ⟨h1, h2, h3, h4⟩ => by simpa using ⟨h1, h2, h3, rf_erase i h4⟩
theorem rf_set {P n : Int} (h0 : 1 ≤ n) : ∀ {l : List (Int × Int)} {lo : Int} (i : Nat), RightFrom P lo l → n < (l.getD i (0, 0)).2 → RightFrom P lo (l.set i ((l.getD i (0, 0)).1 + n, (l.getD i (0, 0)).2 - n))
  | [], _, _, _, _ => by simp [RightFrom]
  | r :: l, lo, 0, ⟨h1, h2, h3, h4⟩, hn => by
    simp only [List.getD_cons_zero] at hn
    simp only [List.getD_cons_zero, List.set_cons_zero, RightFrom]
    exact ⟨by omega, by omega, by omega, by rw [show r.1 + n + (r.2 - n) + 1 = r.1 + r.2 + 1 from by omega]; exact h4⟩
  | r :: l, lo, i + 1, ⟨h1, h2, h3, h4⟩, hn => by
    simp only [List.getD_cons_succ] at hn
    simp only [List.getD_cons_succ, List.set_cons_succ, RightFrom]
    exact ⟨h1, h2, h3, rf_set h0 i h4 hn⟩
theorem cnt_take {n : Int} (x : Int) (h0 : 1 ≤ n) : ∀ (l : List (Int × Int)) (i : Nat), i < l.length → n ≤ (l.getD i (0, 0)).2 →
    cnt x l = cnt x (takeAt l n i).2 + ind x ((takeAt l n i).1, n) ∧ totI l = totI (takeAt l n i).2 + n
  | [], i, h, _ => by simp at h
  | r :: l, 0, _, hn => by
    simp only [List.getD_cons_zero] at hn
    simp only [takeAt, List.getD_cons_zero]
    by_cases hq : r.2 = n
    · rw [if_pos hq]
      simp only [List.eraseIdx_cons_zero, cnt, tot_cons]
      subst hq
      exact ⟨Int.add_comm _ _, Int.add_comm _ _⟩
    · rw [if_neg hq]
      simp only [List.set_cons_zero, cnt, tot_cons]
      refine ⟨?_, by omega⟩
      unfold ind
      simp only
      repeat' split
      all_goals omega
  | r :: l, i + 1, hi, hn => by
    simp only [List.getD_cons_succ] at hn
    have ih := cnt_take x h0 l i (by simpa using hi) hn
    simp only [takeAt, List.getD_cons_succ] at ih ⊢
    by_cases hq : (l.getD i (0, 0)).2 = n
    · rw [if_pos hq] at ih ⊢
      simp only [List.eraseIdx_cons_succ, cnt, tot_cons]
      omega
    · rw [if_neg hq] at ih ⊢
      simp only [List.set_cons_succ, cnt, tot_cons]
      omega
theorem takeI_right {P n : Int} {l ys : List (Int × Int)} {p : Int} (hr : RightFrom P 0 l) (h : takeI l n = some (p, ys)) :
    RightFrom P 0 ys ∧ 1 ≤ n ∧ 0 ≤ p ∧ p + n ≤ P ∧ (∀ x, cnt x l = cnt x ys + ind x (p, n)) ∧ totI l = totI ys + n := by
  unfold takeI at h
  cases hb : bestU l n l.length with
  | none => rw [hb] at h; cases h
  | some i =>
    rw [hb, Option.map_some, Option.some.injEq] at h
    have hi := bestU_lt hb
    obtain ⟨hn0, hn1⟩ := bestU_ge hb
    have hg : l.getD i (0, 0) = l[i] := by simp [List.getD, hi]
    have hm := rf_mem hr l[i] (List.getElem_mem hi)
    have h1 : ∀ x, _ := fun x => cnt_take x (show 1 ≤ n by omega) l i hi hn1
    rw [h] at h1
    have hp : p = (l.getD i (0, 0)).1 := by rw [takeAt] at h; exact (Prod.mk.inj h).1.symm
    have hys : ys = if (l.getD i (0, 0)).2 = n then l.eraseIdx i else l.set i ((l.getD i (0, 0)).1 + n, (l.getD i (0, 0)).2 - n) := by rw [takeAt] at h; exact (Prod.mk.inj h).2.symm
    refine ⟨?_, by omega, by rw [hp, hg]; omega, by rw [hp, hg]; rw [hg] at hn1; omega, fun x => (h1 x).1, (h1 0).2⟩
    rw [hys]
    split
    · exact rf_erase i hr
    · rename_i hne
      exact rf_set (by omega) i hr (by omega)
theorem merge_stop {P : Int} {r : Int × Int} {l : List (Int × Int)} (h : RightFrom P (r.1 + r.2 + 1) l) : mergeI r l = (r, l) := by
  cases l with
  | nil => rfl
  | cons x l => rw [mergeI, if_neg (by have := h.1; omega)]
theorem merge_right {P lo : Int} {r : Int × Int} {l : List (Int × Int)} (hr2 : 1 ≤ r.2) (hrP : r.1 + r.2 ≤ P) (h : RightFrom P lo l) (hd : ∀ x ∈ l, r.1 + r.2 ≤ x.1) :
    (mergeI r l).1.1 = r.1 ∧ RightFrom P r.1 ((mergeI r l).1 :: (mergeI r l).2) ∧ (∀ x, cnt x ((mergeI r l).1 :: (mergeI r l).2) = cnt x (r :: l)) ∧ totI ((mergeI r l).1 :: (mergeI r l).2) = totI (r :: l) := by
  cases l with
  | nil => exact ⟨rfl, ⟨Int.le_refl _, hr2, hrP, trivial⟩, fun _ => rfl, rfl⟩
  | cons y t =>
    obtain ⟨h1, h2, h3, h4⟩ := h
    have hy := hd y (by simp)
    by_cases hc : y.1 ≤ r.1 + r.2
    · have hm : mergeI r (y :: t) = ((r.1, y.2 + r.2), t) := by
        rw [mergeI, if_pos hc, show min y.1 r.1 = r.1 from by omega]
        exact merge_stop (P := P) (rf_mono (by show r.1 + (y.2 + r.2) + 1 ≤ _; omega) h4)
      rw [hm]
      refine ⟨rfl, ⟨Int.le_refl _, by show 1 ≤ y.2 + r.2; omega, by show r.1 + (y.2 + r.2) ≤ P; omega, rf_mono (by show r.1 + (y.2 + r.2) + 1 ≤ _; omega) h4⟩, fun x => ?_, by simp only [tot_cons]; omega⟩
      simp only [cnt]
      unfold ind
      simp only
      repeat' split
      all_goals omega
    · have hm : mergeI r (y :: t) = (r, y :: t) := by rw [mergeI, if_neg hc]
      rw [hm]
      exact ⟨rfl, ⟨Int.le_refl _, hr2, hrP, ⟨by show r.1 + r.2 + 1 ≤ y.1; omega, h2, h3, h4⟩⟩, fun _ => rfl, rfl⟩
theorem giveL_nil (p n : Int) : giveL [] p n = [(p, n)] := rfl
theorem giveL_cons (x : Int × Int) (xs : List (Int × Int)) (p n : Int) : giveL (x :: xs) p n = if p ≤ x.1 + x.2 then (mergeI (p, n) (x :: xs)).1 :: (mergeI (p, n) (x :: xs)).2 else x :: giveL xs p n := by
  unfold giveL afterI
  rw [List.findIdx_cons]
  by_cases h : p ≤ x.1 + x.2
  · simp [h]
  · simp [h]
theorem give_right {P p n : Int} (hn : 1 ≤ n) (hP : p + n ≤ P) : ∀ (xs : List (Int × Int)) (lo : Int), RightFrom P lo xs → lo ≤ p → (∀ r ∈ xs, p + n ≤ r.1 ∨ r.1 + r.2 ≤ p) →
    RightFrom P lo (giveL xs p n) ∧ (∀ x, cnt x (giveL xs p n) = cnt x xs + ind x (p, n)) ∧ totI (giveL xs p n) = totI xs + n
  | [], lo, _, hlo, _ => by
    rw [giveL_nil]
    exact ⟨⟨hlo, hn, hP, trivial⟩, fun x => by simp only [cnt]; omega, by simp [totI]⟩
  | y :: t, lo, ⟨h1, h2, h3, h4⟩, hlo, hd => by
    rw [giveL_cons]
    have hy := hd y (by simp)
    by_cases hc : p ≤ y.1 + y.2
    · rw [if_pos hc]
      by_cases he : y.1 + y.2 = p
      · -- the run ahead ends where the pages begin
        have ht : ∀ z ∈ t, p + n ≤ z.1 := fun z hz => by
          have := rf_mem h4 z hz
          rcases hd z (by simp [hz]) with h | h <;> omega
        have hm : mergeI (p, n) (y :: t) = mergeI (y.1, y.2 + n) t := by
          rw [mergeI, if_pos (by show y.1 ≤ p + n; omega), show min y.1 p = y.1 from by omega]
        rw [hm]
        obtain ⟨g1, g2, g3, g4⟩ := merge_right (P := P) (r := (y.1, y.2 + n)) (l := t) (by show 1 ≤ y.2 + n; omega) (by show y.1 + (y.2 + n) ≤ P; omega) h4 (fun z hz => by show y.1 + (y.2 + n) ≤ z.1; have := ht z hz; omega)
        refine ⟨rf_mono (by show lo ≤ y.1; exact h1) g2, fun x => ?_, ?_⟩
        · rw [g3 x]
          simp only [cnt]
          unfold ind
          simp only
          repeat' split
          all_goals omega
        · rw [g4]; simp only [tot_cons]; omega
      · have ht : ∀ z ∈ y :: t, p + n ≤ z.1 := fun z hz => by
          rcases List.mem_cons.1 hz with rfl | hz
          · omega
          · have := rf_mem h4 z hz; omega
        obtain ⟨g1, g2, g3, g4⟩ := merge_right (P := P) (r := (p, n)) (l := y :: t) hn hP ⟨h1, h2, h3, h4⟩ (fun z hz => ht z hz)
        refine ⟨rf_mono hlo g2, fun x => ?_, ?_⟩
        · rw [g3 x]; simp only [cnt]; omega
        · rw [g4]; simp only [tot_cons]; omega
    · rw [if_neg hc]
      obtain ⟨g1, g2, g3⟩ := give_right hn hP t (y.1 + y.2 + 1) h4 (by omega) (fun r hr => hd r (by simp [hr]))
      exact ⟨⟨h1, h2, h3, g1⟩, fun x => by simp only [cnt, g2 x]; omega, by simp only [tot_cons, g3]; omega⟩
theorem hasB_iff {p n : Int} {r : Int × Int} (h0 : 0 ≤ p) (hn : 1 ≤ n) : hasB p n r = true ↔ r.1 < p + n ∧ p < r.1 + r.2 := by
  unfold hasB
  rw [decide_eq_true_eq]
  constructor
  · rintro ⟨_, h | h, h3⟩
    · omega
    · exact ⟨by omega, h3⟩
  · rintro ⟨h1, h2⟩; exact ⟨by omega, .inr ⟨h0, by omega⟩, h2⟩
theorem giveI_right {P p n : Int} {l ys : List (Int × Int)} (hr : RightFrom P 0 l) (h : giveI l P p n = some ys) :
    RightFrom P 0 ys ∧ (∀ x, cnt x ys = cnt x l + ind x (p, n)) ∧ totI ys = totI l + n := by
  unfold giveI at h
  split at h
  · cases h
  rename_i hb
  cases h
  refine give_right (by omega) (by omega) l 0 hr (by omega) fun r hr => ?_
  have hh : ¬ hasB p n r = true := fun hh => hb (.inr (.inr (.inr (.inr (List.any_eq_true.2 ⟨r, hr, hh⟩)))))
  rw [hasB_iff (by omega) (by omega)] at hh
  omega
theorem cnt_mem {x : Int} {r : Int × Int} : ∀ {l : List (Int × Int)}, r ∈ l → ind x r ≤ cnt x l
  | [], h => by cases h
  | q :: l, h => by
    rcases List.mem_cons.1 h with rfl | h
    · have := cnt_nn x l; simp only [cnt]; omega
    · have := cnt_mem (x := x) h; have := ind_nn x q; simp only [cnt]; omega
theorem giveI_some {P p n : Int} {l : List (Int × Int)} (hr : RightFrom P 0 l) (h0 : 0 ≤ p) (hn : 1 ≤ n) (hP : p + n ≤ P) (hd : ∀ x, cnt x l + ind x (p, n) ≤ 1) : giveI l P p n = some (giveL l p n) := by
  unfold giveI
  rw [if_neg]
  rintro (h | h | h | h | h)
  · omega
  · omega
  · omega
  · omega
  · obtain ⟨r, hr1, hh⟩ := List.any_eq_true.1 h
    rw [hasB_iff h0 hn] at hh
    have hm := rf_mem hr r hr1
    have h1 := cnt_mem (x := max p r.1) hr1
    have h2 := hd (max p r.1)
    have h3 : ind (max p r.1) r = 1 := by unfold ind; rw [if_pos]; omega
    have h4 : ind (max p r.1) (p, n) = 1 := by unfold ind; rw [if_pos]; simp only; omega
    omega
theorem free_all {P : Int} {l : List (Int × Int)} (hP : 1 ≤ P) (hr : RightFrom P 0 l) (hc : ∀ x, 0 ≤ x → x < P → 1 ≤ cnt x l) : l = [(0, P)] := by
  have key : ∀ (l : List (Int × Int)) (lo x : Int), RightFrom P lo l → x < lo → cnt x l = 0 := by
    intro l
    induction l with
    | nil => intros; rfl
    | cons r l ih =>
      rintro lo x ⟨h1, h2, h3, h4⟩ hx
      simp only [cnt]
      rw [ih _ x h4 (by omega)]
      unfold ind
      rw [if_neg (by omega)]; rfl
  cases l with
  | nil => have := hc 0 (by omega) (by omega); simp [cnt] at this
  | cons r l =>
    obtain ⟨h1, h2, h3, h4⟩ := hr
    have hr1 : r.1 = 0 := by
      refine Decidable.byContradiction fun h => ?_
      have := hc 0 (by omega) (by omega)
      rw [key (r :: l) r.1 0 ⟨Int.le_refl _, h2, h3, h4⟩ (by omega)] at this
      omega
    have hr2 : r.1 + r.2 = P := by
      refine Decidable.byContradiction fun h => ?_
      have := hc (r.1 + r.2) (by omega) (by omega)
      simp only [cnt] at this
      rw [key l _ (r.1 + r.2) h4 (by omega)] at this
      unfold ind at this
      rw [if_neg (by omega)] at this
      omega
    cases l with
    | nil =>
      obtain ⟨a, b⟩ := r
      simp only at hr1 hr2
      subst hr1
      rw [show b = P by omega]
    | cons q l => obtain ⟨g1, g2, g3, _⟩ := h4; omega
end Go.Proofs.YtamecmklcnohjaaGreat.Sep
namespace Go.Proofs.YtamecmklcnohjaaGreat.Sep
open Go.RowKit
set_option linter.unusedSimpArgs false
set_option linter.unusedVariables false

def Pg (b : Nat) (P : Int) (fr : List (Int × Int)) (t : Int) : HP := fun H => ∃ x : Option Addr × Nat, SL [pt b (.cells [.int .i64 P, .slice x.1 fr.length x.2, .int .i64 t].toArray 192 (0, 0)), Sl eRun x.1 x.2 fr] H
theorem Pg.open {b : Nat} {P : Int} {fr : List (Int × Int)} {t : Int} : ∀ H, Pg b P fr t H → ∃ x : Option Addr × Nat, True ∧ SL [pt b (.cells [.int .i64 P, .slice x.1 fr.length x.2, .int .i64 t].toArray 192 (0, 0)), Sl eRun x.1 x.2 fr] H := fun H ⟨x, h⟩ => ⟨x, trivial, h⟩
theorem Pg.fold {b : Nat} {P : Int} {fr : List (Int × Int)} {t : Int} {a : Option Addr} {c : Nat} : ∀ H, SL [pt b (.cells [.int .i64 P, .slice a fr.length c, .int .i64 t].toArray 192 (0, 0)), Sl eRun a c fr] H → Pg b P fr t H := fun H h => ⟨(a, c), h⟩
def tickI (t : Int) (m : Nat) : Int := IntKind.i64.wrap (t + (1 + (m : Int)))
set_option maxHeartbeats 8000000
attribute [local irreducible] X XE XO XD XDi XDa PV RV DV pt base Spec Sl Mp Keeps Pg

theorem clone_spec (A : HP) (a : Option Addr) (c m : Nat) (xs : List (Int × Int)) (hm : m = xs.length) (hV : View A eRun a xs) (hl : xs.length ≤ 1048576) :
    Spec Tryz.prog 135 [.slice a m c] [A] (fun v L => ∃ a' c', v = .slice a' xs.length c' ∧ L = [A, Sl eRun a' c' xs]) := by
  subst hm
  refine Spec.intro (IsEnt.out) Tryz.func135 rfl Tryz.ntmps135 (by simp) (fun w0 F => ?_)
  simp only [envOf, List.zipIdx, List.map, List.cons_append, List.nil_append, Nat.zero_add, Nat.reduceAdd]
  (repeat refine Z ?_)
  refine XO_pv pv_eqnilS (hk := ?_)
  (repeat refine Z ?_)
  cases a with
  | none =>
    refine X_cond rfl (fun _ => ?_) (fun h => by cases h)
    refine X_fact (A := A) (p := xs = []) (by exact FDs) (fun H hH => by rcases hV H hH with h | ⟨_, h, _⟩; exact h; cases h) (fun hx => ?_)
    subst hx
    (repeat refine Z ?_)
    refine XE_conv (fun _ => SL_nilSl eRun) ?_
    refine XE_ret (.inl rfl) (tells_tmps rfl rfl) ⟨_, ⟨none, 0, rfl, rfl⟩, by exact EN⟩
  | some ad =>
    refine X_cond rfl (fun h => by cases h) (fun _ => ?_)
    (repeat refine Z ?_)
    refine XO_dv (dv_lit (E' := eRun) []) (hk := ?_)
    rintro _ _ ⟨lb, rfl, rfl⟩
    (repeat refine Z ?_)
    refine XO_dv (dv_append (E' := eRun) (xs := []) (ys := xs) (A := A) (hv := hV) (hb := by simp; omega)) (hk := ?_)
    rintro _ _ ⟨a3, c3, rfl, rfl⟩
    rw [List.nil_append]
    (repeat refine Z ?_)
    refine XE_ret (.inl rfl) (tells_tmps rfl rfl) ⟨_, ⟨a3, c3, rfl, rfl⟩, by exact EN⟩
theorem pnew_spec (p : Int) : Spec Tryz.prog 54 [.int .i64 p] [] (fun v L => ∃ b, v = .pointer (some ⟨b, 0, none⟩) ∧ L = [Pg b (min (max p 1) 1048576) [(0, min (max p 1) 1048576)] 0]) := by
  refine Spec.intro (IsEnt.out) Tryz.func54 rfl Tryz.ntmps54 (by simp) (fun w0 F => ?_)
  simp only [envOf, List.zipIdx, List.map, List.cons_append, List.nil_append, Nat.zero_add, Nat.reduceAdd]
  (repeat refine Z ?_)
  refine XO_dv (dv_lit (E' := eRun) [(0, min (max p 1) 1048576)]) (hk := ?_)
  rintro _ _ ⟨lb, rfl, rfl⟩
  (repeat refine Z ?_)
  refine XO_pv (pv_buildG [.int .i64 (min (max p 1) 1048576), .slice (some ⟨lb, 0, none⟩) 1 1, .int .i64 0]) (hk := ?_)
  (repeat refine Z ?_)
  refine XO_dv dv_box (hk := ?_)
  rintro _ _ ⟨b, rfl, rfl⟩
  (repeat refine Z ?_)
  refine XE_ret (.inl rfl) (tells_tmps rfl rfl) ⟨_, ⟨b, rfl, rfl⟩, ?_⟩
  refine ent_fold (by exact FAs) (Pg.fold (a := some ⟨lb, 0, none⟩) (c := 1)) ?_
  exact EN
theorem done_spec (b m m' c c' : Nat) (P t : Int) (a a' : Option Addr) (hm : m ≤ 1048576) : Spec Tryz.prog 133 [.pointer (some ⟨b, 0, none⟩), .slice a' m' c'] [pt b (.cells [.int .i64 P, .slice a m c, .int .i64 t].toArray 192 (0, 0))]
    (fun v L => v = .int .i64 0 ∧ L = [pt b (.cells [.int .i64 P, .slice a' m' c', .int .i64 (tickI t m)].toArray 192 (0, 0))]) := by
  refine Spec.intro (IsEnt.out) Tryz.func133 rfl Tryz.ntmps133 (by simp) (fun w0 F => ?_)
  simp only [envOf, List.zipIdx, List.map, List.cons_append, List.nil_append, Nat.zero_add, Nat.reduceAdd]
  (repeat refine Z ?_)
  (repeat refine ZD ?_)
  refine XD_one (h := ?_)
  refine XDa_dvk0 dv_store (K := _) (hk := ?_)
  rintro _ _ rfl
  refine ⟨by exact KP, ?_⟩
  (refine XD_end (h := ?_); (repeat refine Z ?_))
  refine XO_dv0 dv_store (hk := ?_)
  rintro _ _ rfl
  (repeat refine Z ?_)
  refine XE_ret (.inl rfl) (tells_tmps rfl rfl) ⟨_, ⟨rfl, rfl⟩, by exact EN⟩
def takeP (b : Nat) (P : Int) (fr : List (Int × Int)) (t n : Int) : Value → List HP → Prop :=
  if n < 1 then fun v L => v = .tuple #[.int .i64 0, .int .i64 1] ∧ L = [Pg b P fr t] else match takeI fr n with
  | none => fun v L => v = .tuple #[.int .i64 0, .int .i64 4] ∧ L = [Pg b P fr t]
  | some q => fun v L => v = .tuple #[.int .i64 q.1, .int .i64 0] ∧ L = [Pg b P q.2 (tickI t fr.length)]
theorem ptake_spec (b : Nat) (P t n : Int) (fr : List (Int × Int)) (hl : fr.length ≤ 1048576) (hB : Bd fr) : Spec Tryz.prog 128 [.pointer (some ⟨b, 0, none⟩), .int .i64 n] [Pg b P fr t] (takeP b P fr t n) := by
  refine Spec.intro (IsEnt.out) Tryz.func128 rfl Tryz.ntmps128 (by simp) (fun w0 F => ?_)
  simp only [envOf, List.zipIdx, List.map, List.cons_append, List.nil_append, Nat.zero_add, Nat.reduceAdd]
  (repeat refine Z ?_)
  refine X_cond rfl (fun h => ?_) (fun h => ?_) <;> simp only [decide_eq_true_eq, decide_eq_false_iff_not] at h
  · unfold takeP
    rw [if_pos h]
    (repeat refine Z ?_)
    refine XE_ret (.inl rfl) (tells_tmps rfl rfl) ⟨_, ⟨rfl, rfl⟩, by exact EN⟩
  unfold takeP
  rw [if_neg h]
  refine X_open .here Pg.open ?_
  rintro ⟨a, c⟩ -
  dsimp only [List.cons_append, List.nil_append]
  (repeat refine Z ?_)
  refine XO_call (take_spec (Sl eRun a c fr) a c fr n Sl.view hl hB) (hk := ?_)
  intro v L' hpost
  cases ht : takeI fr n with
  | none =>
    rw [ht] at hpost
    obtain ⟨rfl, rfl⟩ := hpost
    (repeat refine Z ?_)
    refine X_cond rfl (fun _ => ?_) (fun h => by cases h)
    (repeat refine Z ?_)
    refine XE_ret (.inl rfl) (tells_tmps rfl rfl) ⟨_, ⟨rfl, rfl⟩, ?_⟩
    (try simp only [List.cons_append, List.nil_append])
    refine ent_fold (by exact FAs) Pg.fold ?_
    exact EN
  | some q =>
    obtain ⟨p, ys⟩ := q
    rw [ht] at hpost
    obtain ⟨nb, c', rfl, rfl⟩ := hpost
    (repeat refine Z ?_)
    refine X_cond rfl (fun h => by cases h) (fun _ => ?_)
    (repeat refine Z ?_)
    refine XO_call (done_spec b fr.length ys.length c c' P t a (some ⟨nb, 0, none⟩) hl) (hk := ?_)
    rintro _ _ ⟨rfl, rfl⟩
    (repeat refine Z ?_)
    refine XE_ret (.inl rfl) (tells_tmps rfl rfl) ⟨_, ⟨rfl, rfl⟩, ?_⟩
    (try simp only [List.cons_append, List.nil_append])
    refine ent_fold (by exact FAs) Pg.fold ?_
    exact EN
def giveP (b : Nat) (P : Int) (fr : List (Int × Int)) (t page n : Int) : Value → List HP → Prop := match giveI fr P page n with
  | none => fun v L => v = .int .i64 1 ∧ L = [Pg b P fr t]
  | some ys => fun v L => v = .int .i64 0 ∧ L = [Pg b P ys (tickI t fr.length)]
theorem pgive_spec (b : Nat) (P t page n : Int) (fr : List (Int × Int)) (hl : fr.length ≤ 1048576) (hB : Bd fr) (p0 : 0 ≤ P) (p1 : P ≤ 1048576) (n0 : -9223372036854775808 ≤ n) (n1 : n ≤ 9223372036854775807) (q0 : -9223372036854775808 ≤ page) (q1 : page ≤ 9223372036854775807) :
    Spec Tryz.prog 78 [.pointer (some ⟨b, 0, none⟩), .int .i64 page, .int .i64 n] [Pg b P fr t] (giveP b P fr t page n) := by
  refine Spec.intro (IsEnt.out) Tryz.func78 rfl Tryz.ntmps78 (by simp) (fun w0 F => ?_)
  simp only [envOf, List.zipIdx, List.map, List.cons_append, List.nil_append, Nat.zero_add, Nat.reduceAdd]
  (repeat refine Z ?_)
  refine X_cond rfl (fun h => by cases h) (fun _ => ?_)
  refine X_open .here Pg.open ?_
  rintro ⟨a, c⟩ -
  dsimp only [List.cons_append, List.nil_append]
  refine X_fact (A := Sl eRun a c fr) (by exact FDs) Sl.cap (fun hc => ?_)
  (repeat refine Z ?_)
  (repeat refine ZD ?_)
  refine XD_one (h := ?_)
  refine XDa_dvA (dv_call (give_spec (Sl eRun a c fr) a c fr P page n Sl.view hc hl hB p0 p1 n0 n1 q0 q1)) (hk := ?_)
  rintro v _ ⟨L', hpost, rfl⟩
  unfold giveP
  cases ht : giveI fr P page n with
  | none =>
    rw [ht] at hpost
    obtain ⟨rfl, rfl⟩ := hpost
    refine ⟨by exact KP, ?_⟩
    (repeat refine ZD ?_)
    (refine XD_one (h := ?_); refine XDa_dvA (dv_of_rv (rv_of_pv pv_assign)) (hk := ?_); rintro _ _ ⟨rfl, rfl⟩; refine ⟨by exact KP, ?_⟩)
    (refine XD_one (h := ?_); refine XDa_dvA (dv_of_rv (rv_of_pv pv_assign)) (hk := ?_); rintro _ _ ⟨rfl, rfl⟩; refine ⟨by exact KP, ?_⟩)
    (refine XD_end (h := ?_); (repeat refine Z ?_))
    refine X_cond rfl (fun _ => ?_) (fun h => by cases h)
    (repeat refine Z ?_)
    refine XE_ret (.inl rfl) (tells_tmps rfl rfl) ⟨_, ⟨rfl, rfl⟩, ?_⟩
    (try simp only [List.cons_append, List.nil_append])
    refine ent_fold (by exact FAs) Pg.fold ?_
    exact EN
  | some ys =>
    rw [ht] at hpost
    obtain ⟨a', c', rfl, rfl⟩ := hpost
    refine ⟨by exact KP, ?_⟩
    (repeat refine ZD ?_)
    (refine XD_one (h := ?_); refine XDa_dvA (dv_of_rv (rv_of_pv pv_assign)) (hk := ?_); rintro _ _ ⟨rfl, rfl⟩; refine ⟨by exact KP, ?_⟩)
    (refine XD_one (h := ?_); refine XDa_dvA (dv_of_rv (rv_of_pv pv_assign)) (hk := ?_); rintro _ _ ⟨rfl, rfl⟩; refine ⟨by exact KP, ?_⟩)
    (refine XD_end (h := ?_); (repeat refine Z ?_))
    refine X_cond rfl (fun h => by cases h) (fun _ => ?_)
    (repeat refine Z ?_)
    refine XO_call (done_spec b fr.length ys.length c c' P t a a' hl) (hk := ?_)
    rintro _ _ ⟨rfl, rfl⟩
    (repeat refine Z ?_)
    refine XE_ret (.inl rfl) (tells_tmps rfl rfl) ⟨_, ⟨rfl, rfl⟩, ?_⟩
    (try simp only [List.cons_append, List.nil_append])
    refine ent_fold (by exact FAs) Pg.fold ?_
    exact EN
theorem pruns_spec (b : Nat) (P t : Int) (fr : List (Int × Int)) (hl : fr.length ≤ 1048576) : Spec Tryz.prog 82 [.pointer (some ⟨b, 0, none⟩)] [Pg b P fr t] (fun v L => ∃ a c, v = .slice a fr.length c ∧ L = [Pg b P fr t, Sl eRun a c fr]) := by
  refine Spec.intro (IsEnt.out) Tryz.func82 rfl Tryz.ntmps82 (by simp) (fun w0 F => ?_)
  simp only [envOf, List.zipIdx, List.map, List.cons_append, List.nil_append, Nat.zero_add, Nat.reduceAdd]
  (repeat refine Z ?_)
  refine X_cond rfl (fun h => by cases h) (fun _ => ?_)
  refine X_open .here Pg.open ?_
  rintro ⟨a, c⟩ -
  dsimp only [List.cons_append, List.nil_append]
  (repeat refine Z ?_)
  refine XO_call (clone_spec (Sl eRun a c fr) a c fr.length fr rfl Sl.view hl) (hk := ?_)
  rintro _ _ ⟨a', c', rfl, rfl⟩
  (repeat refine Z ?_)
  refine XE_ret (.inl rfl) (tells_tmps rfl rfl) ⟨_, ⟨a', c', rfl, rfl⟩, ?_⟩
  (try simp only [List.cons_append, List.nil_append])
  refine ent_fold (by exact FAs) Pg.fold ?_
  exact EN
theorem pfree_spec (b : Nat) (P t : Int) (fr : List (Int × Int)) (hl : fr.length ≤ 1048576) (hB : Bd fr) : Spec Tryz.prog 81 [.pointer (some ⟨b, 0, none⟩)] [Pg b P fr t] (fun v L => v = .int .i64 (totI fr) ∧ L = [Pg b P fr t]) := by
  refine Spec.intro (IsEnt.out) Tryz.func81 rfl Tryz.ntmps81 (by simp) (fun w0 F => ?_)
  simp only [envOf, List.zipIdx, List.map, List.cons_append, List.nil_append, Nat.zero_add, Nat.reduceAdd]
  (repeat refine Z ?_)
  refine XO_call (pruns_spec b P t fr hl) (hk := ?_)
  rintro _ _ ⟨a', c', rfl, rfl⟩
  (repeat refine Z ?_)
  refine XO_call (total_spec (Sl eRun a' c' fr) a' c' fr Sl.view hl hB) (hk := ?_)
  rintro _ _ ⟨rfl, rfl⟩
  (repeat refine Z ?_)
  refine XE_ret (.inl rfl) (tells_tmps rfl rfl) ⟨_, ⟨rfl, rfl⟩, by exact EN⟩
end Go.Proofs.YtamecmklcnohjaaGreat.Sep
namespace Go.Proofs.YtamecmklcnohjaaGreat.Sep
open Go.RowKit
set_option linter.unusedSimpArgs false
set_option linter.unusedVariables false
set_option maxHeartbeats 8000000
attribute [local irreducible] X XE XO XD XDi XDa PV RV DV pt base Spec Sl Mp Keeps

def cpages (c : Int) : Int := if 0 ≤ c ∧ c < 7 then ((2 ^ c.toNat : Nat) : Int) else 0
def cclass (p : Int) : Int := if p < 1 then -1 else if p ≤ 1 then 0 else if p ≤ 2 then 1 else if p ≤ 4 then 2 else if p ≤ 8 then 3 else if p ≤ 16 then 4 else if p ≤ 32 then 5 else if p ≤ 64 then 6 else -1
theorem seven {c : Int} (h0 : 0 ≤ c) (h1 : c < 7) : c = 0 ∨ c = 1 ∨ c = 2 ∨ c = 3 ∨ c = 4 ∨ c = 5 ∨ c = 6 := by omega
theorem cpages_spec (c : Int) : Spec Tryz.prog 115 [.int .i64 c] [] (fun v L => v = .int .i64 (cpages c) ∧ L = []) := by
  refine Spec.intro (IsEnt.out) Tryz.func115 rfl Tryz.ntmps115 (by simp) (fun w0 F => ?_)
  simp only [envOf, List.zipIdx, List.map, List.cons_append, List.nil_append, Nat.zero_add, Nat.reduceAdd]
  (repeat refine Z ?_)
  refine XO_either (hT := fun h => ?_) (hF := fun h => ?_) <;> simp only [decide_eq_true_eq, decide_eq_false_iff_not] at h
  · (repeat refine Z ?_)
    refine X_cond rfl (fun _ => ?_) (fun h => by cases h)
    (repeat refine Z ?_)
    unfold cpages
    rw [if_neg (by omega)]
    refine XE_ret (.inl rfl) (tells_tmps rfl rfl) ⟨_, ⟨rfl, rfl⟩, by exact EN⟩
  · (repeat refine Z ?_)
    refine X_cond rfl (fun h2 => ?_) (fun h2 => ?_) <;> simp only [decide_eq_true_eq, decide_eq_false_iff_not] at h2
    · (repeat refine Z ?_)
      unfold cpages
      rw [if_neg (by omega)]
      refine XE_ret (.inl rfl) (tells_tmps rfl rfl) ⟨_, ⟨rfl, rfl⟩, by exact EN⟩
    · (repeat refine Z ?_)
      refine XO_pv (pv_shlN (b := c)) (hk := ?_)
      (repeat refine Z ?_)
      have e1 : IntKind.i64.wrap (1 * ((2 ^ min c.toNat IntKind.i64.bits : Nat) : Int)) = cpages c := by
        rcases seven (c := c) (by omega) (by omega) with rfl | rfl | rfl | rfl | rfl | rfl | rfl <;> rfl
      rw [e1]
      refine XE_ret (.inl rfl) (tells_tmps rfl rfl) ⟨_, ⟨rfl, rfl⟩, by exact EN⟩
theorem cclass_spec (p : Int) : Spec Tryz.prog 116 [.int .i64 p] [] (fun v L => v = .int .i64 (cclass p) ∧ L = []) := by
  refine Spec.intro (IsEnt.out) Tryz.func116 rfl Tryz.ntmps116 (by simp) (fun w0 F => ?_)
  simp only [envOf, List.zipIdx, List.map, List.cons_append, List.nil_append, Nat.zero_add, Nat.reduceAdd]
  (repeat refine Z ?_)
  refine X_loop (ι := Nat) (fun k => k ≤ 7 ∧ ∀ j : Nat, j < k → ¬ (0 < p ∧ p ≤ cpages j)) (fun k => [(0, .int .i64 p), (4, .int .i64 k)]) (fun _ => F) (fun k => 7 - k) 0 ⟨Nat.zero_le _, fun j h => by omega⟩ ?_ (fun _ h => h) ?_
  · exact SBs
  rintro k ⟨hk, hj⟩
  dsimp only at hk hj ⊢
  (repeat refine Z ?_)
  refine X_cond rfl (fun hc => ?_) (fun hc => ?_) <;> simp only [decide_eq_true_eq, decide_eq_false_iff_not] at hc
  · (repeat refine Z ?_)
    refine XO_either (hT := fun h => ?_) (hF := fun h => ?_) <;> simp only [decide_eq_true_eq, decide_eq_false_iff_not] at h
    · (repeat refine Z ?_)
      refine XO_call (cpages_spec k) (hk := ?_)
      rintro _ _ ⟨rfl, rfl⟩
      (repeat refine Z ?_)
      refine X_cond rfl (fun h2 => ?_) (fun h2 => ?_) <;> simp only [decide_eq_true_eq, decide_eq_false_iff_not] at h2
      · have hcl : cclass p = k := by
          have key : ∀ j : Nat, j < k → cpages j < p := fun j hjk => by have := hj j hjk; omega
          have hk7 : k < 7 := by omega
          have h7 : k = 0 ∨ k = 1 ∨ k = 2 ∨ k = 3 ∨ k = 4 ∨ k = 5 ∨ k = 6 := by omega
          rcases h7 with rfl | rfl | rfl | rfl | rfl | rfl | rfl
          · have h3 : p ≤ 1 := h2
            unfold cclass; split <;> omega
          · have h3 : p ≤ 2 := h2
            have h4 : (1 : Int) < p := key 0 (by decide)
            unfold cclass; repeat' split
            all_goals omega
          · have h3 : p ≤ 4 := h2
            have h4 : (2 : Int) < p := key 1 (by decide)
            unfold cclass; repeat' split
            all_goals omega
          · have h3 : p ≤ 8 := h2
            have h4 : (4 : Int) < p := key 2 (by decide)
            unfold cclass; repeat' split
            all_goals omega
          · have h3 : p ≤ 16 := h2
            have h4 : (8 : Int) < p := key 3 (by decide)
            unfold cclass; repeat' split
            all_goals omega
          · have h3 : p ≤ 32 := h2
            have h4 : (16 : Int) < p := key 4 (by decide)
            unfold cclass; repeat' split
            all_goals omega
          · have h3 : p ≤ 64 := h2
            have h4 : (32 : Int) < p := key 5 (by decide)
            unfold cclass; repeat' split
            all_goals omega
        (repeat refine Z ?_)
        rw [← hcl]
        refine XE_ret (.inl rfl) (tells_tmps rfl rfl) ⟨_, ⟨rfl, rfl⟩, by exact EN⟩
      · (repeat refine Z ?_)
        refine X_round (k + 1) ?_ ?_ ?_ (fun _ h => h)
        · refine ⟨by omega, fun j hjk => ?_⟩
          rcases Nat.lt_or_ge j k with hlt | hge
          · exact hj j hlt
          · obtain rfl : j = k := by omega
            exact fun h3 => h2 h3.2
        · show 7 - (k + 1) < 7 - k; omega
        · exact SBs
    · (repeat refine Z ?_)
      refine X_cond rfl (fun h => by cases h) (fun _ => ?_)
      (repeat refine Z ?_)
      refine X_round (k + 1) ?_ ?_ ?_ (fun _ h => h)
      · refine ⟨by omega, fun j hjk h3 => h h3.1⟩
      · show 7 - (k + 1) < 7 - k; omega
      · exact SBs
  · obtain rfl : k = 7 := by omega
    have hcl : cclass p = -1 := by
      by_cases h0 : 0 < p
      · have h4 : (64 : Int) < p := by
          have := hj 6 (by decide)
          have e : cpages ((6 : Nat) : Int) = 64 := rfl
          rw [e] at this; omega
        unfold cclass; repeat' split
        all_goals omega
      · unfold cclass; rw [if_pos (by omega)]
    (repeat refine Z ?_)
    rw [← hcl]
    refine XE_ret (.inl rfl) (tells_tmps rfl rfl) ⟨_, ⟨rfl, rfl⟩, by exact EN⟩
end Go.Proofs.YtamecmklcnohjaaGreat.Sep
namespace Go.Proofs.YtamecmklcnohjaaGreat.Sep
open Go.RowKit
set_option linter.unusedSimpArgs false
set_option linter.unusedVariables false

def KcRel (fl : List Int) (ks : Nat → List Int) : Prop := fl.length = 35 ∧ ∀ k, k < 7 → (ks k).length ≤ 4 ∧ fl.getD (k * 5 + 4) 0 = ((ks k).length : Int) ∧ ∀ j, j < (ks k).length → fl.getD (k * 5 + j) 0 = (ks k).getD j 0
def Kc (b : Nat) (ks : Nat → List Int) : HP := fun H => ∃ fl, KcRel fl ks ∧ SL [Sl (eI .i64) (some ⟨b, 0, none⟩) 35 fl] H
theorem Kc.open {b : Nat} {ks : Nat → List Int} : ∀ H, Kc b ks H → ∃ fl, KcRel fl ks ∧ SL [Sl (eI .i64) (some ⟨b, 0, none⟩) 35 fl] H := fun H h => h
theorem Kc.fold {b : Nat} {fl : List Int} {ks : Nat → List Int} (h : KcRel fl ks) : ∀ H, SL [Sl (eI .i64) (some ⟨b, 0, none⟩) 35 fl] H → Kc b ks H := fun H hs => ⟨fl, h, hs⟩
def upd {α : Type} (ks : Nat → α) (c : Nat) (l : α) : Nat → α := fun k => if k = c then l else ks k
set_option maxHeartbeats 8000000
attribute [local irreducible] X XE XO XD XDi XDa PV RV DV pt base Spec Sl Mp Keeps Kc

theorem KcRel.none : KcRel (List.replicate 35 0) (fun _ => []) := by
  refine ⟨by simp, fun k hk => ⟨Nat.zero_le _, ?_, fun j hj => by simp at hj⟩⟩
  have : k = 0 ∨ k = 1 ∨ k = 2 ∨ k = 3 ∨ k = 4 ∨ k = 5 ∨ k = 6 := by omega
  rcases this with rfl | rfl | rfl | rfl | rfl | rfl | rfl <;> rfl
theorem getD_set {fl : List Int} {i j : Nat} {v : Int} (hi : i < fl.length) : (fl.set i v).getD j 0 = if i = j then v else fl.getD j 0 := by
  simp only [List.getD, List.getElem?_set]
  by_cases h : i = j
  · subst h; simp [hi]
  · simp [h]
theorem KcRel.push {fl : List Int} {ks : Nat → List Int} {c : Nat} {p : Int} (h : KcRel fl ks) (hc : c < 7) (hn : (ks c).length < 4) : KcRel ((fl.set (c * 5 + (ks c).length) p).set (c * 5 + 4) ((ks c).length + 1)) (upd ks c (ks c ++ [p])) := by
  obtain ⟨hl, hk⟩ := h
  have l1 : c * 5 + (ks c).length < fl.length := by omega
  have l2 : c * 5 + 4 < (fl.set (c * 5 + (ks c).length) p).length := by simp; omega
  refine ⟨by simp [hl], fun k hk7 => ?_⟩
  obtain ⟨g1, g2, g3⟩ := hk k hk7
  unfold upd
  by_cases hkc : k = c
  · subst hkc
    simp only [if_true]
    refine ⟨by simp; omega, ?_, fun j hj => ?_⟩
    · rw [getD_set l2, if_pos rfl]; simp
    · rw [getD_set l2, if_neg (by simp at hj; omega), getD_set l1]
      by_cases hj2 : j = (ks k).length
      · subst hj2; rw [if_pos rfl]; simp [List.getD]
      · simp at hj
        rw [if_neg (by omega), g3 j (by omega)]
        simp [List.getD, List.getElem?_append_left (show j < (ks k).length by omega)]
  · simp only [if_neg hkc]
    refine ⟨g1, ?_, fun j hj => ?_⟩
    · rw [getD_set l2, if_neg (by omega), getD_set l1, if_neg (by omega)]; exact g2
    · rw [getD_set l2, if_neg (by omega), getD_set l1, if_neg (by omega)]; exact g3 j hj
theorem KcRel.pop {fl : List Int} {ks : Nat → List Int} {c : Nat} (h : KcRel fl ks) (hc : c < 7) : KcRel (fl.set (c * 5 + 4) ((ks c).length - 1 : Nat)) (upd ks c (ks c).dropLast) := by
  obtain ⟨hl, hk⟩ := h
  have l2 : c * 5 + 4 < fl.length := by omega
  refine ⟨by simp [hl], fun k hk7 => ?_⟩
  obtain ⟨g1, g2, g3⟩ := hk k hk7
  unfold upd
  by_cases hkc : k = c
  · subst hkc
    simp only [if_true]
    refine ⟨by simp; omega, ?_, fun j hj => ?_⟩
    · rw [getD_set l2, if_pos rfl]; simp
    · simp at hj
      rw [getD_set l2, if_neg (by omega), g3 j (by omega)]
      rw [List.getD, List.getD, List.getElem?_dropLast, if_pos (by omega)]
  · simp only [if_neg hkc]
    refine ⟨g1, ?_, fun j hj => ?_⟩
    · rw [getD_set l2, if_neg (by omega)]; exact g2
    · rw [getD_set l2, if_neg (by omega)]; exact g3 j hj
theorem cnew_spec : Spec Tryz.prog 55 [] [] (fun v L => ∃ b, v = .pointer (some ⟨b, 0, none⟩) ∧ L = [Kc b (fun _ => [])]) := by
  refine Spec.intro (IsEnt.out) Tryz.func55 rfl Tryz.ntmps55 (by simp) (fun w0 F => ?_)
  simp only [envOf, List.zipIdx, List.map, List.cons_append, List.nil_append, Nat.zero_add, Nat.reduceAdd]
  (repeat refine Z ?_)
  refine XO_dv dv_box (hk := ?_)
  rintro _ _ ⟨b, rfl, rfl⟩
  refine XO_conv (fun _ h => SL.head (Sl.of_pt (E' := eI .i64) (xs := List.replicate 35 0) rfl) h) ?_
  (repeat refine Z ?_)
  refine XE_ret (.inl rfl) (tells_tmps rfl rfl) ⟨_, ⟨b, rfl, rfl⟩, ?_⟩
  refine ent_fold (by exact FAs) (Kc.fold KcRel.none) ?_
  exact EN
def ofC (b : Nat) (c : Int) : Option Addr := if 0 ≤ c ∧ c < 7 then some ⟨b, c.toNat * 5, none⟩ else none
theorem cpages_pos {c : Int} (h0 : 0 ≤ c) (h1 : c < 7) : 0 < cpages c := by
  unfold cpages
  rw [if_pos ⟨h0, h1⟩]
  have := Nat.two_pow_pos c.toNat
  omega
theorem cof_spec (b : Nat) (c : Int) : Spec Tryz.prog 165 [.pointer (some ⟨b, 0, none⟩), .int .i64 c] [] (fun v L => v = .pointer (ofC b c) ∧ L = []) := by
  refine Spec.intro (IsEnt.out) Tryz.func165 rfl Tryz.ntmps165 (by simp) (fun w0 F => ?_)
  simp only [envOf, List.zipIdx, List.map, List.cons_append, List.nil_append, Nat.zero_add, Nat.reduceAdd]
  (repeat refine Z ?_)
  refine XO_call (cpages_spec c) (hk := ?_)
  rintro _ _ ⟨rfl, rfl⟩
  (repeat refine Z ?_)
  refine X_cond rfl (fun h => ?_) (fun h => ?_)
  · have h0 : cpages c = 0 := by simpa using h
    have hn : ¬ (0 ≤ c ∧ c < 7) := fun h' => by have := cpages_pos h'.1 h'.2; omega
    have ho : ofC b c = none := by unfold ofC; rw [if_neg hn]
    rw [ho]
    (repeat refine Z ?_)
    refine XE_ret (.inl rfl) (tells_tmps rfl rfl) ⟨_, ⟨rfl, rfl⟩, by exact EN⟩
  · have h0 : ¬ cpages c = 0 := by simpa using h
    have hn : 0 ≤ c ∧ c < 7 := by
      refine Decidable.byContradiction fun h' => h0 ?_
      unfold cpages; rw [if_neg h']
    have ho : ofC b c = some ⟨b, c.toNat * 5, none⟩ := by unfold ofC; rw [if_pos hn]
    rw [ho]
    (repeat refine Z ?_)
    refine XE_ret (.inl rfl) (tells_tmps rfl rfl) ⟨_, ⟨?_, rfl⟩, by exact EN⟩
    show Value.pointer _ = _
    simp
def cpushP (b : Nat) (ks : Nat → List Int) (c p : Int) : Value → List HP → Prop :=
  if 0 ≤ c ∧ c < 7 ∧ 0 ≤ p ∧ (ks c.toNat).length < 4 then fun v L => v = .bool true ∧ L = [Kc b (upd ks c.toNat (ks c.toNat ++ [p]))] else fun v L => v = .bool false ∧ L = [Kc b ks]
theorem cpush_spec (b : Nat) (ks : Nat → List Int) (c p : Int) : Spec Tryz.prog 130 [.pointer (some ⟨b, 0, none⟩), .int .i64 c, .int .i64 p] [Kc b ks] (cpushP b ks c p) := by
  refine Spec.intro (IsEnt.out) Tryz.func130 rfl Tryz.ntmps130 (by simp) (fun w0 F => ?_)
  simp only [envOf, List.zipIdx, List.map, List.cons_append, List.nil_append, Nat.zero_add, Nat.reduceAdd]
  (repeat refine Z ?_)
  refine XO_call (cof_spec b c) (hk := ?_)
  rintro _ _ ⟨rfl, rfl⟩
  by_cases hc : 0 ≤ c ∧ c < 7
  · have ho : ofC b c = some ⟨b, c.toNat * 5, none⟩ := by unfold ofC; rw [if_pos hc]
    rw [ho]
    (repeat refine Z ?_)
    refine XO_either (hT := fun h => ?_) (hF := fun h => ?_) <;> simp only [decide_eq_true_eq, decide_eq_false_iff_not] at h
    · have hP : cpushP b ks c p = fun v L => v = .bool false ∧ L = [Kc b ks] := by unfold cpushP; rw [if_neg (by omega)]
      rw [hP]
      (repeat refine Z ?_)
      refine X_cond rfl (fun _ => ?_) (fun h => by cases h)
      (repeat refine Z ?_)
      refine XE_ret (.inl rfl) (tells_tmps rfl rfl) ⟨_, ⟨rfl, rfl⟩, by exact EN⟩
    refine XO_open .here Kc.open ?_
    rintro fl ⟨hl, hk⟩
    dsimp only [List.cons_append, List.nil_append]
    obtain ⟨k1, k2, k3⟩ := hk c.toNat (by omega)
    (repeat refine Z ?_)
    refine XO_rv (rv_at (i := c.toNat * 5 + 4)) (hk := ?_)
    rw [k2]
    (repeat refine Z ?_)
    refine X_cond rfl (fun h2 => ?_) (fun h2 => ?_)
    · have h3 : ((ks c.toNat).length : Int) = 4 := by simpa using h2
      have hP : cpushP b ks c p = fun v L => v = .bool false ∧ L = [Kc b ks] := by unfold cpushP; rw [if_neg (by omega)]
      rw [hP]
      (repeat refine Z ?_)
      refine XE_ret (.inl rfl) (tells_tmps rfl rfl) ⟨_, ⟨rfl, rfl⟩, ?_⟩
      refine ent_fold (by exact FAs) (Kc.fold ⟨hl, hk⟩) ?_
      exact EN
    · have h3 : ¬ ((ks c.toNat).length : Int) = 4 := by simpa using h2
      have hP : cpushP b ks c p = fun v L => v = .bool true ∧ L = [Kc b (upd ks c.toNat (ks c.toNat ++ [p]))] := by unfold cpushP; rw [if_pos (by omega)]
      rw [hP]
      have hpu := KcRel.push (p := p) ⟨hl, hk⟩ (show c.toNat < 7 by omega) (by omega)
      (repeat refine Z ?_)
      (repeat refine ZD ?_)
      refine XDi_rvA (rv_at (i := c.toNat * 5 + 4)) (h := ?_)
      rw [k2]
      (repeat refine ZD ?_)
      refine XD_one (h := ?_)
      refine XDa_dvk0 (dv_putAt (kk := .i64) (i := c.toNat * 5 + (ks c.toNat).length * 1)) (K := _) (hk := ?_)
      rintro _ _ rfl
      refine ⟨by exact KP, ?_⟩
      simp only [Nat.mul_one]
      (refine XD_end (h := ?_); (repeat refine Z ?_))
      refine XO_rv (rv_at (i := c.toNat * 5 + 4) (hl := by simp; omega)) (hk := ?_)
      rw [getD_set (by omega), if_neg (by omega), k2]
      (repeat refine Z ?_)
      refine XO_dv0 (dv_putAt (kk := .i64) (i := c.toNat * 5 + 4) (hl := by simp; omega)) (hk := ?_)
      rintro _ _ rfl
      (repeat refine Z ?_)
      refine XE_ret (.inl rfl) (tells_tmps rfl rfl) ⟨_, ⟨rfl, rfl⟩, ?_⟩
      refine ent_fold (by exact FAs) (Kc.fold hpu) ?_
      exact EN
  · have ho : ofC b c = none := by unfold ofC; rw [if_neg hc]
    have hP : cpushP b ks c p = fun v L => v = .bool false ∧ L = [Kc b ks] := by unfold cpushP; rw [if_neg (by omega)]
    rw [ho, hP]
    (repeat refine Z ?_)
    refine X_cond rfl (fun _ => ?_) (fun h => by cases h)
    (repeat refine Z ?_)
    refine XE_ret (.inl rfl) (tells_tmps rfl rfl) ⟨_, ⟨rfl, rfl⟩, by exact EN⟩
def cpopP (b : Nat) (ks : Nat → List Int) (c : Int) : Value → List HP → Prop :=
  if 0 ≤ c ∧ c < 7 ∧ 0 < (ks c.toNat).length then fun v L => v = .tuple #[.int .i64 ((ks c.toNat).getD ((ks c.toNat).length - 1) 0), .bool true] ∧ L = [Kc b (upd ks c.toNat (ks c.toNat).dropLast)] else fun v L => v = .tuple #[.int .i64 0, .bool false] ∧ L = [Kc b ks]
theorem cpop_spec (b : Nat) (ks : Nat → List Int) (c : Int) : Spec Tryz.prog 127 [.pointer (some ⟨b, 0, none⟩), .int .i64 c] [Kc b ks] (cpopP b ks c) := by
  refine Spec.intro (IsEnt.out) Tryz.func127 rfl Tryz.ntmps127 (by simp) (fun w0 F => ?_)
  simp only [envOf, List.zipIdx, List.map, List.cons_append, List.nil_append, Nat.zero_add, Nat.reduceAdd]
  (repeat refine Z ?_)
  refine XO_call (cof_spec b c) (hk := ?_)
  rintro _ _ ⟨rfl, rfl⟩
  by_cases hc : 0 ≤ c ∧ c < 7
  · have ho : ofC b c = some ⟨b, c.toNat * 5, none⟩ := by unfold ofC; rw [if_pos hc]
    rw [ho]
    (repeat refine Z ?_)
    refine XO_open .here Kc.open ?_
    rintro fl ⟨hl, hk⟩
    dsimp only [List.cons_append, List.nil_append]
    obtain ⟨k1, k2, k3⟩ := hk c.toNat (by omega)
    (repeat refine Z ?_)
    refine XO_rv (rv_at (i := c.toNat * 5 + 4)) (hk := ?_)
    rw [k2]
    (repeat refine Z ?_)
    refine X_cond rfl (fun h2 => ?_) (fun h2 => ?_)
    · have h3 : ((ks c.toNat).length : Int) = 0 := by simpa using h2
      have hP : cpopP b ks c = fun v L => v = .tuple #[.int .i64 0, .bool false] ∧ L = [Kc b ks] := by unfold cpopP; rw [if_neg (by omega)]
      rw [hP]
      (repeat refine Z ?_)
      refine XE_ret (.inl rfl) (tells_tmps rfl rfl) ⟨_, ⟨rfl, rfl⟩, ?_⟩
      refine ent_fold (by exact FAs) (Kc.fold ⟨hl, hk⟩) ?_
      exact EN
    · have h3 : ¬ ((ks c.toNat).length : Int) = 0 := by simpa using h2
      have hP : cpopP b ks c = fun v L => v = .tuple #[.int .i64 ((ks c.toNat).getD ((ks c.toNat).length - 1) 0), .bool true] ∧ L = [Kc b (upd ks c.toNat (ks c.toNat).dropLast)] := by unfold cpopP; rw [if_pos (by omega)]
      rw [hP]
      have hpo := KcRel.pop ⟨hl, hk⟩ (show c.toNat < 7 by omega)
      have k4 := k3 ((ks c.toNat).length - 1) (by omega)
      have k5 : (((ks c.toNat).length - 1 : Nat) : Int) = ((ks c.toNat).length : Int) - 1 := by omega
      (repeat refine Z ?_)
      refine XO_rv (rv_at (i := c.toNat * 5 + 4)) (hk := ?_)
      rw [k2]
      (repeat refine Z ?_)
      refine XO_dv0 (dv_putAt (kk := .i64) (i := c.toNat * 5 + 4)) (hk := ?_)
      rintro _ _ rfl
      rw [← k5]
      (repeat refine Z ?_)
      (repeat refine ZD ?_)
      refine XDi_rvA (rv_at (i := c.toNat * 5 + 4) (hl := by simp; omega)) (h := ?_)
      rw [getD_set (by omega), if_pos rfl]
      (repeat refine ZD ?_)
      refine XDi_rvA (rv_at (i := c.toNat * 5 + ((ks c.toNat).length - 1) * 1) (hl := by simp; omega)) (h := ?_)
      simp only [Nat.mul_one]
      rw [getD_set (by omega), if_neg (by omega), k4]
      (repeat refine ZD ?_)
      (refine XD_one (h := ?_); refine XDa_dvA (dv_of_rv (rv_of_pv pv_assign)) (hk := ?_); rintro _ _ ⟨rfl, rfl⟩; refine ⟨by exact KP, ?_⟩)
      (refine XD_one (h := ?_); refine XDa_dvA (dv_of_rv (rv_of_pv pv_assign)) (hk := ?_); rintro _ _ ⟨rfl, rfl⟩; refine ⟨by exact KP, ?_⟩)
      (refine XD_end (h := ?_); (repeat refine Z ?_))
      refine XE_ret (.inl rfl) (tells_tmps rfl rfl) ⟨_, ⟨rfl, rfl⟩, ?_⟩
      refine ent_fold (by exact FAs) (Kc.fold hpo) ?_
      exact EN
  · have ho : ofC b c = none := by unfold ofC; rw [if_neg hc]
    have hP : cpopP b ks c = fun v L => v = .tuple #[.int .i64 0, .bool false] ∧ L = [Kc b ks] := by unfold cpopP; rw [if_neg (by omega)]
    rw [ho, hP]
    (repeat refine Z ?_)
    refine X_cond rfl (fun _ => ?_) (fun h => by cases h)
    (repeat refine Z ?_)
    refine XE_ret (.inl rfl) (tells_tmps rfl rfl) ⟨_, ⟨rfl, rfl⟩, by exact EN⟩
theorem clen_spec (b : Nat) (ks : Nat → List Int) (c : Int) (h0 : 0 ≤ c) (h1 : c < 7) : Spec Tryz.prog 131 [.pointer (some ⟨b, 0, none⟩), .int .i64 c] [Kc b ks] (fun v L => v = .int .i64 ((ks c.toNat).length : Int) ∧ L = [Kc b ks]) := by
  refine Spec.intro (IsEnt.out) Tryz.func131 rfl Tryz.ntmps131 (by simp) (fun w0 F => ?_)
  simp only [envOf, List.zipIdx, List.map, List.cons_append, List.nil_append, Nat.zero_add, Nat.reduceAdd]
  (repeat refine Z ?_)
  refine XO_call (cof_spec b c) (hk := ?_)
  rintro _ _ ⟨rfl, rfl⟩
  have ho : ofC b c = some ⟨b, c.toNat * 5, none⟩ := by unfold ofC; rw [if_pos ⟨h0, h1⟩]
  rw [ho]
  (repeat refine Z ?_)
  refine X_cond rfl (fun h => by cases h) (fun _ => ?_)
  refine X_open .here Kc.open ?_
  rintro fl ⟨hl, hk⟩
  dsimp only [List.cons_append, List.nil_append]
  obtain ⟨k1, k2, k3⟩ := hk c.toNat (by omega)
  (repeat refine Z ?_)
  refine XO_rv (rv_at (i := c.toNat * 5 + 4)) (hk := ?_)
  rw [k2]
  (repeat refine Z ?_)
  refine XE_ret (.inl rfl) (tells_tmps rfl rfl) ⟨_, ⟨rfl, rfl⟩, ?_⟩
  refine ent_fold (by exact FAs) (Kc.fold ⟨hl, hk⟩) ?_
  exact EN
def kpages (ks : Nat → List Int) : Nat → Int
  | 0 => 0
  | k + 1 => kpages ks k + (ks k).length * cpages k
def kall (ks : Nat → List Int) : Nat → List (Int × Int)
  | 0 => []
  | k + 1 => kall ks k ++ (ks k).map fun p => (p, cpages k)
end Go.Proofs.YtamecmklcnohjaaGreat.Sep
