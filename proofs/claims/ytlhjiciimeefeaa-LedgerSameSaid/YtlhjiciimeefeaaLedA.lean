import Derived.Test.YtlhjiciimeefeaaLedDef
namespace Go.Proofs.Ytlhjiciimeefeaa.Sep
open Go.RowKit
set_option linter.unusedSimpArgs false
set_option linter.unusedVariables false
/-- A region's number, and where its shadow lies. -/
def idE (n : Int) : Value := .int .u64 n
def ptV (b : Option Nat) : Value := .pointer (b.map fun b => ⟨b, 0, none⟩)
set_option maxHeartbeats 8000000
attribute [local irreducible] X XE XO XD XDi XDa PV RV DV pt base Spec Sl Mp Keeps Pg Kc

instance tk_id : TK Try.prog 27 idE := tk_int
theorem give_step {b : Nat} {t : Int} {D : Co} {r : Int × Int} {v : Value} {L : List HP} (h : giveP b D.P D.fr t r.1 r.2 v L) : ∃ w t', v = .int .i64 w ∧ L = [Pg b (giveC D r).P (giveC D r).fr t'] := by
  unfold giveP at h
  cases hg : giveI D.fr D.P r.1 r.2 with
  | none =>
    rw [hg] at h
    have : (giveC D r).fr = D.fr := by show (giveI D.fr D.P r.1 r.2).getD D.fr = _; rw [hg]; rfl
    rw [this]
    exact ⟨_, _, h.1, h.2⟩
  | some ys =>
    rw [hg] at h
    have : (giveC D r).fr = ys := by show (giveI D.fr D.P r.1 r.2).getD D.fr = _; rw [hg]; rfl
    rw [this]
    exact ⟨_, _, h.1, h.2⟩
theorem trim_spec (l mb : Nat) (C : Co) (h : CoOk C) : Spec Try.prog 11 [.pointer (some ⟨l, 0, none⟩)] [Core l mb C] (fun v L => v = .int .i64 (trimN C) ∧ L = [Core l mb (trimC C)]) := by
  refine Spec.intro (IsEnt.out) Try.func11 rfl Try.ntmps11 (by simp) (fun w0 F => ?_)
  simp only [envOf, List.zipIdx, List.map, List.cons_append, List.nil_append, Nat.zero_add, Nat.reduceAdd]
  repeat (first | refine Zp pv_move ?_ | refine Zp pv_assign ?_ | refine Zp pv_eqnil ?_ | refine X_seq ?_ | refine X_region ?_ | refine XO_nil ?_ | refine XE_code ?_)
  refine X_cond rfl (fun h => by cases h) (fun _ => ?_)
  refine X_open .here Core.open ?_
  rintro ⟨pb, kb, t⟩ -
  dsimp only [List.cons_append, List.nil_append]
  have hkl := kall_le (fun k hk => (h.kept k hk).1) 7 (Nat.le_refl _)
  repeat (first | refine Zp pv_move ?_ | refine Zp pv_assign ?_ | refine Zp pv_nil_ptr ?_ | refine Zp pv_field ?_ | refine Zr rv_load ?_ | refine X_seq ?_ | refine X_region ?_ | refine X_skip ?_ | refine XO_nil ?_ | refine XE_code ?_)
  refine XO_call (call_spec kb C.ks) (hk := ?_)
  rintro _ _ ⟨a, c, rfl, rfl⟩
  repeat (first | refine Zp pv_move ?_ | refine Zp pv_len_slice ?_ | refine X_block ?_ | refine XO_nil ?_ | refine XE_code ?_)
  refine X_loop (ι := Nat × Int) (fun q => q.1 ≤ (kall C.ks 7).length) (fun q => [(0, .pointer (some ⟨l, 0, none⟩)), (12, .slice a (kall C.ks 7).length c), (13, .int .i64 ((kall C.ks 7).length : Int)), (14, .int .i64 (q.1 : Int)), (3, .int .i64 (totI ((kall C.ks 7).take q.1)))])
    (fun q => pt l (.cells [.pointer (some ⟨pb, 0, none⟩), .pointer (some ⟨kb, 0, none⟩), .map (some mb)].toArray 52 (0, 0)) :: Pg pb (((kall C.ks 7).take q.1).foldl giveC C).P (((kall C.ks 7).take q.1).foldl giveC C).fr q.2 :: Kc kb C.ks :: Sl eRun a c (kall C.ks 7) :: F) (fun q => (kall C.ks 7).length - q.1) (0, t) (Nat.zero_le _) ?_ (by ((try simp only [List.cons_append, List.nil_append]); repeat (first | exact ent_refl | refine ent_take (by repeat (first | exact Find.here | apply Find.there)) ?_ | refine ent_drop ?_))) ?_
  · (repeat (first | exact Env.sub_nil _ | refine Env.sub_cons rfl ?_))
  rintro ⟨k, t2⟩ hk
  dsimp only at hk ⊢
  repeat (first | refine Zp pv_cmp ?_ | refine X_seq ?_ | refine X_region ?_ | refine XO_nil ?_ | refine XE_code ?_)
  refine X_cond rfl (fun hc => ?_) (fun hc => ?_) <;> simp only [decide_eq_true_eq, decide_eq_false_iff_not] at hc
  · have hkl2 : k < (kall C.ks 7).length := by omega
    have hD := fold_ok ((kall C.ks 7).take k) h
    have hr := kall_bd h (List.getElem_mem hkl2)
    have htk : (kall C.ks 7).take (k + 1) = (kall C.ks 7).take k ++ [(kall C.ks 7)[k]] := List.take_succ_eq_append_getElem hkl2
    have hs : totI ((kall C.ks 7).take (k + 1)) = totI ((kall C.ks 7).take k) + (kall C.ks 7)[k].2 := by
      rw [htk, tot_append]; simp [totI]
    have hb1 := tot_le (l := (kall C.ks 7).take k) (fun r hr => (kall_bd h (List.mem_of_mem_take hr)).2.2)
    have hb2 : ((kall C.ks 7).take k).length ≤ 28 := by simp; omega
    have hfo : ((kall C.ks 7).take (k + 1)).foldl giveC C = giveC (((kall C.ks 7).take k).foldl giveC C) (kall C.ks 7)[k] := by rw [htk, List.foldl_append]; rfl
    refine X_slopen (E' := eRun) (a := a) (c := c) (xs := kall C.ks 7) (by (repeat (first | exact Find.here | apply Find.there))) (by omega) ?_
    rintro b o rfl
    repeat (first | refine Zp pv_index ?_ | refine X_seq ?_ | refine X_region ?_ | refine X_block ?_ | refine X_skip ?_ | refine XE_code ?_)
    refine XO_rv (rv_elG (E' := eRun) (i := k) (x' := (kall C.ks 7)[k]) (hget := by simp [hkl2])) (hk := ?_)
    repeat (fail)
    (refine XO_dv dv_alloc (hk := ?_); rintro _ _ ⟨cb, rfl, rfl⟩; (repeat (fail)); refine XO_dv0 dv_storeW (hk := ?_); rintro _ _ rfl; (repeat (first | refine X_seq ?_ | refine XO_nil ?_ | refine XE_code ?_)))
    repeat (first | refine Dp pv_move ?_ | refine Dp pv_nil_ptr ?_ | refine Dp pv_field ?_ | refine Dr rv_load ?_ | refine XD_pick (h := ?_) | refine X_draws (h := ?_))
    refine XD_one (h := ?_)
    refine XDa_dvA (dv_call (pgive_spec pb _ t2 (kall C.ks 7)[k].1 (kall C.ks 7)[k].2 _ (rf_len' (by have := hD.p1; omega) hD.p2 hD.right) (rf_bd hD.p2 hD.right) (by have := hD.p1; omega) hD.p2 (by omega) (by omega) (by omega) (by omega))) (hk := ?_)
    rintro v _ ⟨L', hpost, rfl⟩
    obtain ⟨w', t', rfl, rfl⟩ := give_step hpost
    refine ⟨by (repeat (first | exact keeps_nil | exact keeps_fnil | refine keeps_skip (h := ?_) | refine keeps_takeA (hv := by first | exact rv_load | exact rv_loadW | exact rv_loadS) (h := ?_))), ?_⟩
    (refine XD_end (h := ?_); repeat (first | refine Zp pv_move ?_ | refine Zp pv_assign ?_ | refine Zp pv_arith ?_ | refine Zp pv_field ?_ | refine Zr rv_load ?_ | refine X_region ?_ | refine XO_nil ?_ | refine XE_code ?_ | refine XE_block ?_))
    refine X_round (k + 1, t') (by show k + 1 ≤ _; omega) (by show (kall C.ks 7).length - (k + 1) < (kall C.ks 7).length - k; omega) (by rw [hs]; (repeat (first | exact Env.sub_nil _ | refine Env.sub_cons rfl ?_))) ?_
    rw [hfo]
    ((try simp only [List.cons_append, List.nil_append]); repeat (first | exact ent_refl | refine ent_take (by repeat (first | exact Find.here | apply Find.there)) ?_ | refine ent_drop ?_))
  · obtain rfl : k = (kall C.ks 7).length := by omega
    rw [List.take_length]
    repeat (first | refine Zp pv_move ?_ | refine Zp pv_nil_ptr ?_ | refine Zp pv_field ?_ | refine Zr rv_load ?_ | refine X_seq ?_ | refine X_region ?_ | refine X_exit ?_ | refine XE_code ?_ | refine XE_code_exit ?_ | refine XE_block_exit ?_ | refine XE_pred_exit ?_)
    refine XO_call (cclear_spec kb C.ks) (hk := ?_)
    rintro _ _ ⟨rfl, rfl⟩
    repeat (first | refine Zp pv_move ?_ | refine Zp pv_assign ?_ | refine X_seq ?_ | refine X_region ?_ | refine X_ret ?_ | refine XO_nil ?_ | refine XE_code ?_)
    refine XE_ret (.inl rfl) (tells_tmps rfl rfl) ⟨_, ⟨rfl, rfl⟩, ?_⟩
    (try simp only [List.cons_append, List.nil_append])
    rw [(fold_P (kall C.ks 7) C).1]
    refine ent_fold (by repeat (first | exact FindAll.nil | exact Find.here | apply Find.there | apply FindAll.cons)) (Core.fold (C := trimC C)) ?_
    ((try simp only [List.cons_append, List.nil_append]); repeat (first | exact ent_refl | refine ent_take (by repeat (first | exact Find.here | apply Find.there)) ?_ | refine ent_drop ?_))
theorem lnew_spec (p : Int) : Spec Try.prog 7 [.int .i64 p] [] (fun v L => ∃ l mb, v = .pointer (some ⟨l, 0, none⟩) ∧ L = [Core l mb ⟨min (max p 1) 1048576, [(0, min (max p 1) 1048576)], fun _ => []⟩, Mp idE ptV mb []]) := by
  refine Spec.intro (IsEnt.out) Try.func7 rfl Try.ntmps7 (by simp) (fun w0 F => ?_)
  simp only [envOf, List.zipIdx, List.map, List.cons_append, List.nil_append, Nat.zero_add, Nat.reduceAdd]
  repeat (first | refine Zp pv_move ?_ | refine Zp pv_assign ?_ | refine X_seq ?_ | refine X_region ?_ | refine XO_nil ?_ | refine XE_code ?_)
  refine XO_call (pnew_spec p) (hk := ?_)
  rintro _ _ ⟨pb, rfl, rfl⟩
  repeat (fail)
  refine XO_call cnew_spec (hk := ?_)
  rintro _ _ ⟨kb, rfl, rfl⟩
  repeat (fail)
  refine XO_dv (dv_makeMap idE ptV) (hk := ?_)
  rintro _ _ ⟨mb, rfl, rfl⟩
  repeat (first | refine Zp pv_build ?_)
  refine XO_dv dv_box (hk := ?_)
  rintro _ _ ⟨b, rfl, rfl⟩
  repeat (first | refine Zp pv_assign ?_ | refine X_ret ?_ | refine XO_nil ?_ | refine XE_code ?_)
  refine XE_ret (.inl rfl) (tells_tmps rfl rfl) ⟨_, ⟨b, mb, rfl, rfl⟩, ?_⟩
  (try simp only [List.cons_append, List.nil_append])
  refine ent_fold (by repeat (first | exact FindAll.nil | exact Find.here | apply Find.there | apply FindAll.cons)) (Core.fold (C := ⟨min (max p 1) 1048576, [(0, min (max p 1) 1048576)], fun _ => []⟩)) ?_
  ((try simp only [List.cons_append, List.nil_append]); repeat (first | exact ent_refl | refine ent_take (by repeat (first | exact Find.here | apply Find.there)) ?_ | refine ent_drop ?_))
theorem put_spec (l mb : Nat) (C : Co) (r : Int × Int) (h : CoOk C) (h0 : 0 ≤ r.1) (h1 : r.1 ≤ 1048576) (h2 : 0 ≤ r.2) (h3 : r.2 ≤ 1048576) : Spec Try.prog 32 [.pointer (some ⟨l, 0, none⟩), eRun.val r] [Core l mb C] (fun v L => v = .tuple #[] ∧ L = [Core l mb (putC C r)]) := by
  refine Spec.intro (IsEnt.out) Try.func32 rfl Try.ntmps32 (by simp) (fun w0 F => ?_)
  simp only [envOf, List.zipIdx, List.map, List.cons_append, List.nil_append, Nat.zero_add, Nat.reduceAdd]
  repeat (first | refine X_seq ?_ | refine X_region ?_)
  refine XO_dv (dv_box (row := eRun.cells r)) (hk := ?_)
  rintro _ _ ⟨b3, rfl, rfl⟩
  repeat (first | refine Zp pv_field ?_ | refine Zr rv_load ?_ | refine X_seq ?_ | refine X_region ?_ | refine XO_nil ?_ | refine XE_code ?_)
  refine XO_call (cclass_spec r.2) (hk := ?_)
  rintro _ _ ⟨rfl, rfl⟩
  refine XO_open (A := Core l mb C) (by (repeat (first | exact Find.here | apply Find.there))) Core.open ?_
  rintro ⟨pb, kb, t⟩ -
  dsimp only [List.cons_append, List.nil_append]
  repeat (first | refine Zp pv_assign ?_ | refine X_seq ?_ | refine XO_nil ?_ | refine XE_code ?_)
  repeat (first | refine Dp pv_move ?_ | refine Dp pv_field ?_ | refine Dr rv_load ?_ | refine XD_pick (h := ?_) | refine X_draws (h := ?_))
  refine XD_one (h := ?_)
  refine XDa_dvA (dv_call (cpages_spec (cclass r.2))) (hk := ?_)
  (rintro _ _ ⟨_, ⟨rfl, rfl⟩, rfl⟩; refine ⟨by (repeat (first | exact keeps_nil | exact keeps_fnil | refine keeps_skip (h := ?_) | refine keeps_takeA (hv := by first | exact rv_load | exact rv_loadW | exact rv_loadS) (h := ?_))), ?_⟩)
  repeat (first | refine Dp pv_move ?_ | refine Dp pv_cmp ?_ | refine XD_pick (h := ?_))
  refine XDi_either (hT := fun hq => ?_) (hF := fun hq => ?_)
  · have hne : ¬ cpages (cclass r.2) = r.2 := by simpa using hq
    have hput : putC C r = giveC C r := by unfold putC; rw [if_neg (fun h' => hne h'.1)]
    repeat (first | refine XDi_gF (h := ?_) | refine XD_pick (h := ?_))
    (refine XD_head (h := ?_); first | refine XDi_gF (h := ?_) | refine XDi_gU (h := ?_))
    repeat (first | refine Dp pv_pickT ?_ | refine XDi_gF (h := ?_) | refine XD_pick (h := ?_))
    (refine XD_end (h := ?_); repeat (first | refine XE_code ?_))
    refine X_cond rfl (fun _ => ?_) (fun h => by cases h)
    repeat (fail)
    repeat (first | refine Dp pv_move ?_ | refine Dp pv_nil_ptr ?_ | refine Dp pv_field ?_ | refine Dr rv_load ?_ | refine XD_pick (h := ?_) | refine X_draws (h := ?_))
    refine XD_one (h := ?_)
    refine XDa_dvA (dv_call (pgive_spec pb C.P t r.1 r.2 C.fr (rf_len' (by have := h.p1; omega) h.p2 h.right) (rf_bd h.p2 h.right) (by have := h.p1; omega) h.p2 (by omega) (by omega) (by omega) (by omega))) (hk := ?_)
    rintro v _ ⟨L', hpost, rfl⟩
    obtain ⟨w', t', rfl, rfl⟩ := give_step hpost
    refine ⟨by (repeat (first | exact keeps_nil | exact keeps_fnil | refine keeps_skip (h := ?_) | refine keeps_takeA (hv := by first | exact rv_load | exact rv_loadW | exact rv_loadS) (h := ?_))), ?_⟩
    (refine XD_end (h := ?_); repeat (fail))
    rw [hput]
    refine XE_ret (.inr rfl) (tells_tmps rfl rfl) ⟨_, ⟨rfl, rfl⟩, ?_⟩
    (try simp only [List.cons_append, List.nil_append])
    refine ent_fold (by repeat (first | exact FindAll.nil | exact Find.here | apply Find.there | apply FindAll.cons)) (Core.fold (C := giveC C r)) ?_
    ((try simp only [List.cons_append, List.nil_append]); repeat (first | exact ent_refl | refine ent_take (by repeat (first | exact Find.here | apply Find.there)) ?_ | refine ent_drop ?_))
  have heq : cpages (cclass r.2) = r.2 := by simpa using hq
  repeat (first | refine Dp pv_move ?_ | refine Dp pv_nil_ptr ?_ | refine Dp pv_field ?_ | refine Dr rv_load ?_ | refine XD_pick (h := ?_))
  refine XD_one (h := ?_)
  refine XDa_dvA (dv_call (cpush_spec kb C.ks (cclass r.2) r.1)) (hk := ?_)
  rintro v _ ⟨L', hpost, rfl⟩
  by_cases hc : 0 ≤ cclass r.2 ∧ cclass r.2 < 7 ∧ 0 ≤ r.1 ∧ (C.ks (cclass r.2).toNat).length < 4
  · have hP : cpushP kb C.ks (cclass r.2) r.1 = fun v L => v = .bool true ∧ L = [Kc kb (upd C.ks (cclass r.2).toNat (C.ks (cclass r.2).toNat ++ [r.1]))] := by unfold cpushP; rw [if_pos hc]
    have hput : putC C r = ⟨C.P, C.fr, upd C.ks (cclass r.2).toNat (C.ks (cclass r.2).toNat ++ [r.1])⟩ := by unfold putC; rw [if_pos ⟨heq, hc⟩]
    rw [hP] at hpost
    obtain ⟨rfl, rfl⟩ := hpost
    refine ⟨by (repeat (first | exact keeps_nil | exact keeps_fnil | refine keeps_skip (h := ?_) | refine keeps_takeA (hv := by first | exact rv_load | exact rv_loadW | exact rv_loadS) (h := ?_))), ?_⟩
    repeat (first | refine Dp pv_not ?_ | refine Dp pv_pickF ?_ | refine XD_pick (h := ?_))
    (refine XD_end (h := ?_); repeat (first | refine XE_code ?_))
    refine X_cond rfl (fun h => by cases h) (fun _ => ?_)
    repeat (first | refine X_skip ?_)
    rw [hput]
    refine XE_ret (.inr rfl) (tells_tmps rfl rfl) ⟨_, ⟨rfl, rfl⟩, ?_⟩
    (try simp only [List.cons_append, List.nil_append])
    refine ent_fold (by repeat (first | exact FindAll.nil | exact Find.here | apply Find.there | apply FindAll.cons)) (Core.fold (C := ⟨C.P, C.fr, upd C.ks (cclass r.2).toNat (C.ks (cclass r.2).toNat ++ [r.1])⟩)) ?_
    ((try simp only [List.cons_append, List.nil_append]); repeat (first | exact ent_refl | refine ent_take (by repeat (first | exact Find.here | apply Find.there)) ?_ | refine ent_drop ?_))
  · have hP : cpushP kb C.ks (cclass r.2) r.1 = fun v L => v = .bool false ∧ L = [Kc kb C.ks] := by unfold cpushP; rw [if_neg hc]
    have hput : putC C r = giveC C r := by unfold putC; rw [if_neg (fun h' => hc h'.2)]
    rw [hP] at hpost
    obtain ⟨rfl, rfl⟩ := hpost
    refine ⟨by (repeat (first | exact keeps_nil | exact keeps_fnil | refine keeps_skip (h := ?_) | refine keeps_takeA (hv := by first | exact rv_load | exact rv_loadW | exact rv_loadS) (h := ?_))), ?_⟩
    repeat (first | refine Dp pv_not ?_ | refine Dp pv_pickF ?_ | refine XD_pick (h := ?_))
    (refine XD_end (h := ?_); repeat (first | refine XE_code ?_))
    refine X_cond rfl (fun _ => ?_) (fun h => by cases h)
    repeat (fail)
    repeat (first | refine Dp pv_move ?_ | refine Dp pv_nil_ptr ?_ | refine Dp pv_field ?_ | refine Dr rv_load ?_ | refine XD_pick (h := ?_) | refine X_draws (h := ?_))
    refine XD_one (h := ?_)
    refine XDa_dvA (dv_call (pgive_spec pb C.P t r.1 r.2 C.fr (rf_len' (by have := h.p1; omega) h.p2 h.right) (rf_bd h.p2 h.right) (by have := h.p1; omega) h.p2 (by omega) (by omega) (by omega) (by omega))) (hk := ?_)
    rintro v _ ⟨L', hpost, rfl⟩
    obtain ⟨w', t', rfl, rfl⟩ := give_step hpost
    refine ⟨by (repeat (first | exact keeps_nil | exact keeps_fnil | refine keeps_skip (h := ?_) | refine keeps_takeA (hv := by first | exact rv_load | exact rv_loadW | exact rv_loadS) (h := ?_))), ?_⟩
    (refine XD_end (h := ?_); repeat (fail))
    rw [hput]
    refine XE_ret (.inr rfl) (tells_tmps rfl rfl) ⟨_, ⟨rfl, rfl⟩, ?_⟩
    (try simp only [List.cons_append, List.nil_append])
    refine ent_fold (by repeat (first | exact FindAll.nil | exact Find.here | apply Find.there | apply FindAll.cons)) (Core.fold (C := giveC C r)) ?_
    ((try simp only [List.cons_append, List.nil_append]); repeat (first | exact ent_refl | refine ent_take (by repeat (first | exact Find.here | apply Find.there)) ?_ | refine ent_drop ?_))
end Go.Proofs.Ytlhjiciimeefeaa.Sep
