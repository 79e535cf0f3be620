import Derived.Test.YtlhjiciimeefeaaLedI
import Derived.Test.YtlhjiciimeefeaaSepH
namespace Go.Proofs.Ytlhjiciimeefeaa.Sep
open Go.RowKit
set_option linter.unusedSimpArgs false
set_option linter.unusedVariables false
def sumF (f : Sh → Int) : List (Int × Sh) → Int
  | [] => 0
  | q :: l => f q.2 + sumF f l
theorem sumF_append (f : Sh → Int) : ∀ l l', sumF f (l ++ l') = sumF f l + sumF f l'
  | [], l' => by simp [sumF]
  | q :: l, l' => by simp only [List.cons_append, sumF, sumF_append f l l']; omega
theorem sumF_perm (f : Sh → Int) {l l' : List (Int × Sh)} (h : l.Perm l') : sumF f l = sumF f l' := by
  induction h with
  | nil => rfl
  | cons x _ ih => simp only [sumF, ih]
  | swap x y l => simp only [sumF]; omega
  | trans _ _ h1 h2 => exact h1.trans h2
def shPages (s : Sh) : Int := totI (s.parts.map runP) + totI s.larges
def shHdr (s : Sh) : Int := 32 * ((s.parts.length : Int) + (s.larges.length : Int))
theorem wrap_add (x y : Int) : IntKind.u64.wrap (IntKind.u64.wrap x + y) = IntKind.u64.wrap (x + y) := by
  simp only [wrap_u64_eq]; omega
theorem tot_bd {l : List (Int × Int)} (h : ∀ r ∈ l, 0 ≤ r.2 ∧ r.2 ≤ 1048576) : 0 ≤ totI l ∧ totI l ≤ 1048576 * l.length := by
  induction l with
  | nil => simp [totI]
  | cons r l ih =>
    have h1 := h r (by simp)
    have h2 := ih fun q hq => h q (by simp [hq])
    rw [tot_cons]; simp; omega
structure ShB (s : Sh) : Prop where
  ok : ShOk s
  lp : s.parts.length ≤ 1048576
  ll : s.larges.length ≤ 1048576
theorem run_bd {s : Sh} (h : ShB s) : ∀ r ∈ s.parts.map runP, 0 ≤ r.2 ∧ r.2 ≤ 1048576 := fun r hr => by
  obtain ⟨p, hp, rfl⟩ := List.mem_map.1 hr
  have := h.ok.parts p hp
  exact ⟨this.2.2.1, this.2.2.2.1⟩
theorem shPages_bd {s : Sh} (h : ShB s) : 0 ≤ shPages s ∧ shPages s ≤ 2199023255552 := by
  have h1 := tot_bd (run_bd h)
  have h2 := tot_bd (l := s.larges) (fun r hr => (h.ok.larges r hr).2.2)
  have h3 := h.lp
  have h4 := h.ll
  unfold shPages
  simp at h1
  omega
theorem sumG_bd : ∀ {l : List (Int × Sh)}, (∀ q ∈ l, ShB q.2) → 0 ≤ sumF shPages l ∧ sumF shPages l ≤ 2199023255552 * l.length
  | [], _ => by simp [sumF]
  | q :: l, h => by
    have h1 := shPages_bd (h q (by simp))
    have h2 := sumG_bd (l := l) fun r hr => h r (by simp [hr])
    simp only [sumF, List.length_cons]; push_cast; omega
def slackI (rg : List (Int × Sh)) : Int :=
  IntKind.u64.wrap (IntKind.u64.wrap (IntKind.u64.wrap (IntKind.u64.wrap (sumF shPages rg * 4096) - IntKind.u64.wrap (sumF shHdr rg)) - IntKind.u64.wrap (sumF Sh.obj rg)) - IntKind.u64.wrap (sumF Sh.pad rg))
def meterL (C : Co) (rg : List (Int × Sh)) : List Int :=
  [C.P - totI C.fr, kpages C.ks 7, totI C.fr, (C.fr.length : Int), IntKind.u64.wrap (sumF Sh.obj rg), IntKind.u64.wrap (sumF Sh.pad rg), IntKind.u64.wrap (sumF shHdr rg), slackI rg]
def mKs : List IntKind := [.i64, .i64, .i64, .i64, .u64, .u64, .u64, .u64]
instance teq_meter : TEq Try.prog 37 [.i64, .i64, .i64, .i64, .u64, .u64, .u64, .u64] := ⟨_, Try.underlying37, by kernel_rfl, by kernel_rfl, ⟨by decide, rfl, Try.underlying3, by decide, rfl, Try.underlying3, by decide, rfl, Try.underlying3, by decide, rfl, Try.underlying3, by decide, rfl, Try.underlying27, by decide, rfl, Try.underlying27, by decide, rfl, Try.underlying27, by decide, rfl, Try.underlying27, trivial⟩⟩
theorem tot_right {P : Int} : ∀ {l : List (Int × Int)} {lo : Int}, lo ≤ P + 1 → RightFrom P lo l → 0 ≤ totI l ∧ totI l ≤ P + 1 - lo
  | [], lo, h, _ => by simp [totI]; omega
  | r :: l, lo, h, ⟨h1, h2, h3, h4⟩ => by
    have := tot_right (by omega) h4
    rw [tot_cons]; omega
attribute [local irreducible] Core Shd Shs Lg MpI MpL
set_option maxHeartbeats 8000000
attribute [local irreducible] X XE XO XD XDi XDa PV RV DV pt base Spec Sl Mp Keeps Pg Kc
theorem meter_spec (l : Nat) (C : Co) (rg : List (Int × Sh)) (hC : CoOk C) (hS : ∀ q ∈ rg, ShB q.2) (hn : rg.length ≤ 100000) :
    Spec Try.prog 12 [.pointer (some ⟨l, 0, none⟩)] [Lg l C rg] (fun v L => v = .agg (recCells mKs (meterL C rg)).toArray ∧ L = [Lg l C rg]) := by
  refine Spec.intro (IsEnt.out) Try.func12 rfl Try.ntmps12 (by simp) (fun w0 F => ?_)
  simp only [envOf, List.zipIdx, List.map, List.cons_append, List.nil_append, Nat.zero_add, Nat.reduceAdd]
  have hfl := rf_len' (by have := hC.p1; omega) hC.p2 hC.right
  have hfb := rf_bd hC.p2 hC.right
  have htr := tot_right (by have := hC.p1; omega) hC.right
  have hp2 := hC.p2
  have hp1 := hC.p1
  refine X_open .here Lg.open ?_
  rintro ⟨mb, M⟩ hM
  dsimp only [List.cons_append, List.nil_append] at hM ⊢
  refine X_open (A := Core l mb C) (by (repeat (first | exact Find.here | apply Find.there))) Core.open ?_
  rintro ⟨pb, kb, t⟩ -
  dsimp only [List.cons_append, List.nil_append]
  repeat (first | refine X_seq ?_ | refine X_region ?_)
  refine XO_dv dv_alloc (hk := ?_)
  rintro _ _ ⟨gb, rfl, rfl⟩
  repeat (first | refine Zp pv_move ?_ | refine Zp pv_eqnil ?_ | refine X_seq ?_ | refine X_region ?_ | refine XO_nil ?_ | refine XE_code ?_)
  refine X_cond rfl (fun h => by cases h) (fun _ => ?_)
  repeat (first | refine X_seq ?_ | refine X_skip ?_ | refine XE_code ?_)
  refine X_join (ι := Nat) (fun _ => True) (fun m => [(0, .pointer (some ⟨l, 0, none⟩)), (2, .pointer (some ⟨gb, 0, none⟩)), (3, .pointer (some ⟨m, 0, none⟩))])
    (fun m => pt m (.cells [.int .i64 0, .int .i64 (kpages C.ks 7), .int .i64 (totI C.fr), .int .i64 (C.fr.length : Int), .int .u64 0, .int .u64 0, .int .u64 0, .int .u64 0].toArray 37 (0, 0)) :: pt gb (.cells [.int .i64 0, .int .i64 0, .int .i64 0, .int .i64 0, .int .u64 0, .int .u64 0, .int .u64 0, .int .u64 0].toArray 37 (0, 0)) :: pt l (.cells [.pointer (some ⟨pb, 0, none⟩), .pointer (some ⟨kb, 0, none⟩), .map (some mb)].toArray 52 (0, 0)) :: Pg pb C.P C.fr t :: Kc kb C.ks :: Mp idE ptV mb (blk M) :: Shs M :: F) ?_ ?_
  · repeat (first | refine Dp pv_move ?_ | refine Dp pv_nil_ptr ?_ | refine Dp pv_field ?_ | refine Dr rv_load ?_ | refine XD_pick (h := ?_) | refine X_draws (h := ?_))
    refine XD_two (h := ?_) (h' := ?_)
    · refine XDa_dvA (dv_call (cpagesum_spec kb C.ks)) (hk := ?_)
      (rintro _ _ ⟨_, ⟨rfl, rfl⟩, rfl⟩; refine ⟨by (repeat (first | exact keeps_nil | exact keeps_fnil | refine keeps_skip (h := ?_) | refine keeps_takeA (hv := by first | exact rv_load | exact rv_loadW | exact rv_loadS) (h := ?_))), ?_⟩)
      repeat (fail)
      refine XD_two (h := ?_) (h' := ?_)
      · refine XDa_dvA (dv_call (pfree_spec pb C.P t C.fr hfl hfb)) (hk := ?_)
        (rintro _ _ ⟨_, ⟨rfl, rfl⟩, rfl⟩; refine ⟨by (repeat (first | exact keeps_nil | exact keeps_fnil | refine keeps_skip (h := ?_) | refine keeps_takeA (hv := by first | exact rv_load | exact rv_loadW | exact rv_loadS) (h := ?_))), ?_⟩)
        repeat (fail)
        refine XD_two (h := ?_) (h' := ?_)
        · refine XDa_dvA (dv_call (pruns_spec pb C.P t C.fr hfl)) (hk := ?_)
          rintro _ _ ⟨_, ⟨ra, rc, rfl, rfl⟩, rfl⟩
          refine ⟨by (repeat (first | exact keeps_nil | exact keeps_fnil | refine keeps_skip (h := ?_) | refine keeps_takeA (hv := by first | exact rv_load | exact rv_loadW | exact rv_loadS) (h := ?_))), ?_⟩
          repeat (first | refine Dp pv_len_slice ?_ | refine XD_pick (h := ?_))
          refine XDi_pvA (pv_buildG [.int .i64 0, .int .i64 (kpages C.ks 7), .int .i64 (totI C.fr), .int .i64 (C.fr.length : Int), .int .u64 0, .int .u64 0, .int .u64 0, .int .u64 0]) (h := ?_)
          repeat (fail)
          refine XD_one (h := ?_)
          refine XDa_dvA dv_alloc (hk := ?_)
          rintro _ _ ⟨m, rfl, rfl⟩
          refine ⟨by (repeat (first | exact keeps_nil | exact keeps_fnil | refine keeps_skip (h := ?_) | refine keeps_takeA (hv := by first | exact rv_load | exact rv_loadW | exact rv_loadS) (h := ?_))), ?_⟩
          repeat (fail)
          refine XD_one (h := ?_)
          refine XDa_dvk0 dv_storeW (K := _) (hk := ?_)
          rintro _ _ rfl
          refine ⟨by (repeat (first | exact keeps_nil | exact keeps_fnil | refine keeps_skip (h := ?_) | refine keeps_takeA (hv := by first | exact rv_load | exact rv_loadW | exact rv_loadS) (h := ?_))), ?_⟩
          refine XD_end (h := ?_)
          refine X_meet m trivial (by (repeat (first | exact Env.sub_nil _ | refine Env.sub_cons rfl ?_))) (by ((try simp only [List.cons_append, List.nil_append]); repeat (first | exact ent_refl | refine ent_take (by repeat (first | exact Find.here | apply Find.there)) ?_ | refine ent_drop ?_)))
        · refine XDa_dvA dv_alloc (hk := ?_)
          rintro _ _ ⟨m, rfl, rfl⟩
          refine ⟨by (repeat (first | exact keeps_nil | exact keeps_fnil | refine keeps_skip (h := ?_) | refine keeps_takeA (hv := by first | exact rv_load | exact rv_loadW | exact rv_loadS) (h := ?_))), ?_⟩
          repeat (fail)
          refine XD_one (h := ?_)
          refine XDa_dvA (dv_call (pruns_spec pb C.P t C.fr hfl)) (hk := ?_)
          rintro _ _ ⟨_, ⟨ra, rc, rfl, rfl⟩, rfl⟩
          refine ⟨by (repeat (first | exact keeps_nil | exact keeps_fnil | refine keeps_skip (h := ?_) | refine keeps_takeA (hv := by first | exact rv_load | exact rv_loadW | exact rv_loadS) (h := ?_))), ?_⟩
          repeat (first | refine Dp pv_len_slice ?_ | refine XD_pick (h := ?_))
          refine XDi_pvA (pv_buildG [.int .i64 0, .int .i64 (kpages C.ks 7), .int .i64 (totI C.fr), .int .i64 (C.fr.length : Int), .int .u64 0, .int .u64 0, .int .u64 0, .int .u64 0]) (h := ?_)
          repeat (fail)
          refine XD_one (h := ?_)
          refine XDa_dvk0 dv_storeW (K := _) (hk := ?_)
          rintro _ _ rfl
          refine ⟨by (repeat (first | exact keeps_nil | exact keeps_fnil | refine keeps_skip (h := ?_) | refine keeps_takeA (hv := by first | exact rv_load | exact rv_loadW | exact rv_loadS) (h := ?_))), ?_⟩
          refine XD_end (h := ?_)
          refine X_meet m trivial (by (repeat (first | exact Env.sub_nil _ | refine Env.sub_cons rfl ?_))) (by ((try simp only [List.cons_append, List.nil_append]); repeat (first | exact ent_refl | refine ent_take (by repeat (first | exact Find.here | apply Find.there)) ?_ | refine ent_drop ?_)))
      · refine XDa_dvA dv_alloc (hk := ?_)
        rintro _ _ ⟨m, rfl, rfl⟩
        refine ⟨by (repeat (first | exact keeps_nil | exact keeps_fnil | refine keeps_skip (h := ?_) | refine keeps_takeA (hv := by first | exact rv_load | exact rv_loadW | exact rv_loadS) (h := ?_))), ?_⟩
        repeat (fail)
        refine XD_one (h := ?_)
        refine XDa_dvA (dv_call (pfree_spec pb C.P t C.fr hfl hfb)) (hk := ?_)
        (rintro _ _ ⟨_, ⟨rfl, rfl⟩, rfl⟩; refine ⟨by (repeat (first | exact keeps_nil | exact keeps_fnil | refine keeps_skip (h := ?_) | refine keeps_takeA (hv := by first | exact rv_load | exact rv_loadW | exact rv_loadS) (h := ?_))), ?_⟩)
        repeat (fail)
        refine XD_one (h := ?_)
        refine XDa_dvA (dv_call (pruns_spec pb C.P t C.fr hfl)) (hk := ?_)
        rintro _ _ ⟨_, ⟨ra, rc, rfl, rfl⟩, rfl⟩
        refine ⟨by (repeat (first | exact keeps_nil | exact keeps_fnil | refine keeps_skip (h := ?_) | refine keeps_takeA (hv := by first | exact rv_load | exact rv_loadW | exact rv_loadS) (h := ?_))), ?_⟩
        repeat (first | refine Dp pv_len_slice ?_ | refine XD_pick (h := ?_))
        refine XDi_pvA (pv_buildG [.int .i64 0, .int .i64 (kpages C.ks 7), .int .i64 (totI C.fr), .int .i64 (C.fr.length : Int), .int .u64 0, .int .u64 0, .int .u64 0, .int .u64 0]) (h := ?_)
        repeat (fail)
        refine XD_one (h := ?_)
        refine XDa_dvk0 dv_storeW (K := _) (hk := ?_)
        rintro _ _ rfl
        refine ⟨by (repeat (first | exact keeps_nil | exact keeps_fnil | refine keeps_skip (h := ?_) | refine keeps_takeA (hv := by first | exact rv_load | exact rv_loadW | exact rv_loadS) (h := ?_))), ?_⟩
        refine XD_end (h := ?_)
        refine X_meet m trivial (by (repeat (first | exact Env.sub_nil _ | refine Env.sub_cons rfl ?_))) (by ((try simp only [List.cons_append, List.nil_append]); repeat (first | exact ent_refl | refine ent_take (by repeat (first | exact Find.here | apply Find.there)) ?_ | refine ent_drop ?_)))
    · refine XDa_dvA dv_alloc (hk := ?_)
      rintro _ _ ⟨m, rfl, rfl⟩
      refine ⟨by (repeat (first | exact keeps_nil | exact keeps_fnil | refine keeps_skip (h := ?_) | refine keeps_takeA (hv := by first | exact rv_load | exact rv_loadW | exact rv_loadS) (h := ?_))), ?_⟩
      repeat (fail)
      refine XD_one (h := ?_)
      refine XDa_dvA (dv_call (cpagesum_spec kb C.ks)) (hk := ?_)
      (rintro _ _ ⟨_, ⟨rfl, rfl⟩, rfl⟩; refine ⟨by (repeat (first | exact keeps_nil | exact keeps_fnil | refine keeps_skip (h := ?_) | refine keeps_takeA (hv := by first | exact rv_load | exact rv_loadW | exact rv_loadS) (h := ?_))), ?_⟩)
      repeat (fail)
      refine XD_one (h := ?_)
      refine XDa_dvA (dv_call (pfree_spec pb C.P t C.fr hfl hfb)) (hk := ?_)
      (rintro _ _ ⟨_, ⟨rfl, rfl⟩, rfl⟩; refine ⟨by (repeat (first | exact keeps_nil | exact keeps_fnil | refine keeps_skip (h := ?_) | refine keeps_takeA (hv := by first | exact rv_load | exact rv_loadW | exact rv_loadS) (h := ?_))), ?_⟩)
      repeat (fail)
      refine XD_one (h := ?_)
      refine XDa_dvA (dv_call (pruns_spec pb C.P t C.fr hfl)) (hk := ?_)
      rintro _ _ ⟨_, ⟨ra, rc, rfl, rfl⟩, rfl⟩
      refine ⟨by (repeat (first | exact keeps_nil | exact keeps_fnil | refine keeps_skip (h := ?_) | refine keeps_takeA (hv := by first | exact rv_load | exact rv_loadW | exact rv_loadS) (h := ?_))), ?_⟩
      repeat (first | refine Dp pv_len_slice ?_ | refine XD_pick (h := ?_))
      refine XDi_pvA (pv_buildG [.int .i64 0, .int .i64 (kpages C.ks 7), .int .i64 (totI C.fr), .int .i64 (C.fr.length : Int), .int .u64 0, .int .u64 0, .int .u64 0, .int .u64 0]) (h := ?_)
      repeat (fail)
      refine XD_one (h := ?_)
      refine XDa_dvk0 dv_storeW (K := _) (hk := ?_)
      rintro _ _ rfl
      refine ⟨by (repeat (first | exact keeps_nil | exact keeps_fnil | refine keeps_skip (h := ?_) | refine keeps_takeA (hv := by first | exact rv_load | exact rv_loadW | exact rv_loadS) (h := ?_))), ?_⟩
      refine XD_end (h := ?_)
      refine X_meet m trivial (by (repeat (first | exact Env.sub_nil _ | refine Env.sub_cons rfl ?_))) (by ((try simp only [List.cons_append, List.nil_append]); repeat (first | exact ent_refl | refine ent_take (by repeat (first | exact Find.here | apply Find.there)) ?_ | refine ent_drop ?_)))
  rintro m -
  repeat (first | refine X_seq ?_)
  repeat (first | refine Dp pv_move ?_ | refine Dp pv_nil_ptr ?_ | refine Dp pv_field ?_ | refine Dr rv_load ?_ | refine XD_pick (h := ?_) | refine X_draws (h := ?_))
  refine XD_one (h := ?_)
  refine XDa_dvA (dv_call (ppages_spec pb C.P t C.fr)) (hk := ?_)
  (rintro _ _ ⟨_, ⟨rfl, rfl⟩, rfl⟩; refine ⟨by (repeat (first | exact keeps_nil | exact keeps_fnil | refine keeps_skip (h := ?_) | refine keeps_takeA (hv := by first | exact rv_load | exact rv_loadW | exact rv_loadS) (h := ?_))), ?_⟩)
  repeat (first | refine Dp pv_field ?_ | refine Dp pv_arith ?_ | refine XD_pick (h := ?_))
  refine XD_one (h := ?_)
  refine XDa_dvk0 dv_store (K := _) (hk := ?_)
  rintro _ _ rfl
  refine ⟨by (repeat (first | exact keeps_nil | exact keeps_fnil | refine keeps_skip (h := ?_) | refine keeps_takeA (hv := by first | exact rv_load | exact rv_loadW | exact rv_loadS) (h := ?_))), ?_⟩
  (refine XD_end (h := ?_); repeat (first | refine Zp pv_move ?_ | refine Zp pv_assign ?_ | refine Zp pv_nil_ptr ?_ | refine Zp pv_field ?_ | refine Zr rv_load ?_ | refine X_seq ?_ | refine X_region ?_ | refine XO_nil ?_ | refine XE_code ?_))
  refine XO_dv (dv_range (ke := idE) (ve := ptV) (l := blk M)) (hk := ?_)
  rintro _ _ ⟨r, rfl, rfl⟩
  refine XO_fold (by repeat (first | exact FindAll.nil | exact Find.here | apply Find.there | apply FindAll.cons)) (Core.fold (C := C)) ?_
  repeat (first | refine X_block ?_ | refine XO_nil ?_ | refine XE_code ?_)
  have hzero : IntKind.u64.wrap 0 = 0 := by decide
  refine X_loop (ι := List (Int × Nat × Sh) × List (Int × Nat × Sh)) (fun q => (q.1 ++ q.2).Perm M) (fun q => [(0, .pointer (some ⟨l, 0, none⟩)), (2, .pointer (some ⟨gb, 0, none⟩)), (3, .pointer (some ⟨m, 0, none⟩)), (44, .pointer (some ⟨r, 0, none⟩)), (4, .int .i64 (sumF shPages (rgs q.1)))])
    (fun q => Core l mb C :: MpI idE ptV mb r (blk M) (blk q.2) :: pt m (.cells [.int .i64 (C.P - totI C.fr), .int .i64 (kpages C.ks 7), .int .i64 (totI C.fr), .int .i64 (C.fr.length : Int), .int .u64 (IntKind.u64.wrap (sumF Sh.obj (rgs q.1))), .int .u64 (IntKind.u64.wrap (sumF Sh.pad (rgs q.1))), .int .u64 (IntKind.u64.wrap (sumF shHdr (rgs q.1))), .int .u64 (0)].toArray 37 (0, 0)) :: pt gb (.cells [.int .i64 0, .int .i64 0, .int .i64 0, .int .i64 0, .int .u64 0, .int .u64 0, .int .u64 0, .int .u64 0].toArray 37 (0, 0)) :: Shs M :: F) (fun q => q.2.length) ([], M) (List.Perm.refl _) ?_ ?_ ?_
  · (repeat (first | exact Env.sub_nil _ | refine Env.sub_cons rfl ?_))
  · simp only [rgs, List.map_nil, sumF, hzero]; ((try simp only [List.cons_append, List.nil_append]); repeat (first | exact ent_refl | refine ent_take (by repeat (first | exact Find.here | apply Find.there)) ?_ | refine ent_drop ?_))
  rintro ⟨D, T⟩ hperm
  dsimp only at hperm ⊢
  have hDM : ∀ q ∈ rgs D, ShB q.2 := fun q hq => by
    refine hS q ?_
    rw [← hM]
    obtain ⟨z, hz, rfl⟩ := List.mem_map.1 hq
    exact List.mem_map.2 ⟨z, hperm.mem_iff.1 (List.mem_append_left _ hz), rfl⟩
  have hlen : (rgs D).length + T.length = rg.length := by
    have := hperm.length_eq
    rw [← hM]
    simp [rgs] at this ⊢; omega
  have hGD := sumG_bd hDM
  repeat (first | refine X_seq ?_ | refine X_region ?_)
  refine XO_dv (dv_nextL (ke := idE) (ve := ptV) (l := blk M) (todo := blk T)) (hk := ?_)
  rintro _ _ (⟨rfl, hT0, rfl⟩ | ⟨t1, p, t2, ht, rfl, rfl⟩)
  · refine XO_conv (fun _ => SL.head MpI.done) ?_
    have hT : T = [] := by cases T with
      | nil => rfl
      | cons => simp [blk] at hT0
    subst hT
    rw [List.append_nil] at hperm
    have hpr : (rgs D).Perm rg := by rw [← hM]; exact hperm.map _
    have hGr := sumG_bd hS
    rw [sumF_perm Sh.obj hpr, sumF_perm Sh.pad hpr, sumF_perm shHdr hpr, sumF_perm shPages hpr]
    repeat (first | refine Zp pv_extract ?_ | refine X_seq ?_ | refine XO_nil ?_ | refine XE_code ?_)
    refine X_cond rfl (fun h => by cases h) (fun _ => ?_)
    repeat (first | refine Zp pv_move ?_ | refine Zp pv_arith ?_ | refine Zp pv_field ?_ | refine Zr rv_load ?_ | refine Zp pv_conv_int ?_ | refine Zp pv_shl12 ?_ | refine X_seq ?_ | refine X_region ?_ | refine X_exit ?_ | refine XE_code ?_ | refine XE_code_exit ?_ | refine XE_block_exit ?_ | refine XE_pred_exit ?_)
    refine XO_dv0 dv_store (hk := ?_)
    rintro _ _ rfl
    repeat (first | refine Zr rv_loadW ?_ | refine X_seq ?_ | refine X_region ?_ | refine XO_nil ?_ | refine XE_code ?_)
    refine XO_dv0 dv_storeW (hk := ?_)
    rintro _ _ rfl
    repeat (first | refine X_ret ?_ | refine XO_nil ?_ | refine XE_code ?_)
    refine XE_fold (by repeat (first | exact FindAll.nil | exact Find.here | apply Find.there | apply FindAll.cons)) (Lg.fold hM) ?_
    refine XE_ret (.inl rfl) (tells_cell rfl) ⟨_, ⟨rfl, rfl⟩, by ((try simp only [List.cons_append, List.nil_append]); repeat (first | exact ent_refl | refine ent_take (by repeat (first | exact Find.here | apply Find.there)) ?_ | refine ent_drop ?_))⟩
  · obtain ⟨T1, z, T2, hTz, ht1, hz, ht2⟩ : ∃ T1 z T2, T = T1 ++ z :: T2 ∧ t1 = blk T1 ∧ p = (z.1, some z.2.1) ∧ t2 = blk T2 := by
      unfold blk at ht
      obtain ⟨T1, T3, h1, h2, h3⟩ := List.map_eq_append_iff.1 ht
      obtain ⟨z, T2, h4, h5, h6⟩ := List.map_eq_cons_iff.1 h3
      exact ⟨T1, z, T2, by rw [h1, h4], h2.symm, h5.symm, h6.symm⟩
    subst hTz ht1 hz ht2
    obtain ⟨id, b, s⟩ := z
    have hzM : (id, b, s) ∈ M := hperm.mem_iff.1 (by simp)
    obtain ⟨M1, M2, rfl⟩ := List.append_of_mem hzM
    have hsB : ShB s := hS (id, s) (by rw [← hM]; simp [rgs])
    have hs1 := hsB.lp
    have hs2 := hsB.ll
    have hsp := shPages_bd hsB
    repeat (first | refine Zp pv_extract ?_ | refine X_seq ?_ | refine XO_nil ?_ | refine XE_code ?_)
    refine X_cond rfl (fun _ => ?_) (fun h => by cases h)
    repeat (first | refine X_seq ?_ | refine X_region ?_ | refine X_block ?_ | refine X_skip ?_ | refine XE_code ?_)
    refine XO_rv (rv_entry (ke := idE) (ve := ptV)) (hk := ?_)
    refine XO_conv (L' := MpI idE ptV mb r (blk (M1 ++ (id, b, s) :: M2)) (blk T1 ++ blk T2) :: _) (fun _ => SL.head MpL.on) ?_
    refine XO_open (A := Shs (M1 ++ (id, b, s) :: M2)) (by (repeat (first | exact Find.here | apply Find.there))) Shs.out ?_
    rintro ⟨⟩ -
    dsimp only [List.cons_append, List.nil_append]
    refine XO_open (A := Shd b s) (by (repeat (first | exact Find.here | apply Find.there))) Shd.open ?_
    rintro ⟨a, c, a', c'⟩ -
    dsimp only [List.cons_append, List.nil_append, ptV, Option.map_some]
    repeat (first | refine Zp pv_assign ?_ | refine Zp pv_extract ?_ | refine X_seq ?_ | refine XO_nil ?_ | refine XE_code ?_)
    repeat (first | refine Dp pv_move ?_ | refine Dp pv_nil_ptr ?_ | refine Dp pv_field ?_ | refine Dp pv_arith ?_ | refine Dr rv_load ?_ | refine XD_pick (h := ?_) | refine X_draws (h := ?_))
    rw [wrap_add]
    refine XD_one (h := ?_)
    refine XDa_dvk0 dv_store (K := _) (hk := ?_)
    rintro _ _ rfl
    refine ⟨by (repeat (first | exact keeps_nil | exact keeps_fnil | refine keeps_skip (h := ?_) | refine keeps_takeA (hv := by first | exact rv_load | exact rv_loadW | exact rv_loadS) (h := ?_))), ?_⟩
    (refine XD_end (h := ?_); repeat (first | refine X_seq ?_ | refine XE_code ?_))
    repeat (first | refine Dp pv_move ?_ | refine Dp pv_nil_ptr ?_ | refine Dp pv_field ?_ | refine Dp pv_arith ?_ | refine Dr rv_load ?_ | refine XD_pick (h := ?_) | refine X_draws (h := ?_))
    rw [wrap_add]
    refine XD_one (h := ?_)
    refine XDa_dvk0 dv_store (K := _) (hk := ?_)
    rintro _ _ rfl
    refine ⟨by (repeat (first | exact keeps_nil | exact keeps_fnil | refine keeps_skip (h := ?_) | refine keeps_takeA (hv := by first | exact rv_load | exact rv_loadW | exact rv_loadS) (h := ?_))), ?_⟩
    (refine XD_end (h := ?_); repeat (first | refine X_seq ?_ | refine XE_code ?_))
    repeat (first | refine Dp pv_move ?_ | refine Dp pv_nil_ptr ?_ | refine Dp pv_field ?_ | refine Dp pv_arith ?_ | refine Dp pv_len_slice ?_ | refine Dp pv_conv_int ?_ | refine Dr rv_load ?_ | refine XD_pick (h := ?_) | refine X_draws (h := ?_))
    rw [wrap_add]
    refine XD_one (h := ?_)
    refine XDa_dvk0 dv_store (K := _) (hk := ?_)
    rintro _ _ rfl
    refine ⟨by (repeat (first | exact keeps_nil | exact keeps_fnil | refine keeps_skip (h := ?_) | refine keeps_takeA (hv := by first | exact rv_load | exact rv_loadW | exact rv_loadS) (h := ?_))), ?_⟩
    (refine XD_end (h := ?_); repeat (first | refine Zp pv_move ?_ | refine Zp pv_nil_ptr ?_ | refine Zp pv_field ?_ | refine Zr rv_load ?_ | refine Zp pv_len_slice ?_ | refine X_seq ?_ | refine X_region ?_ | refine X_block ?_ | refine XO_nil ?_ | refine XE_code ?_))
    have hGD2 : (rgs D).length ≤ 100000 := by omega
    refine X_loop (ι := Nat) (fun j => j ≤ s.parts.length) (fun j => [(0, .pointer (some ⟨l, 0, none⟩)), (2, .pointer (some ⟨gb, 0, none⟩)), (3, .pointer (some ⟨m, 0, none⟩)), (44, .pointer (some ⟨r, 0, none⟩)), (6, .pointer (some ⟨b, 0, none⟩)), (85, .slice a s.parts.length c), (86, .int .i64 (s.parts.length : Int)), (87, .int .i64 (j : Int)), (4, .int .i64 (sumF shPages (rgs D) + totI ((s.parts.map runP).take j)))])
      (fun _ => Core l mb C :: MpI idE ptV mb r (blk (M1 ++ (id, b, s) :: M2)) (blk T1 ++ blk T2) :: pt m (.cells [.int .i64 (C.P - totI C.fr), .int .i64 (kpages C.ks 7), .int .i64 (totI C.fr), .int .i64 (C.fr.length : Int), .int .u64 (IntKind.u64.wrap (sumF Sh.obj (rgs D) + s.obj)), .int .u64 (IntKind.u64.wrap (sumF Sh.pad (rgs D) + s.pad)), .int .u64 (IntKind.u64.wrap (sumF shHdr (rgs D) + shHdr s)), .int .u64 0].toArray 37 (0, 0)) :: pt gb (.cells [.int .i64 0, .int .i64 0, .int .i64 0, .int .i64 0, .int .u64 0, .int .u64 0, .int .u64 0, .int .u64 0].toArray 37 (0, 0)) :: pt b (.cells [.slice a s.parts.length c, .slice a' s.larges.length c', .int .u64 s.obj, .int .u64 s.pad].toArray 58 (0, 0)) :: Sl ePart a c s.parts :: Sl eRun a' c' s.larges :: Shs (M1 ++ M2) :: F) (fun j => s.parts.length - j) 0 (Nat.zero_le _) ?_ ?_ ?_
    · rw [List.take_zero, show totI [] = 0 from rfl, Int.add_zero]; (repeat (first | exact Env.sub_nil _ | refine Env.sub_cons rfl ?_))
    · ((try simp only [List.cons_append, List.nil_append]); repeat (first | exact ent_refl | refine ent_take (by repeat (first | exact Find.here | apply Find.there)) ?_ | refine ent_drop ?_))
    intro j hj
    dsimp only at hj ⊢
    repeat (first | refine Zp pv_cmp ?_ | refine X_seq ?_ | refine X_region ?_ | refine XO_nil ?_ | refine XE_code ?_)
    refine X_cond rfl (fun hc => ?_) (fun hc => ?_) <;> simp only [decide_eq_true_eq, decide_eq_false_iff_not] at hc
    · have hjl : j < s.parts.length := by omega
      have hts : totI ((s.parts.map runP).take (j + 1)) = totI ((s.parts.map runP).take j) + s.parts[j].2.1 := by
        rw [List.take_succ_eq_append_getElem (by simp; omega), tot_append]; simp [totI, runP]
      have hb1 := tot_bd (l := (s.parts.map runP).take j) (fun q hq => run_bd hsB q (List.mem_of_mem_take hq))
      have hb2 : ((s.parts.map runP).take j).length ≤ 1048576 := by simp; omega
      have hb3 := hsB.ok.parts s.parts[j] (List.getElem_mem hjl)
      refine X_slopen (E' := ePart) (a := a) (c := c) (xs := s.parts) (by (repeat (first | exact Find.here | apply Find.there))) (by omega) ?_
      rintro qb o rfl
      repeat (first | refine Zp pv_index ?_ | refine X_seq ?_ | refine X_region ?_ | refine X_block ?_ | refine X_skip ?_ | refine XE_code ?_)
      refine XO_rv (rv_elG (E' := ePart) (i := j) (x' := s.parts[j]) (hget := by simp [hjl])) (hk := ?_)
      repeat (fail)
      (refine XO_dv dv_alloc (hk := ?_); rintro _ _ ⟨cb, rfl, rfl⟩; (repeat (fail)); refine XO_dv0 dv_storeW (hk := ?_); rintro _ _ rfl; (repeat (first | refine Zp pv_move ?_ | refine Zp pv_assign ?_ | refine Zp pv_arith ?_ | refine Zp pv_field ?_ | refine Zr rv_load ?_ | refine X_region ?_ | refine XO_nil ?_ | refine XE_code ?_ | refine XE_block ?_)))
      refine X_round (j + 1) (by show j + 1 ≤ _; omega) (by show s.parts.length - (j + 1) < s.parts.length - j; omega) (by rw [hts, ← Int.add_assoc]; (repeat (first | exact Env.sub_nil _ | refine Env.sub_cons rfl ?_))) (by ((try simp only [List.cons_append, List.nil_append]); repeat (first | exact ent_refl | refine ent_take (by repeat (first | exact Find.here | apply Find.there)) ?_ | refine ent_drop ?_)))
    · obtain rfl : j = s.parts.length := by omega
      rw [List.take_of_length_le (l := s.parts.map runP) (by simp)]
      have hb1 := tot_bd (l := s.parts.map runP) (run_bd hsB)
      have hb2 : (s.parts.map runP).length ≤ 1048576 := by simp; omega
      repeat (first | refine Zp pv_move ?_ | refine Zp pv_nil_ptr ?_ | refine Zp pv_field ?_ | refine Zr rv_load ?_ | refine Zp pv_len_slice ?_ | refine X_seq ?_ | refine X_region ?_ | refine X_block ?_ | refine X_exit ?_ | refine XO_nil ?_ | refine XE_code ?_ | refine XE_code_exit ?_ | refine XE_block_exit ?_ | refine XE_pred_exit ?_)
      refine X_loop (ι := Nat) (fun j => j ≤ s.larges.length) (fun j => [(0, .pointer (some ⟨l, 0, none⟩)), (2, .pointer (some ⟨gb, 0, none⟩)), (3, .pointer (some ⟨m, 0, none⟩)), (44, .pointer (some ⟨r, 0, none⟩)), (6, .pointer (some ⟨b, 0, none⟩)), (100, .slice a' s.larges.length c'), (101, .int .i64 (s.larges.length : Int)), (102, .int .i64 (j : Int)), (4, .int .i64 (sumF shPages (rgs D) + totI (s.parts.map runP) + totI (s.larges.take j)))])
        (fun _ => Core l mb C :: MpI idE ptV mb r (blk (M1 ++ (id, b, s) :: M2)) (blk T1 ++ blk T2) :: pt m (.cells [.int .i64 (C.P - totI C.fr), .int .i64 (kpages C.ks 7), .int .i64 (totI C.fr), .int .i64 (C.fr.length : Int), .int .u64 (IntKind.u64.wrap (sumF Sh.obj (rgs D) + s.obj)), .int .u64 (IntKind.u64.wrap (sumF Sh.pad (rgs D) + s.pad)), .int .u64 (IntKind.u64.wrap (sumF shHdr (rgs D) + shHdr s)), .int .u64 0].toArray 37 (0, 0)) :: pt gb (.cells [.int .i64 0, .int .i64 0, .int .i64 0, .int .i64 0, .int .u64 0, .int .u64 0, .int .u64 0, .int .u64 0].toArray 37 (0, 0)) :: pt b (.cells [.slice a s.parts.length c, .slice a' s.larges.length c', .int .u64 s.obj, .int .u64 s.pad].toArray 58 (0, 0)) :: Sl ePart a c s.parts :: Sl eRun a' c' s.larges :: Shs (M1 ++ M2) :: F) (fun j => s.larges.length - j) 0 (Nat.zero_le _) ?_ ?_ ?_
      · rw [List.take_zero, show totI [] = 0 from rfl, Int.add_zero]; (repeat (first | exact Env.sub_nil _ | refine Env.sub_cons rfl ?_))
      · ((try simp only [List.cons_append, List.nil_append]); repeat (first | exact ent_refl | refine ent_take (by repeat (first | exact Find.here | apply Find.there)) ?_ | refine ent_drop ?_))
      intro j hj
      dsimp only at hj ⊢
      repeat (first | refine Zp pv_cmp ?_ | refine X_seq ?_ | refine X_region ?_ | refine XO_nil ?_ | refine XE_code ?_)
      refine X_cond rfl (fun hc => ?_) (fun hc => ?_) <;> simp only [decide_eq_true_eq, decide_eq_false_iff_not] at hc
      · have hjl : j < s.larges.length := by omega
        have hts : totI (s.larges.take (j + 1)) = totI (s.larges.take j) + s.larges[j].2 := by
          rw [List.take_succ_eq_append_getElem hjl, tot_append]; simp [totI]
        have hb4 := tot_bd (l := s.larges.take j) (fun q hq => (hsB.ok.larges q (List.mem_of_mem_take hq)).2.2)
        have hb5 : (s.larges.take j).length ≤ 1048576 := by simp; omega
        have hb3 := hsB.ok.larges s.larges[j] (List.getElem_mem hjl)
        refine X_slopen (E' := eRun) (a := a') (c := c') (xs := s.larges) (by (repeat (first | exact Find.here | apply Find.there))) (by omega) ?_
        rintro qb o rfl
        repeat (first | refine Zp pv_index ?_ | refine X_seq ?_ | refine X_region ?_ | refine X_block ?_ | refine X_skip ?_ | refine XE_code ?_)
        refine XO_rv (rv_elG (E' := eRun) (i := j) (x' := s.larges[j]) (hget := by simp [hjl])) (hk := ?_)
        repeat (fail)
        (refine XO_dv dv_alloc (hk := ?_); rintro _ _ ⟨cb, rfl, rfl⟩; (repeat (fail)); refine XO_dv0 dv_storeW (hk := ?_); rintro _ _ rfl; (repeat (first | refine Zp pv_move ?_ | refine Zp pv_assign ?_ | refine Zp pv_arith ?_ | refine Zp pv_field ?_ | refine Zr rv_load ?_ | refine X_region ?_ | refine XO_nil ?_ | refine XE_code ?_ | refine XE_block ?_)))
        refine X_round (j + 1) (by show j + 1 ≤ _; omega) (by show s.larges.length - (j + 1) < s.larges.length - j; omega) (by rw [hts, ← Int.add_assoc]; (repeat (first | exact Env.sub_nil _ | refine Env.sub_cons rfl ?_))) (by ((try simp only [List.cons_append, List.nil_append]); repeat (first | exact ent_refl | refine ent_take (by repeat (first | exact Find.here | apply Find.there)) ?_ | refine ent_drop ?_)))
      · obtain rfl : j = s.larges.length := by omega
        rw [List.take_length]
        have e0 : rgs (D ++ [(id, b, s)]) = rgs D ++ [(id, s)] := by simp [rgs]
        have e1 : sumF Sh.obj (rgs (D ++ [(id, b, s)])) = sumF Sh.obj (rgs D) + s.obj := by rw [e0, sumF_append]; simp [sumF]
        have e2 : sumF Sh.pad (rgs (D ++ [(id, b, s)])) = sumF Sh.pad (rgs D) + s.pad := by rw [e0, sumF_append]; simp [sumF]
        have e3 : sumF shHdr (rgs (D ++ [(id, b, s)])) = sumF shHdr (rgs D) + shHdr s := by rw [e0, sumF_append]; simp [sumF]
        have e4 : sumF shPages (rgs (D ++ [(id, b, s)])) = sumF shPages (rgs D) + totI (s.parts.map runP) + totI s.larges := by rw [e0, sumF_append]; simp [sumF, shPages]; omega
        have e5 : blk (T1 ++ T2) = blk T1 ++ blk T2 := by simp [blk]
        repeat (first | refine X_exit ?_ | refine XE_block ?_ | refine XE_code_exit ?_ | refine XE_block_exit ?_ | refine XE_pred_exit ?_)
        refine X_round (D ++ [(id, b, s)], T1 ++ T2) ?_ (by show (T1 ++ T2).length < (T1 ++ (id, b, s) :: T2).length; simp) (by rw [e4]; (repeat (first | exact Env.sub_nil _ | refine Env.sub_cons rfl ?_))) ?_
        · show (D ++ [(id, b, s)] ++ (T1 ++ T2)).Perm _
          refine List.Perm.trans ?_ hperm
          rw [List.append_assoc]
          exact List.Perm.append_left D (by simpa using List.perm_middle.symm)
        · dsimp only
          rw [e1, e2, e3, e5]
          refine fun H h => ?_
          have h2 := ent_fold (by repeat (first | exact FindAll.nil | exact Find.here | apply Find.there | apply FindAll.cons)) (Shd.fold (b := b) (s := s) (a := a) (c := c) (a' := a') (c' := c')) ent_refl H h
          have h3 := ent_fold (by repeat (first | exact FindAll.nil | exact Find.here | apply Find.there | apply FindAll.cons)) (Shs.back (id := id) (M1 := M1) (M2 := M2)) ent_refl H h2
          exact (show ∀ H, SL _ H → SL _ H from by ((try simp only [List.cons_append, List.nil_append]); repeat (first | exact ent_refl | refine ent_take (by repeat (first | exact Find.here | apply Find.there)) ?_ | refine ent_drop ?_))) H h3
end Go.Proofs.Ytlhjiciimeefeaa.Sep
