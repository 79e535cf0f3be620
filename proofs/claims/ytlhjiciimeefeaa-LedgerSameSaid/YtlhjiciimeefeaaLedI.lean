import Derived.Test.YtlhjiciimeefeaaLedT
import Derived.Test.YtlhjiciimeefeaaLedE
namespace Go.Proofs.Ytlhjiciimeefeaa.Sep
open Go.RowKit
set_option linter.unusedSimpArgs false
set_option linter.unusedVariables false
theorem Shd.foldN {b m m' c c' : Nat} {s : Sh} {a a' : Option Addr} (h : m = s.parts.length) (h' : m' = s.larges.length) : ∀ H, SL [pt b (.cells [.slice a m c, .slice a' m' c', .int .u64 s.obj, .int .u64 s.pad].toArray 58 (0, 0)), Sl ePart a c s.parts, Sl eRun a' c' s.larges] H → Shd b s H := by
  subst h h'; exact Shd.fold
def runP (p : Part) : Int × Int := (p.1, p.2.1)
def cutS (s : Sh) (mc ml : Int) : Sh := ⟨s.parts.take mc.toNat, s.larges.take ml.toNat, s.obj, s.pad⟩
def putsC (C : Co) (s : Sh) (mc ml : Int) : Co := (((s.parts.map runP).drop mc.toNat).reverse).foldl putC (((s.larges.drop ml.toNat).reverse).foldl putC C)
def rewS (C : Co) (s : Sh) (mc ml at_ ob pd : Int) : Option (Co × Sh) :=
  if fitsS s mc ml at_ = true then some (putsC C s mc ml, if [mc, ml, at_, ob, pd] = [0, 0, 0, 0, 0] then emptySh else setTop (cutS s mc ml) at_ ob pd) else none
def rewV (l : Nat) (C : Co) (rg : List (Int × Sh)) (id mc ml at_ ob pd : Int) : Option Sh → Value → List HP → Prop
  | none => fun v L => v = .int .i64 2 ∧ L = [Lg l C rg]
  | some s => match rewS C s mc ml at_ ob pd with
    | none => fun v L => v = .int .i64 2 ∧ L = [Lg l C rg]
    | some q => fun v L => v = .int .i64 0 ∧ L = [Lg l q.1 (ins rg id q.2)]
theorem rewV_none {l : Nat} {C : Co} {rg : List (Int × Sh)} {id mc ml at_ ob pd : Int} {s : Sh} (h : rewS C s mc ml at_ ob pd = none) : rewV l C rg id mc ml at_ ob pd (some s) = fun v L => v = .int .i64 2 ∧ L = [Lg l C rg] := by
  show (match rewS C s mc ml at_ ob pd with | none => _ | some q => _) = _
  rw [h]
theorem rewV_some {l : Nat} {C : Co} {rg : List (Int × Sh)} {id mc ml at_ ob pd : Int} {s : Sh} {q : Co × Sh} (h : rewS C s mc ml at_ ob pd = some q) : rewV l C rg id mc ml at_ ob pd (some s) = fun v L => v = .int .i64 0 ∧ L = [Lg l q.1 (ins rg id q.2)] := by
  show (match rewS C s mc ml at_ ob pd with | none => _ | some q => _) = _
  rw [h]
theorem puts_ok {l : List (Int × Int)} (hl : ∀ r ∈ l, r.1 ≤ 1048576) : ∀ {C : Co}, CoOk C → CoOk (l.foldl putC C) := by
  induction l with
  | nil => exact fun h => h
  | cons r l ih => exact fun h => ih (fun q hq => hl q (by simp [hq])) (putC_ok h (hl r (by simp)))
theorem puts_step {l : List (Int × Int)} {k : Nat} (hk : k < l.length) (C : Co) : ((l.drop k).reverse).foldl putC C = putC (((l.drop (k + 1)).reverse).foldl putC C) l[k] := by
  rw [List.drop_eq_getElem_cons hk, List.reverse_cons, List.foldl_append]; rfl
instance teq_mark : TEq Try.prog 29 [.i64, .i64, .u64, .u64, .u64] := ⟨_, Try.underlying29, by kernel_rfl, by kernel_rfl, ⟨by decide, rfl, Try.underlying3, by decide, rfl, Try.underlying3, by decide, rfl, Try.underlying27, by decide, rfl, Try.underlying27, by decide, rfl, Try.underlying27, trivial⟩⟩
attribute [local irreducible] Core Shd Shs Lg
set_option maxHeartbeats 8000000
attribute [local irreducible] X XE XO XD XDi XDa PV RV DV pt base Spec Sl Mp Keeps Pg Kc
theorem rewind_spec (l : Nat) (C : Co) (rg : List (Int × Sh)) (id mc ml at_ ob pd : Int) (hC : CoOk C) (hS : ∀ q ∈ rg, ShOk q.2 ∧ q.2.parts.length ≤ 1048576 ∧ q.2.larges.length ≤ 1048576) (hmc : -9223372036854775808 ≤ mc) (hmc' : mc ≤ 9223372036854775807) (hml : -9223372036854775808 ≤ ml) (hml' : ml ≤ 9223372036854775807) :
    Spec Try.prog 14 [.pointer (some ⟨l, 0, none⟩), .int .u64 id, .agg #[.int .i64 mc, .int .i64 ml, .int .u64 at_, .int .u64 ob, .int .u64 pd]] [Lg l C rg] (rewV l C rg id mc ml at_ ob pd (lk rg id)) := by
  refine Spec.intro (IsEnt.out) Try.func14 rfl Try.ntmps14 (by simp) (fun w0 F => ?_)
  simp only [envOf, List.zipIdx, List.map, List.cons_append, List.nil_append, Nat.zero_add, Nat.reduceAdd]
  refine X_open .here Lg.open ?_
  rintro ⟨mb, M⟩ hM
  dsimp only [List.cons_append, List.nil_append] at hM ⊢
  repeat (first | refine X_seq ?_ | refine X_region ?_)
  refine XO_dv dv_box (hk := ?_)
  rintro _ _ ⟨b5, rfl, rfl⟩
  repeat (first | refine Zp pv_move ?_ | refine Zp pv_assign ?_ | refine X_seq ?_ | refine X_region ?_ | refine XO_nil ?_ | refine XE_code ?_)
  refine XO_call (of_spec l mb C (blk M) id) (hk := ?_)
  rintro _ _ ⟨rfl, rfl⟩
  rw [lk_blk]
  cases hk : lk M id with
  | none =>
    have hrg : lk rg id = none := by rw [← hM, lk_rgs, hk]; rfl
    rw [hrg]
    simp only [Option.map_none, Option.getD_none, ptV]
    repeat (first | refine ZF ?_ | refine Zp pv_move ?_ | refine Zp pv_assign ?_ | refine Zp pv_pickT ?_ | refine Zp pv_eqnil ?_ | refine X_seq ?_ | refine X_region ?_ | refine XO_nil ?_ | refine XE_code ?_)
    refine X_cond rfl (fun _ => ?_) (fun h => by cases h)
    repeat (first | refine Zp pv_assign ?_ | refine X_seq ?_ | refine X_region ?_ | refine X_ret ?_ | refine XO_nil ?_ | refine XE_code ?_ | refine XE_code_ret ?_)
    refine XE_fold (by repeat (first | exact FindAll.nil | exact Find.here | apply Find.there | apply FindAll.cons)) (Lg.fold hM) ?_
    refine XE_ret (.inl rfl) (tells_tmps rfl rfl) ⟨_, ⟨rfl, rfl⟩, by ((try simp only [List.cons_append, List.nil_append]); repeat (first | exact ent_refl | refine ent_take (by repeat (first | exact Find.here | apply Find.there)) ?_ | refine ent_drop ?_))⟩
  | some q =>
    obtain ⟨b, s⟩ := q
    have hrg : lk rg id = some s := by rw [← hM, lk_rgs, hk]; rfl
    have hsame := ins_same hrg
    rw [hrg]
    obtain ⟨M1, M2, rfl, hn1⟩ := lk_split hk
    obtain ⟨hs1, hs2, hs3⟩ := hS (id, s) (by rw [← hM]; simp [rgs])
    dsimp only at hs1 hs2 hs3
    simp only [Option.map_some, Option.getD_some, ptV]
    refine XO_open (A := Shs (M1 ++ (id, b, s) :: M2)) (by (repeat (first | exact Find.here | apply Find.there))) Shs.out ?_
    rintro ⟨⟩ -
    dsimp only [List.cons_append, List.nil_append]
    repeat (first | refine ZT ?_ | refine Zp pv_move ?_ | refine Zp pv_assign ?_ | refine Zr rv_loadW ?_ | refine Zp pv_eqnil ?_ | refine X_seq ?_ | refine X_region ?_ | refine XO_nil ?_ | refine XE_code ?_)
    refine XO_call (fits_spec b s mc ml at_ ob pd (by omega)) (hk := ?_)
    rintro _ _ ⟨rfl, rfl⟩
    cases hfit : fitsS s mc ml at_ with
    | false =>
      have hR : rewS C s mc ml at_ ob pd = none := by unfold rewS; rw [hfit]; rfl
      rw [rewV_none hR]
      repeat (first | refine ZT ?_ | refine Zp pv_not ?_ | refine Zp pv_pickF ?_ | refine XO_nil ?_ | refine XE_code ?_)
      refine X_cond rfl (fun _ => ?_) (fun h => by cases h)
      repeat (first | refine Zp pv_assign ?_ | refine X_seq ?_ | refine X_region ?_ | refine X_ret ?_ | refine XO_nil ?_ | refine XE_code ?_ | refine XE_code_ret ?_)
      refine XE_fold (by repeat (first | exact FindAll.nil | exact Find.here | apply Find.there | apply FindAll.cons)) (Lg.back s hM hn1) ?_
      rw [hsame]
      refine XE_ret (.inl rfl) (tells_tmps rfl rfl) ⟨_, ⟨rfl, rfl⟩, by ((try simp only [List.cons_append, List.nil_append]); repeat (first | exact ent_refl | refine ent_take (by repeat (first | exact Find.here | apply Find.there)) ?_ | refine ent_drop ?_))⟩
    | true =>
      have hR : rewS C s mc ml at_ ob pd = some (putsC C s mc ml, if [mc, ml, at_, ob, pd] = [0, 0, 0, 0, 0] then emptySh else setTop (cutS s mc ml) at_ ob pd) := by unfold rewS; rw [hfit]; rfl
      rw [rewV_some hR]
      dsimp only
      have hfr : 0 ≤ mc ∧ mc ≤ s.parts.length ∧ 0 ≤ ml ∧ ml ≤ s.larges.length := by
        unfold fitsS at hfit
        split at hfit
        · cases hfit
        · omega
      obtain ⟨f1, f2, f3, f4⟩ := hfr
      repeat (first | refine ZT ?_ | refine Zp pv_not ?_ | refine Zp pv_pickF ?_ | refine XO_nil ?_ | refine XE_code ?_)
      refine X_cond rfl (fun h => by cases h) (fun _ => ?_)
      refine X_open (A := Shd b s) (by (repeat (first | exact Find.here | apply Find.there))) Shd.open ?_
      rintro ⟨a, c, a', c'⟩ -
      dsimp only [List.cons_append, List.nil_append]
      refine X_fact (A := Sl ePart a c s.parts) (by (repeat (first | exact Find.here | apply Find.there))) Sl.cap (fun hcap => ?_)
      refine X_fact (A := Sl eRun a' c' s.larges) (by (repeat (first | exact Find.here | apply Find.there))) Sl.cap (fun hcap' => ?_)
      repeat (first | refine Zp pv_move ?_ | refine Zp pv_assign ?_ | refine Zp pv_nil_ptr ?_ | refine Zp pv_field ?_ | refine Zr rv_load ?_ | refine Zp pv_len_slice ?_ | refine X_seq ?_ | refine X_region ?_ | refine X_block ?_ | refine X_skip ?_ | refine XO_nil ?_ | refine XE_code ?_)
      refine X_loop (ι := Nat) (fun n => ml.toNat ≤ n ∧ n ≤ s.larges.length) (fun n => [(0, .pointer (some ⟨l, 0, none⟩)), (5, .pointer (some ⟨b5, 0, none⟩)), (7, .pointer (some ⟨b, 0, none⟩)), (8, .int .i64 (n : Int))])
        (fun n => Core l mb (((s.larges.drop n).reverse).foldl putC C) :: pt b5 (.cells [.int .i64 mc, .int .i64 ml, .int .u64 at_, .int .u64 ob, .int .u64 pd].toArray 29 (0, 0)) :: pt b (.cells [.slice a s.parts.length c, .slice a' s.larges.length c', .int .u64 s.obj, .int .u64 s.pad].toArray 58 (0, 0)) :: Sl ePart a c s.parts :: Sl eRun a' c' s.larges :: Mp idE ptV mb (blk (M1 ++ (id, b, s) :: M2)) :: Shs (M1 ++ M2) :: F)
        (fun n => n) s.larges.length ⟨by omega, Nat.le_refl _⟩ ?_ ?_ ?_
      · (repeat (first | exact Env.sub_nil _ | refine Env.sub_cons rfl ?_))
      · rw [List.drop_length]; ((try simp only [List.cons_append, List.nil_append]); repeat (first | exact ent_refl | refine ent_take (by repeat (first | exact Find.here | apply Find.there)) ?_ | refine ent_drop ?_))
      · rintro n ⟨hn0, hn2⟩
        dsimp only at hn0 hn2 ⊢
        repeat (first | refine Zp pv_move ?_ | refine Zp pv_cmp ?_ | refine Zp pv_field ?_ | refine Zr rv_load ?_ | refine X_seq ?_ | refine X_region ?_ | refine XO_nil ?_ | refine XE_code ?_)
        refine X_cond rfl (fun hc => ?_) (fun hc => ?_) <;> simp only [decide_eq_true_eq, decide_eq_false_iff_not] at hc
        · have hnl : n - 1 < s.larges.length := by omega
          have hn1' : n - 1 + 1 = n := by omega
          have hto : ((n : Int) - 1).toNat = n - 1 := by omega
          have hm1 : ((n - 1 : Nat) : Int) = (n : Int) - 1 := by omega
          have hok := puts_ok (l := (s.larges.drop n).reverse) (fun r hr => (hs1.larges r (List.mem_of_mem_drop (List.mem_reverse.1 hr))).2.1) hC
          have hst := puts_step hnl C
          rw [hn1'] at hst
          have hrr := hs1.larges s.larges[n - 1] (List.getElem_mem hnl)
          refine X_slopen (E' := eRun) (a := a') (c := c') (xs := s.larges) (by (repeat (first | exact Find.here | apply Find.there))) (by omega) ?_
          rintro qb o rfl
          repeat (first | refine Zp pv_move ?_ | refine Zp pv_nil_ptr ?_ | refine Zp pv_arith ?_ | refine Zp pv_field ?_ | refine Zr rv_load ?_ | refine Zp pv_index ?_ | refine X_seq ?_ | refine X_region ?_ | refine X_block ?_ | refine X_skip ?_ | refine XE_code ?_)
          simp only [hto]
          refine XO_rv (rv_elG (E' := eRun) (i := n - 1) (x' := s.larges[n - 1]) (hget := by simp [hnl])) (hk := ?_)
          repeat (fail)
          refine XO_call (put_spec l mb _ s.larges[n - 1] hok hrr.1 hrr.2.1 hrr.2.2.1 hrr.2.2.2) (hk := ?_)
          rintro _ _ ⟨rfl, rfl⟩
          rw [← hst]
          repeat (first | refine Zp pv_move ?_ | refine Zp pv_assign ?_ | refine Zp pv_arith ?_ | refine X_region ?_ | refine XO_nil ?_ | refine XE_code ?_ | refine XE_block ?_)
          refine X_round (n - 1) ⟨by show _ ≤ n - 1; omega, by show n - 1 ≤ _; omega⟩ (by show n - 1 < n; omega) (by rw [hm1]; (repeat (first | exact Env.sub_nil _ | refine Env.sub_cons rfl ?_))) (by ((try simp only [List.cons_append, List.nil_append]); repeat (first | exact ent_refl | refine ent_take (by repeat (first | exact Find.here | apply Find.there)) ?_ | refine ent_drop ?_)))
        · obtain rfl : n = ml.toNat := by omega
          have hok1 := puts_ok (l := (s.larges.drop ml.toNat).reverse) (fun r hr => (hs1.larges r (List.mem_of_mem_drop (List.mem_reverse.1 hr))).2.1) hC
          unfold putsC
          generalize ((s.larges.drop ml.toNat).reverse).foldl putC C = C1 at hok1 ⊢
          repeat (first | refine Zp pv_move ?_ | refine Zp pv_assign ?_ | refine Zp pv_nil_ptr ?_ | refine Zp pv_field ?_ | refine Zr rv_load ?_ | refine Zp pv_len_slice ?_ | refine X_seq ?_ | refine X_region ?_ | refine X_block ?_ | refine X_exit ?_ | refine XO_nil ?_ | refine XE_code ?_ | refine XE_code_exit ?_ | refine XE_block_exit ?_ | refine XE_pred_exit ?_)
          refine X_loop (ι := Nat) (fun n => mc.toNat ≤ n ∧ n ≤ s.parts.length) (fun n => [(0, .pointer (some ⟨l, 0, none⟩)), (5, .pointer (some ⟨b5, 0, none⟩)), (7, .pointer (some ⟨b, 0, none⟩)), (9, .int .i64 (n : Int))])
            (fun n => Core l mb ((((s.parts.map runP).drop n).reverse).foldl putC C1) :: pt b5 (.cells [.int .i64 mc, .int .i64 ml, .int .u64 at_, .int .u64 ob, .int .u64 pd].toArray 29 (0, 0)) :: pt b (.cells [.slice a s.parts.length c, .slice a' s.larges.length c', .int .u64 s.obj, .int .u64 s.pad].toArray 58 (0, 0)) :: Sl ePart a c s.parts :: Sl eRun a' c' s.larges :: Mp idE ptV mb (blk (M1 ++ (id, b, s) :: M2)) :: Shs (M1 ++ M2) :: F)
            (fun n => n) s.parts.length ⟨by omega, Nat.le_refl _⟩ ?_ ?_ ?_
          · (repeat (first | exact Env.sub_nil _ | refine Env.sub_cons rfl ?_))
          · rw [List.drop_of_length_le (l := s.parts.map runP) (by simp)]; ((try simp only [List.cons_append, List.nil_append]); repeat (first | exact ent_refl | refine ent_take (by repeat (first | exact Find.here | apply Find.there)) ?_ | refine ent_drop ?_))
          · rintro n ⟨hn0, hn2⟩
            dsimp only at hn0 hn2 ⊢
            repeat (first | refine Zp pv_move ?_ | refine Zp pv_cmp ?_ | refine Zp pv_field ?_ | refine Zr rv_load ?_ | refine X_seq ?_ | refine X_region ?_ | refine XO_nil ?_ | refine XE_code ?_)
            refine X_cond rfl (fun hc => ?_) (fun hc => ?_) <;> simp only [decide_eq_true_eq, decide_eq_false_iff_not] at hc
            · have hnl : n - 1 < s.parts.length := by omega
              have hnl2 : n - 1 < (s.parts.map runP).length := by simp; omega
              have hn1' : n - 1 + 1 = n := by omega
              have hto : ((n : Int) - 1).toNat = n - 1 := by omega
              have hm1 : ((n - 1 : Nat) : Int) = (n : Int) - 1 := by omega
              have hb4 : ∀ r ∈ ((s.parts.map runP).drop n).reverse, r.1 ≤ 1048576 := fun r hr => by
                obtain ⟨p, hp, rfl⟩ := List.mem_map.1 (List.mem_of_mem_drop (List.mem_reverse.1 hr))
                exact (hs1.parts p hp).2.1
              have hok := puts_ok hb4 hok1
              have hst := puts_step hnl2 C1
              rw [hn1', List.getElem_map] at hst
              have hrr := hs1.parts s.parts[n - 1] (List.getElem_mem hnl)
              refine X_slopen (E' := ePart) (a := a) (c := c) (xs := s.parts) (by (repeat (first | exact Find.here | apply Find.there))) (by omega) ?_
              rintro qb o rfl
              repeat (first | refine Zp pv_move ?_ | refine Zp pv_nil_ptr ?_ | refine Zp pv_arith ?_ | refine Zp pv_field ?_ | refine Zr rv_load ?_ | refine Zp pv_index ?_ | refine X_seq ?_ | refine X_region ?_ | refine X_block ?_ | refine X_skip ?_ | refine XE_code ?_)
              simp only [hto]
              refine XO_rv (rv_elS (E' := ePart) (i := n - 1) (f := 0) (vs := [.int .i64 s.parts[n - 1].1, .int .i64 s.parts[n - 1].2.1]) (hfit := by show 0 + 2 ≤ 4; omega)) (hk := ?_)
              repeat (fail)
              refine XO_call (put_spec l mb _ (runP s.parts[n - 1]) hok hrr.1 hrr.2.1 hrr.2.2.1 hrr.2.2.2.1) (hk := ?_)
              rintro _ _ ⟨rfl, rfl⟩
              rw [← hst]
              repeat (first | refine Zp pv_move ?_ | refine Zp pv_assign ?_ | refine Zp pv_arith ?_ | refine X_region ?_ | refine XO_nil ?_ | refine XE_code ?_ | refine XE_block ?_)
              refine X_round (n - 1) ⟨by show _ ≤ n - 1; omega, by show n - 1 ≤ _; omega⟩ (by show n - 1 < n; omega) (by rw [hm1]; (repeat (first | exact Env.sub_nil _ | refine Env.sub_cons rfl ?_))) (by ((try simp only [List.cons_append, List.nil_append]); repeat (first | exact ent_refl | refine ent_take (by repeat (first | exact Find.here | apply Find.there)) ?_ | refine ent_drop ?_)))
            · obtain rfl : n = mc.toNat := by omega
              generalize (((s.parts.map runP).drop mc.toNat).reverse).foldl putC C1 = C2
              repeat (first | refine X_seq ?_ | refine X_exit ?_ | refine XE_code ?_ | refine XE_code_exit ?_ | refine XE_block_exit ?_ | refine XE_pred_exit ?_)
              repeat (first | refine Dp pv_move ?_ | refine Dp pv_nil_ptr ?_ | refine Dp pv_field ?_ | refine Dp pv_sliceH ?_ | refine Dr rv_load ?_ | refine XD_pick (h := ?_) | refine X_draws (h := ?_))
              refine XD_one (h := ?_)
              refine XDa_dvk0 dv_store (K := _) (hk := ?_)
              rintro _ _ rfl
              refine ⟨by (repeat (first | exact keeps_nil | exact keeps_fnil | refine keeps_skip (h := ?_) | refine keeps_takeA (hv := by first | exact rv_load | exact rv_loadW | exact rv_loadS) (h := ?_))), ?_⟩
              repeat (first | refine Dp pv_nil_ptr ?_ | refine Dp pv_field ?_ | refine XD_pick (h := ?_))
              refine XD_one (h := ?_)
              refine XDa_dvk0 dv_store (K := _) (hk := ?_)
              rintro _ _ rfl
              refine ⟨by (repeat (first | exact keeps_nil | exact keeps_fnil | refine keeps_skip (h := ?_) | refine keeps_takeA (hv := by first | exact rv_load | exact rv_loadW | exact rv_loadS) (h := ?_))), ?_⟩
              (refine XD_end (h := ?_); repeat (first | refine X_seq ?_ | refine XE_code ?_))
              refine X_conv (fun _ => SL_take (E' := ePart) (a := a) (c := c) (xs := s.parts) mc.toNat (by (repeat (first | exact Find.here | apply Find.there)))) ?_
              refine X_conv (fun _ => SL_take (E' := eRun) (a := a') (c := c') (xs := s.larges) ml.toNat (by (repeat (first | exact Find.here | apply Find.there)))) ?_
              refine X_fold (by repeat (first | exact FindAll.nil | exact Find.here | apply Find.there | apply FindAll.cons)) (Shd.foldN (b := b) (a := a) (a' := a') (c := c) (c' := c') (s := cutS s mc ml) (m := mc.toNat) (m' := ml.toNat) (by simp [cutS]; omega) (by simp [cutS]; omega)) ?_
              have hsl : (cutS s mc ml).parts.length ≤ 4611686018427387904 := by simp [cutS]; omega
              generalize cutS s mc ml = s1 at hsl hR ⊢
              repeat (first | refine Dp pv_move ?_ | refine Dp pv_field ?_ | refine Dr rv_load ?_ | refine XD_pick (h := ?_) | refine X_draws (h := ?_))
              refine XD_one (h := ?_)
              refine XDa_dvA (dv_call (top_spec b s1 hsl)) (hk := ?_)
              rintro _ _ ⟨_, ⟨cb, o, A, G, a5, a6, c5, c6, rfl, hCur, hfold, rfl⟩, rfl⟩
              refine ⟨by (repeat (first | exact keeps_nil | exact keeps_fnil | refine keeps_skip (h := ?_) | refine keeps_takeA (hv := by first | exact rv_load | exact rv_loadW | exact rv_loadS) (h := ?_))), ?_⟩
              repeat (first | refine Dp pv_nil_ptr ?_ | refine Dp pv_field ?_ | refine XD_pick (h := ?_))
              refine XD_one (h := ?_)
              refine XDa_dvk0 (hCur.store1 (a' := at_) (by (repeat (first | exact Find.here | apply Find.there))) rfl rfl) (K := _) (hk := ?_)
              rintro _ _ rfl
              refine ⟨by (repeat (first | exact keeps_nil | exact keeps_fnil | refine keeps_skip (h := ?_) | refine keeps_takeA (hv := by first | exact rv_load | exact rv_loadW | exact rv_loadS) (h := ?_))), ?_⟩
              (refine XD_end (h := ?_); repeat (first | refine X_seq ?_ | refine XE_code ?_))
              repeat (first | refine Dp pv_move ?_ | refine Dp pv_nil_ptr ?_ | refine Dp pv_field ?_ | refine Dr rv_load ?_ | refine XD_pick (h := ?_) | refine X_draws (h := ?_))
              refine XD_one (h := ?_)
              refine XDa_dvk0 dv_store (K := _) (hk := ?_)
              rintro _ _ rfl
              refine ⟨by (repeat (first | exact keeps_nil | exact keeps_fnil | refine keeps_skip (h := ?_) | refine keeps_takeA (hv := by first | exact rv_load | exact rv_loadW | exact rv_loadS) (h := ?_))), ?_⟩
              repeat (first | refine Dp pv_nil_ptr ?_ | refine Dp pv_field ?_ | refine XD_pick (h := ?_))
              refine XD_one (h := ?_)
              refine XDa_dvk0 dv_store (K := _) (hk := ?_)
              rintro _ _ rfl
              refine ⟨by (repeat (first | exact keeps_nil | exact keeps_fnil | refine keeps_skip (h := ?_) | refine keeps_takeA (hv := by first | exact rv_load | exact rv_loadW | exact rv_loadS) (h := ?_))), ?_⟩
              (refine XD_end (h := ?_); repeat (first | refine Zr rv_loadW ?_ | refine Zp pv_build0 ?_ | refine X_seq ?_ | refine X_region ?_ | refine XE_code ?_))
              refine XO_fold (by repeat (first | exact FindAll.nil | exact Find.here | apply Find.there | apply FindAll.cons)) (hfold at_ ob pd) ?_
              refine XO_pv (pv_eqRec [mc, ml, at_, ob, pd] [0, 0, 0, 0, 0]) (hk := ?_)
              repeat (first | refine XO_nil ?_ | refine XE_code ?_)
              refine X_cond rfl (fun h => ?_) (fun h => ?_) <;> simp only [decide_eq_true_eq, decide_eq_false_iff_not] at h
              · rw [if_pos h]
                refine X_open (A := Shd b (setTop s1 at_ ob pd)) (by (repeat (first | exact Find.here | apply Find.there))) Shd.open ?_
                rintro ⟨a7, c7, a8, c8⟩ -
                dsimp only [List.cons_append, List.nil_append]
                repeat (first | refine Zp pv_move ?_ | refine Zp pv_nil_ptr ?_ | refine Zp pv_build0 ?_ | refine X_region ?_)
                refine XO_dv0 dv_storeW (hk := ?_)
                rintro _ _ rfl
                repeat (first | refine Zp pv_assign ?_ | refine X_seq ?_ | refine X_region ?_ | refine X_ret ?_ | refine XO_nil ?_ | refine XE_code ?_)
                refine XE_conv (fun _ => SL_nilSl eRun) ?_
                refine XE_conv (fun _ => SL_nilSl ePart) ?_
                refine XE_fold (by repeat (first | exact FindAll.nil | exact Find.here | apply Find.there | apply FindAll.cons)) (Shd.fold (b := b) (s := emptySh) (a := none) (c := 0) (a' := none) (c' := 0)) ?_
                refine XE_fold (by repeat (first | exact FindAll.nil | exact Find.here | apply Find.there | apply FindAll.cons)) (Lg.back _ hM hn1) ?_
                refine XE_ret (.inl rfl) (tells_tmps rfl rfl) ⟨_, ⟨rfl, rfl⟩, by ((try simp only [List.cons_append, List.nil_append]); repeat (first | exact ent_refl | refine ent_take (by repeat (first | exact Find.here | apply Find.there)) ?_ | refine ent_drop ?_))⟩
              · rw [if_neg h]
                repeat (first | refine Zp pv_assign ?_ | refine X_seq ?_ | refine X_region ?_ | refine X_skip ?_ | refine X_ret ?_ | refine XO_nil ?_ | refine XE_code ?_)
                refine XE_fold (by repeat (first | exact FindAll.nil | exact Find.here | apply Find.there | apply FindAll.cons)) (Lg.back _ hM hn1) ?_
                refine XE_ret (.inl rfl) (tells_tmps rfl rfl) ⟨_, ⟨rfl, rfl⟩, by ((try simp only [List.cons_append, List.nil_append]); repeat (first | exact ent_refl | refine ent_take (by repeat (first | exact Find.here | apply Find.there)) ?_ | refine ent_drop ?_))⟩
end Go.Proofs.Ytlhjiciimeefeaa.Sep
