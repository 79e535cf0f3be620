import Derived.Test.YtlhjiciimeefeaaPartB
namespace Go.Proofs.Ytlhjiciimeefeaa.Sep
open Go.RowKit
set_option linter.unusedSimpArgs false
set_option linter.unusedVariables false
def aw0 : Co := ⟨2, [(0, 2)], fun _ => []⟩
def aw1 : Co := ⟨2, [(1, 1)], fun _ => []⟩
def aw2 : Co := ⟨2, [], fun _ => []⟩
def as1 : Sh := ⟨[(0, 1, 4032, 4096)], [], 4000, 0⟩
def as2 : Sh := ⟨[(0, 1, 4032, 4096), (1, 1, 8128, 8192)], [], 8000, 0⟩
theorem awa1 : allocS aw0 emptySh 4000 1 = ((aw1, as1), 0) := by rfl
theorem awa2 : allocS aw1 as1 4000 1 = ((aw2, as2), 0) := by rfl
theorem awa3 : allocS aw2 as2 4000 1 = ((aw2, as2), 4) := by rfl
theorem awm : meterL aw2 [(5, as2)] = [2, 0, 0, 0, 8000, 0, 64, 128] := by decide
theorem LInv.hS {B : Nat} {C : Co} {rg : List (Int × Sh)} (h : LInv B C rg) (hB : B ≤ 100000) : ∀ q ∈ rg, ShOk q.2 ∧ q.2.parts.length ≤ 1048576 ∧ q.2.larges.length ≤ 1048576 := fun q hq => by
  have := h.sh q hq
  have h1 := this.lp
  have h2 := this.ll
  exact ⟨this.ok, by omega, by omega⟩
theorem LInv.hB {B : Nat} {C : Co} {rg : List (Int × Sh)} (h : LInv B C rg) (hB : B ≤ 100000) : ∀ q ∈ rg, ShB q.2 := fun q hq => by
  have := h.hS hB q hq
  exact ⟨this.1, this.2.1, this.2.2⟩
theorem ai0 : LInv 0 aw0 [] := inv_new 2
theorem ai1 : LInv 1 aw0 [(5, emptySh)] := inv_begin ai0 rfl
theorem ai2 : LInv 2 aw1 [(5, as1)] := by
  have := inv_alloc (id := 5) (size := 4000) (align := 1) ai1 rfl (by decide) (by decide)
  rw [awa1] at this
  exact this
theorem ai3 : LInv 3 aw2 [(5, as2)] := by
  have := inv_alloc (id := 5) (size := 4000) (align := 1) ai2 rfl (by decide) (by decide)
  rw [awa2] at this
  exact this
attribute [local irreducible] Core Shd Shs Lg
set_option maxHeartbeats 8000000
attribute [local irreducible] X XE XO XD XDi XDa PV RV DV pt base Spec Sl Mp Keeps Pg Kc
theorem begin_new {l : Nat} {C : Co} {rg : List (Int × Sh)} {id : Int} (h : lk rg id = none) : beginV l C rg id = fun v L => v = .bool true ∧ L = [Lg l C (rg ++ [(id, emptySh)])] := by
  unfold beginV; rw [if_neg (by rw [h]; simp)]
theorem begin_old {l : Nat} {C : Co} {rg : List (Int × Sh)} {id : Int} {s : Sh} (h : lk rg id = some s) : beginV l C rg id = fun v L => v = .bool false ∧ L = [Lg l C rg] := by
  unfold beginV; rw [if_pos (by rw [h]; rfl)]
theorem awake_spec : Spec Try.prog 6 [] [] isTrue := by
  refine Spec.intro (IsEnt.out) Try.func6 rfl Try.ntmps6 (by simp) (fun w0 F => ?_)
  simp only [envOf, List.zipIdx, List.map, List.cons_append, List.nil_append, Nat.zero_add, Nat.reduceAdd]
  repeat (first | refine Zp pv_assign ?_ | refine X_seq ?_ | refine X_region ?_ | refine XO_nil ?_ | refine XE_code ?_)
  refine XO_call (lnew_spec 2) (hk := ?_)
  rintro _ _ ⟨l, mb, rfl, rfl⟩
  refine XO_conv (fun _ => Shs.nil) ?_
  refine XO_fold (by repeat (first | exact FindAll.nil | exact Find.here | apply Find.there | apply FindAll.cons)) (Lg.fold (l := l) (mb := mb) (C := aw0) (rg := []) (M := []) rfl) ?_
  repeat (first | refine Zp pv_move ?_ | refine Zp pv_assign ?_ | refine X_seq ?_ | refine X_region ?_ | refine XO_nil ?_ | refine XE_code ?_)
  refine XO_call (begin_spec l aw0 [] 5) (hk := ?_)
  rw [begin_new rfl]
  rintro _ _ ⟨rfl, rfl⟩
  repeat (first | refine Zp pv_move ?_ | refine Zp pv_assign ?_ | refine X_seq ?_ | refine X_region ?_ | refine XO_nil ?_ | refine XE_code ?_)
  refine XO_call (alloc_spec l aw0 [(5, emptySh)] 5 4000 1 ai1.ci.ok (ai1.hS (by decide)) (by decide) (by decide) (by decide) (by decide)) (hk := ?_)
  rw [show lk [((5 : Int), emptySh)] 5 = some emptySh from rfl, allocV_eq awa1]
  rintro _ _ ⟨rfl, rfl⟩
  rw [show ins [((5 : Int), emptySh)] 5 as1 = [(5, as1)] from rfl]
  repeat (first | refine Zp pv_move ?_ | refine Zp pv_assign ?_ | refine X_seq ?_ | refine X_region ?_ | refine XO_nil ?_ | refine XE_code ?_)
  refine XO_call (alloc_spec l aw1 [(5, as1)] 5 4000 1 ai2.ci.ok (ai2.hS (by decide)) (by decide) (by decide) (by decide) (by decide)) (hk := ?_)
  rw [show lk [((5 : Int), as1)] 5 = some as1 from rfl, allocV_eq awa2]
  rintro _ _ ⟨rfl, rfl⟩
  rw [show ins [((5 : Int), as1)] 5 as2 = [(5, as2)] from rfl]
  repeat (first | refine Zp pv_move ?_ | refine Zp pv_assign ?_ | refine X_seq ?_ | refine X_region ?_ | refine XO_nil ?_ | refine XE_code ?_)
  refine XO_call (alloc_spec l aw2 [(5, as2)] 5 4000 1 ai3.ci.ok (ai3.hS (by decide)) (by decide) (by decide) (by decide) (by decide)) (hk := ?_)
  rw [show lk [((5 : Int), as2)] 5 = some as2 from rfl, allocV_eq awa3]
  rintro _ _ ⟨rfl, rfl⟩
  rw [show ins [((5 : Int), as2)] 5 as2 = [(5, as2)] from rfl]
  repeat (first | refine ZT ?_ | refine Zp pv_move ?_ | refine Zp pv_assign ?_ | refine Zp pv_cmp ?_ | refine Zp pv_pickT ?_ | refine X_seq ?_ | refine X_region ?_ | refine XO_nil ?_ | refine XE_code ?_)
  refine XO_call (meter_spec l aw2 [(5, as2)] ai3.ci.ok (ai3.hB (by decide)) (by decide)) (hk := ?_)
  rintro _ _ ⟨rfl, rfl⟩
  repeat (first | refine ZT ?_)
  refine XO_pv (pv_buildG [.int .i64 2, .int .i64 0, .int .i64 0, .int .i64 0, .int .u64 8000, .int .u64 0, .int .u64 64, .int .u64 128]) (hk := ?_)
  repeat (first | refine ZT ?_)
  refine XO_pv (pv_eqRec (meterL aw2 [(5, as2)]) [2, 0, 0, 0, 8000, 0, 64, 128]) (hk := ?_)
  repeat (first | refine Zp pv_assign ?_ | refine Zp pv_pickT ?_ | refine X_ret ?_ | refine XO_nil ?_ | refine XE_code ?_)
  refine XE_ret (.inl rfl) (tells_tmps rfl rfl) ⟨_, ⟨?_, rfl⟩, by ((try simp only [List.cons_append, List.nil_append]); repeat (first | exact ent_refl | refine ent_take (by repeat (first | exact Find.here | apply Find.there)) ?_ | refine ent_drop ?_))⟩
  show Value.bool (decide (meterL aw2 [(5, as2)] = [2, 0, 0, 0, 8000, 0, 64, 128])) = .bool true
  rw [decide_eq_true awm]
end Go.Proofs.Ytlhjiciimeefeaa.Sep
