import Derived.Test.YtlhjiciimeefeaaLedD
namespace Go.Proofs.Ytlhjiciimeefeaa.Sep
open Go.RowKit
set_option linter.unusedSimpArgs false
set_option linter.unusedVariables false
/-- A field of a struct that is at hand, of one cell. -/
theorem pv_fieldV {P : Program} {T ft fo bo f : Nat} {ty : TypeId} {e : Env} {x : Operand} {fl : List Field} {vs : List Value} {v : Value} {nm tag pkg : String} {emb : Bool} {dd : TypeDesc} [hu : TU P T (.struct fl.toArray)] (hfd : fl[f]? = some ⟨nm, ft, fo, emb, tag, pkg, bo⟩ := by rfl) (hft : TU P ft dd := by infer_instance) (hg : aggD dd = false := by rfl)
    (hx : ev e x = some (.agg vs.toArray) := by rfl) (hv : vs[fo]? = some v := by rfl) : PV P (.field T x f) ty e v := fun tm w pos aft h => by
  have h2 : (underlying T).run P w = .ok (.struct fl.toArray) w := run_und hu.out
  have h5 : fl.toArray[f]? = some ⟨nm, ft, fo, emb, tag, pkg, bo⟩ := by simpa using hfd
  have h6 : vs.toArray[fo]? = some v := by simpa using hv
  simp [execOp, Instr.field, ev_sound h hx, h2, h5, asAgg, part, run_isAgg hft.out, hg, hv]
attribute [local irreducible] Core Shd
set_option maxHeartbeats 8000000
attribute [local irreducible] X XE XO XD XDi XDa PV RV DV pt base Spec Sl Mp Keeps Pg Kc

def fitsS (s : Sh) (mc ml at_ : Int) : Bool :=
  if mc < 0 ∨ (s.parts.length : Int) < mc ∨ ml < 0 ∨ (s.larges.length : Int) < ml then false
  else if mc = 0 then at_ == 0
  else decide ((ofI (s.parts.getD (mc.toNat - 1) (0, 0, 0, 0)).1 (s.parts.getD (mc.toNat - 1) (0, 0, 0, 0)).2.1).1 ≤ at_) && decide (at_ ≤ (s.parts.getD (mc.toNat - 1) (0, 0, 0, 0)).2.2.1)
theorem fits_spec (b : Nat) (s : Sh) (mc ml at_ ob pd : Int) (hl : s.parts.length ≤ 4611686018427387904) : Spec Try.prog 31 [.pointer (some ⟨b, 0, none⟩), .agg #[.int .i64 mc, .int .i64 ml, .int .u64 at_, .int .u64 ob, .int .u64 pd]] [Shd b s] (fun v L => v = .bool (fitsS s mc ml at_) ∧ L = [Shd b s]) := by
  refine Spec.intro (IsEnt.out) Try.func31 rfl Try.ntmps31 (by simp) (fun w0 F => ?_)
  simp only [envOf, List.zipIdx, List.map, List.cons_append, List.nil_append, Nat.zero_add, Nat.reduceAdd]
  refine X_open .here Shd.open ?_
  rintro ⟨a, c, a', c'⟩ -
  dsimp only [List.cons_append, List.nil_append]
  repeat (first | refine X_seq ?_ | refine X_region ?_)
  refine XO_dv dv_box (hk := ?_)
  rintro _ _ ⟨b3, rfl, rfl⟩
  repeat (first | refine Zp pv_assign ?_ | refine X_seq ?_ | refine XO_nil ?_ | refine XE_code ?_)
  repeat (first | refine Dp pv_move ?_ | refine Dp pv_field ?_ | refine Dp pv_cmp ?_ | refine Dr rv_load ?_ | refine XD_pick (h := ?_) | refine X_draws (h := ?_))
  by_cases hbad : mc < 0 ∨ (s.parts.length : Int) < mc ∨ ml < 0 ∨ (s.larges.length : Int) < ml
  · have hF : fitsS s mc ml at_ = false := by unfold fitsS; rw [if_pos hbad]
    rw [hF]
    refine XDi_either (hT := fun h => ?_) (hF := fun h => ?_) <;> simp only [decide_eq_true_eq, decide_eq_false_iff_not] at h
    · repeat (first | refine Dp pv_move ?_ | refine Dp pv_pickT ?_ | refine XDi_gF (h := ?_) | refine XD_pick (h := ?_))
      (refine XD_end (h := ?_); repeat (first | refine XE_code ?_))
      refine X_cond rfl (fun _ => ?_) (fun h => by cases h)
      repeat (first | refine Zp pv_assign ?_ | refine X_seq ?_ | refine X_region ?_ | refine X_ret ?_ | refine XO_nil ?_ | refine XE_code ?_ | refine XE_code_ret ?_)
      refine XE_fold (by repeat (first | exact FindAll.nil | exact Find.here | apply Find.there | apply FindAll.cons)) (Shd.fold (s := s)) ?_
      refine XE_ret (.inl rfl) (tells_tmps rfl rfl) ⟨_, ⟨rfl, rfl⟩, by ((try simp only [List.cons_append, List.nil_append]); repeat (first | exact ent_refl | refine ent_take (by repeat (first | exact Find.here | apply Find.there)) ?_ | refine ent_drop ?_))⟩
    repeat (first | refine Dp pv_move ?_ | refine Dp pv_nil_ptr ?_ | refine Dp pv_field ?_ | refine Dp pv_cmp ?_ | refine Dp pv_len_slice ?_ | refine Dp pv_pickF ?_ | refine Dr rv_load ?_ | refine XD_pick (h := ?_))
    refine XDi_either (hT := fun h => ?_) (hF := fun h => ?_) <;> simp only [decide_eq_true_eq, decide_eq_false_iff_not] at h
    · repeat (first | refine Dp pv_move ?_ | refine Dp pv_pickT ?_ | refine XDi_gF (h := ?_) | refine XD_pick (h := ?_))
      (refine XD_end (h := ?_); repeat (first | refine XE_code ?_))
      refine X_cond rfl (fun _ => ?_) (fun h => by cases h)
      repeat (first | refine Zp pv_assign ?_ | refine X_seq ?_ | refine X_region ?_ | refine X_ret ?_ | refine XO_nil ?_ | refine XE_code ?_ | refine XE_code_ret ?_)
      refine XE_fold (by repeat (first | exact FindAll.nil | exact Find.here | apply Find.there | apply FindAll.cons)) (Shd.fold (s := s)) ?_
      refine XE_ret (.inl rfl) (tells_tmps rfl rfl) ⟨_, ⟨rfl, rfl⟩, by ((try simp only [List.cons_append, List.nil_append]); repeat (first | exact ent_refl | refine ent_take (by repeat (first | exact Find.here | apply Find.there)) ?_ | refine ent_drop ?_))⟩
    repeat (first | refine Dp pv_move ?_ | refine Dp pv_field ?_ | refine Dp pv_cmp ?_ | refine Dp pv_pickF ?_ | refine Dr rv_load ?_ | refine XD_pick (h := ?_))
    refine XDi_either (hT := fun h => ?_) (hF := fun h => ?_) <;> simp only [decide_eq_true_eq, decide_eq_false_iff_not] at h
    · repeat (first | refine Dp pv_pickT ?_ | refine XDi_gF (h := ?_) | refine XD_pick (h := ?_))
      (refine XD_end (h := ?_); repeat (first | refine XE_code ?_))
      refine X_cond rfl (fun _ => ?_) (fun h => by cases h)
      repeat (first | refine Zp pv_assign ?_ | refine X_seq ?_ | refine X_region ?_ | refine X_ret ?_ | refine XO_nil ?_ | refine XE_code ?_ | refine XE_code_ret ?_)
      refine XE_fold (by repeat (first | exact FindAll.nil | exact Find.here | apply Find.there | apply FindAll.cons)) (Shd.fold (s := s)) ?_
      refine XE_ret (.inl rfl) (tells_tmps rfl rfl) ⟨_, ⟨rfl, rfl⟩, by ((try simp only [List.cons_append, List.nil_append]); repeat (first | exact ent_refl | refine ent_take (by repeat (first | exact Find.here | apply Find.there)) ?_ | refine ent_drop ?_))⟩
    repeat (first | refine Dp pv_move ?_ | refine Dp pv_nil_ptr ?_ | refine Dp pv_field ?_ | refine Dp pv_cmp ?_ | refine Dp pv_len_slice ?_ | refine Dp pv_pickF ?_ | refine Dr rv_load ?_ | refine XD_pick (h := ?_))
    (refine XD_end (h := ?_); repeat (first | refine XE_code ?_))
    refine X_cond rfl (fun _ => ?_) (fun h => ?_)
    · repeat (first | refine Zp pv_assign ?_ | refine X_seq ?_ | refine X_region ?_ | refine X_ret ?_ | refine XO_nil ?_ | refine XE_code ?_ | refine XE_code_ret ?_)
      refine XE_fold (by repeat (first | exact FindAll.nil | exact Find.here | apply Find.there | apply FindAll.cons)) (Shd.fold (s := s)) ?_
      refine XE_ret (.inl rfl) (tells_tmps rfl rfl) ⟨_, ⟨rfl, rfl⟩, by ((try simp only [List.cons_append, List.nil_append]); repeat (first | exact ent_refl | refine ent_take (by repeat (first | exact Find.here | apply Find.there)) ?_ | refine ent_drop ?_))⟩
    · exfalso
      have := of_decide_eq_false h
      omega
  refine XDi_known false (hb := decide_eq_false (by omega)) (hT := ?_)
  repeat (first | refine Dp pv_move ?_ | refine Dp pv_nil_ptr ?_ | refine Dp pv_field ?_ | refine Dp pv_cmp ?_ | refine Dp pv_len_slice ?_ | refine Dp pv_pickF ?_ | refine Dr rv_load ?_ | refine XD_pick (h := ?_))
  refine XDi_known false (hb := decide_eq_false (by omega)) (hT := ?_)
  repeat (first | refine Dp pv_move ?_ | refine Dp pv_field ?_ | refine Dp pv_cmp ?_ | refine Dp pv_pickF ?_ | refine Dr rv_load ?_ | refine XD_pick (h := ?_))
  refine XDi_known false (hb := decide_eq_false (by omega)) (hT := ?_)
  repeat (first | refine Dp pv_move ?_ | refine Dp pv_nil_ptr ?_ | refine Dp pv_field ?_ | refine Dp pv_cmp ?_ | refine Dp pv_len_slice ?_ | refine Dp pv_pickF ?_ | refine Dr rv_load ?_ | refine XD_pick (h := ?_))
  (refine XD_end (h := ?_); repeat (first | refine XE_code ?_))
  refine X_cond rfl (fun h => ?_) (fun _ => ?_)
  · exfalso
    have := of_decide_eq_true h
    omega
  repeat (first | refine Zp pv_cmp ?_ | refine Zp pv_field ?_ | refine Zr rv_load ?_ | refine X_seq ?_ | refine X_region ?_ | refine X_skip ?_ | refine XO_nil ?_ | refine XE_code ?_)
  refine X_cond rfl (fun h => ?_) (fun h => ?_)
  · have h0 : mc = 0 := by simpa using h
    have hF : fitsS s mc ml at_ = (at_ == 0) := by unfold fitsS; rw [if_neg hbad, if_pos h0]
    rw [hF]
    repeat (first | refine Zp pv_assign ?_ | refine Zp pv_cmp ?_ | refine Zp pv_field ?_ | refine Zr rv_load ?_ | refine X_seq ?_ | refine X_region ?_ | refine X_ret ?_ | refine XO_nil ?_ | refine XE_code ?_ | refine XE_code_ret ?_)
    refine XE_fold (by repeat (first | exact FindAll.nil | exact Find.here | apply Find.there | apply FindAll.cons)) (Shd.fold (s := s)) ?_
    refine XE_ret (.inl rfl) (tells_tmps rfl rfl) ⟨_, ⟨rfl, rfl⟩, by ((try simp only [List.cons_append, List.nil_append]); repeat (first | exact ent_refl | refine ent_take (by repeat (first | exact Find.here | apply Find.there)) ?_ | refine ent_drop ?_))⟩
  · have h0 : ¬ mc = 0 := by simpa using h
    have hi : mc.toNat - 1 < s.parts.length := by omega
    have hto : (mc - 1).toNat = mc.toNat - 1 := by omega
    refine X_slopen (E' := ePart) (a := a) (c := c) (xs := s.parts) (by (repeat (first | exact Find.here | apply Find.there))) (by omega) ?_
    rintro qb o rfl
    have hg : s.parts.getD (mc.toNat - 1) (0, 0, 0, 0) = s.parts[mc.toNat - 1] := by simp [List.getD, hi]
    have hF : fitsS s mc ml at_ = (decide ((ofI s.parts[mc.toNat - 1].1 s.parts[mc.toNat - 1].2.1).1 ≤ at_) && decide (at_ ≤ s.parts[mc.toNat - 1].2.2.1)) := by unfold fitsS; rw [if_neg hbad, if_neg h0, hg]
    rw [hF]
    have hgo : s.parts[mc.toNat - 1]? = some s.parts[mc.toNat - 1] := List.getElem?_eq_getElem hi
    generalize s.parts[mc.toNat - 1]'hi = p at hg hF hgo ⊢
    repeat (first | refine X_seq ?_ | refine X_skip ?_ | refine XE_code ?_)
    repeat (first | refine Dp pv_move ?_ | refine Dp pv_nil_ptr ?_ | refine Dp pv_field ?_ | refine Dp pv_arith ?_ | refine Dp pv_index ?_ | refine Dr rv_load ?_ | refine XD_pick (h := ?_) | refine X_draws (h := ?_))
    simp only [hto]
    refine XDi_rvA (rv_elG (E' := ePart) (i := mc.toNat - 1) (x' := p) (hget := hgo)) (h := ?_)
    repeat (fail)
    refine XD_one (h := ?_)
    refine XDa_dvA dv_alloc (hk := ?_)
    rintro _ _ ⟨b5, rfl, rfl⟩
    refine ⟨by repeat (first | exact keeps_fnil | refine keeps_skip (h := ?_) | refine keeps_takeA (hv := by first | exact rv_load | exact rv_loadW | exact rv_elG (E' := ePart) (i := mc.toNat - 1) (x' := p) (hget := hgo)) (h := ?_)), ?_⟩
    repeat (fail)
    refine XD_one (h := ?_)
    refine XDa_dvk0 dv_storeW (K := _) (hk := ?_)
    rintro _ _ rfl
    refine ⟨by repeat (first | exact keeps_fnil | refine keeps_skip (h := ?_) | refine keeps_takeA (hv := by first | exact rv_load | exact rv_loadW | exact rv_elG (E' := ePart) (i := mc.toNat - 1) (x' := p) (hget := hgo)) (h := ?_)), ?_⟩
    (refine XD_end (h := ?_); repeat (first | refine X_seq ?_ | refine XE_code ?_))
    repeat (first | refine Dp pv_field ?_ | refine Dr rv_load ?_ | refine XD_pick (h := ?_) | refine X_draws (h := ?_))
    refine XD_one (h := ?_)
    refine XDa_dvA (dv_call (bof_spec p.1 p.2.1)) (hk := ?_)
    (rintro _ _ ⟨_, ⟨rfl, rfl⟩, rfl⟩; refine ⟨by (repeat (first | exact keeps_nil | exact keeps_fnil | refine keeps_skip (h := ?_) | refine keeps_takeA (hv := by first | exact rv_load | exact rv_loadW | exact rv_loadS) (h := ?_))), ?_⟩)
    repeat (first | refine XD_pick (h := ?_))
    refine XDi_pvA pv_fieldV (h := ?_)
    repeat (first | refine Dp pv_move ?_ | refine Dp pv_cmp ?_ | refine XD_pick (h := ?_))
    refine XDi_either (hT := fun h2 => ?_) (hF := fun h2 => ?_) <;> simp only [decide_eq_true_eq, decide_eq_false_iff_not] at h2
    · rw [decide_eq_true h2, Bool.true_and]
      repeat (first | refine Dp pv_field ?_ | refine Dp pv_cmp ?_ | refine Dp pv_pickT ?_ | refine Dr rv_load ?_ | refine XD_pick (h := ?_))
      (refine XD_one (h := ?_); refine XDa_dvA (dv_of_rv (rv_of_pv pv_assign)) (hk := ?_); rintro _ _ ⟨rfl, rfl⟩; refine ⟨by (repeat (first | exact keeps_nil | exact keeps_fnil | refine keeps_skip (h := ?_) | refine keeps_takeA (hv := by first | exact rv_load | exact rv_loadW | exact rv_loadS) (h := ?_))), ?_⟩)
      (refine XD_end (h := ?_); repeat (first | refine X_ret ?_ | refine XE_code ?_))
      refine XE_fold (by repeat (first | exact FindAll.nil | exact Find.here | apply Find.there | apply FindAll.cons)) (Shd.fold (s := s)) ?_
      refine XE_ret (.inl rfl) (tells_tmps rfl rfl) ⟨_, ⟨rfl, rfl⟩, by ((try simp only [List.cons_append, List.nil_append]); repeat (first | exact ent_refl | refine ent_take (by repeat (first | exact Find.here | apply Find.there)) ?_ | refine ent_drop ?_))⟩
    · rw [decide_eq_false h2, Bool.false_and]
      repeat (first | refine Dp pv_pickF ?_ | refine XDi_gF (h := ?_) | refine XD_pick (h := ?_))
      (refine XD_one (h := ?_); refine XDa_dvA (dv_of_rv (rv_of_pv pv_assign)) (hk := ?_); rintro _ _ ⟨rfl, rfl⟩; refine ⟨by (repeat (first | exact keeps_nil | exact keeps_fnil | refine keeps_skip (h := ?_) | refine keeps_takeA (hv := by first | exact rv_load | exact rv_loadW | exact rv_loadS) (h := ?_))), ?_⟩)
      (refine XD_end (h := ?_); repeat (first | refine X_ret ?_ | refine XE_code ?_))
      refine XE_fold (by repeat (first | exact FindAll.nil | exact Find.here | apply Find.there | apply FindAll.cons)) (Shd.fold (s := s)) ?_
      refine XE_ret (.inl rfl) (tells_tmps rfl rfl) ⟨_, ⟨rfl, rfl⟩, by ((try simp only [List.cons_append, List.nil_append]); repeat (first | exact ent_refl | refine ent_take (by repeat (first | exact Find.here | apply Find.there)) ?_ | refine ent_drop ?_))⟩
end Go.Proofs.Ytlhjiciimeefeaa.Sep
