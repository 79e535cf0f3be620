import Derived.Test.YtlhjiciimeefeaaLedG
namespace Go.Proofs.Ytlhjiciimeefeaa.Sep
open Go.RowKit
set_option linter.unusedSimpArgs false
set_option linter.unusedVariables false
theorem ins_same {κ α : Type} [DecidableEq κ] {l : List (κ × α)} {k : κ} {v : α} (h : lk l k = some v) : ins l k v = l := by
  obtain ⟨l1, l2, rfl, h1⟩ := lk_split h
  exact ins_split h1
attribute [local irreducible] Core Lg
set_option maxHeartbeats 8000000
attribute [local irreducible] X XE XO XD XDi XDa PV RV DV pt base Spec Sl Mp Keeps Pg Kc
def topW (b : Nat) (s : Sh) (a a' : Option Addr) (c c' : Nat) : Value → List HP → Prop := fun v L => ∃ (cb o : Nat) (A : Int → HP) (G : HP), v = .pointer (some ⟨cb, o, none⟩) ∧ Cur Try.prog cb o (topEnd s) A ∧
  (∀ at_ obj pad H, SL [pt b (.cells [.slice a s.parts.length c, .slice a' s.larges.length c', .int .u64 obj, .int .u64 pad].toArray 58 (0, 0)), A at_, Sl eRun a' c' s.larges, G] H → Shd b (setTop s at_ obj pad) H) ∧
  L = [pt b (.cells [.slice a s.parts.length c, .slice a' s.larges.length c', .int .u64 s.obj, .int .u64 s.pad].toArray 58 (0, 0)), A (topAt s), Sl eRun a' c' s.larges, G]
theorem top_raw (b : Nat) (s : Sh) (a a' : Option Addr) (c c' : Nat) (hl : s.parts.length ≤ 4611686018427387904) : Spec Try.prog 20 [.pointer (some ⟨b, 0, none⟩)] [pt b (.cells [.slice a s.parts.length c, .slice a' s.larges.length c', .int .u64 s.obj, .int .u64 s.pad].toArray 58 (0, 0)), Sl ePart a c s.parts, Sl eRun a' c' s.larges] (topW b s a a' c c') := by
  refine Spec.intro (IsEnt.out) Try.func20 rfl Try.ntmps20 (by simp) (fun w0 F => ?_)
  simp only [envOf, List.zipIdx, List.map, List.cons_append, List.nil_append, Nat.zero_add, Nat.reduceAdd]
  unfold topW
  repeat (first | refine Zp pv_move ?_ | refine Zp pv_assign ?_ | refine Zp pv_nil_ptr ?_ | refine Zp pv_cmp ?_ | refine Zp pv_field ?_ | refine Zr rv_load ?_ | refine Zp pv_len_slice ?_ | refine X_seq ?_ | refine X_region ?_ | refine XO_nil ?_ | refine XE_code ?_)
  refine X_cond rfl (fun h => ?_) (fun h => ?_)
  · have h0 : s.parts = [] := by
      have : ((s.parts.length : Int) == 0) = true := h
      exact List.length_eq_zero_iff.1 (by simpa using this)
    repeat (first | refine Zp pv_build0 ?_ | refine X_seq ?_ | refine X_region ?_)
    refine XO_dv dv_box (hk := ?_)
    rintro _ _ ⟨cb, rfl, rfl⟩
    repeat (first | refine Zp pv_assign ?_ | refine X_ret ?_ | refine XO_nil ?_ | refine XE_code ?_ | refine XE_code_ret ?_)
    refine XE_ret (.inl rfl) (tells_tmps rfl rfl) ⟨_, ⟨cb, 0, fun x => pt cb (.cells [.int .u64 x, .int .u64 0].toArray 71 (0, 0)), Sl ePart a c s.parts, rfl, ?_, ?_, rfl⟩, ?_⟩
    · have he : topEnd s = 0 := by unfold topEnd; rw [h0]; rfl
      rw [he]
      exact Cur.cell cb 0
    · intro at_ obj pad H hs
      have hst : setTop s at_ obj pad = ⟨s.parts, s.larges, obj, pad⟩ := by unfold setTop; rw [h0]; rfl
      rw [hst]
      refine Shd.fold (s := ⟨s.parts, s.larges, obj, pad⟩) (a := a) (c := c) (a' := a') (c' := c') H ?_
      revert H
      intro H hs
      refine (show ∀ H, SL _ H → SL _ H from ?_) H hs
      ((try simp only [List.cons_append, List.nil_append]); repeat (first | exact ent_refl | refine ent_take (by repeat (first | exact Find.here | apply Find.there)) ?_ | refine ent_drop ?_))
    · have ht : topAt s = 0 := by unfold topAt; rw [h0]; rfl
      rw [ht]
      ((try simp only [List.cons_append, List.nil_append]); repeat (first | exact ent_refl | refine ent_take (by repeat (first | exact Find.here | apply Find.there)) ?_ | refine ent_drop ?_))
  · have h0 : 0 < s.parts.length := by
      have : ((s.parts.length : Int) == 0) = false := h
      have : ¬ (s.parts.length : Int) = 0 := by simpa using this
      omega
    refine X_slopen (E' := ePart) (a := a) (c := c) (xs := s.parts) (by (repeat (first | exact Find.here | apply Find.there))) h0 ?_
    rintro qb o rfl
    repeat (first | refine X_seq ?_ | refine X_skip ?_ | refine XE_code ?_)
    repeat (first | refine Dp pv_move ?_ | refine Dp pv_nil_ptr ?_ | refine Dp pv_field ?_ | refine Dp pv_arith ?_ | refine Dp pv_index ?_ | refine Dp pv_len_slice ?_ | refine Dr rv_load ?_ | refine XD_pick (h := ?_) | refine X_draws (h := ?_))
    (refine XD_one (h := ?_); refine XDa_dvA (dv_of_rv (rv_of_pv pv_assign)) (hk := ?_); rintro _ _ ⟨rfl, rfl⟩; refine ⟨by (repeat (first | exact keeps_nil | exact keeps_fnil | refine keeps_skip (h := ?_) | refine keeps_takeA (hv := by first | exact rv_load | exact rv_loadW | exact rv_loadS) (h := ?_))), ?_⟩)
    (refine XD_end (h := ?_); repeat (first | refine X_ret ?_ | refine XE_code ?_))
    have hto : ((s.parts.length : Int) - 1).toNat = s.parts.length - 1 := by omega
    have hself : setLast s.parts (topAt s) = s.parts := setLast_self _
    simp only [hto]
    refine XE_conv (fun _ => SL_true) ?_
    refine XE_ret (.inl rfl) (tells_tmps rfl rfl) ⟨_, ⟨qb, o + (s.parts.length - 1) * 4 + 2, fun x => Sl ePart (some ⟨qb, o, none⟩) c (setLast s.parts x), pur True, rfl, Cur.part qb o c s.parts h0, ?_, rfl⟩, ?_⟩
    · intro at_ obj pad H hs
      unfold setTop
      refine Shd.fold (s := ⟨setLast s.parts at_, s.larges, obj, pad⟩) (a := some ⟨qb, o, none⟩) (c := c) (a' := a') (c' := c') H ?_
      dsimp only
      rw [setLast_length]
      refine (show ∀ H, SL _ H → SL _ H from ?_) H hs
      ((try simp only [List.cons_append, List.nil_append]); repeat (first | exact ent_refl | refine ent_take (by repeat (first | exact Find.here | apply Find.there)) ?_ | refine ent_drop ?_))
    · dsimp only
      rw [hself]
      ((try simp only [List.cons_append, List.nil_append]); repeat (first | exact ent_refl | refine ent_take (by repeat (first | exact Find.here | apply Find.there)) ?_ | refine ent_drop ?_))
end Go.Proofs.Ytlhjiciimeefeaa.Sep
