import Derived.Test.YtlhjiciimeefeaaLedI
namespace Go.Proofs.Ytlhjiciimeefeaa.Sep
open Go.RowKit
set_option linter.unusedSimpArgs false
set_option linter.unusedVariables false
theorem del_ins {κ α : Type} [DecidableEq κ] {l : List (κ × α)} {k : κ} {v v' : α} (h : lk l k = some v) : del (ins l k v') k = del l k := by
  obtain ⟨l1, l2, rfl, h1⟩ := lk_split h
  rw [ins_split h1, del_split h1, del_split h1]
theorem fits_zero (s : Sh) : fitsS s 0 0 0 = true := by
  unfold fitsS
  rw [if_neg (by omega), if_pos rfl]; rfl
theorem rew_zero (C : Co) (s : Sh) : rewS C s 0 0 0 0 0 = some (putsC C s 0 0, emptySh) := by
  unfold rewS
  rw [if_pos (fits_zero s), if_pos rfl]
def endV (l : Nat) (C : Co) (rg : List (Int × Sh)) (id : Int) : Option Sh → Value → List HP → Prop
  | none => fun v L => v = .bool false ∧ L = [Lg l C rg]
  | some s => fun v L => v = .bool true ∧ L = [Lg l (putsC C s 0 0) (del rg id)]
attribute [local irreducible] Core Shd Shs Lg
set_option maxHeartbeats 8000000
attribute [local irreducible] X XE XO XD XDi XDa PV RV DV pt base Spec Sl Mp Keeps Pg Kc
theorem end_spec' (l : Nat) (C : Co) (rg : List (Int × Sh)) (id : Int) (hC : CoOk C) (hS : ∀ q ∈ rg, ShOk q.2 ∧ q.2.parts.length ≤ 1048576 ∧ q.2.larges.length ≤ 1048576) :
    Spec Try.prog 10 [.pointer (some ⟨l, 0, none⟩), .int .u64 id] [Lg l C rg] (endV l C rg id (lk rg id)) := by
  refine Spec.intro (IsEnt.out) Try.func10 rfl Try.ntmps10 (by simp) (fun w0 F => ?_)
  simp only [envOf, List.zipIdx, List.map, List.cons_append, List.nil_append, Nat.zero_add, Nat.reduceAdd]
  repeat (first | refine Zp pv_move ?_ | refine Zp pv_assign ?_ | refine Zp pv_build0 ?_ | refine X_seq ?_ | refine X_region ?_ | refine XO_nil ?_ | refine XE_code ?_)
  refine XO_call (rewind_spec l C rg id 0 0 0 0 0 hC hS (by decide) (by decide) (by decide) (by decide)) (hk := ?_)
  intro v L' hpost
  cases hk : lk rg id with
  | none =>
    rw [hk] at hpost
    obtain ⟨rfl, rfl⟩ := hpost
    repeat (first | refine Zp pv_cmp ?_ | refine XO_nil ?_ | refine XE_code ?_)
    refine X_cond rfl (fun _ => ?_) (fun h => by cases h)
    repeat (first | refine Zp pv_assign ?_ | refine X_seq ?_ | refine X_region ?_ | refine X_ret ?_ | refine XO_nil ?_ | refine XE_code ?_ | refine XE_code_ret ?_)
    refine XE_ret (.inl rfl) (tells_tmps rfl rfl) ⟨_, ⟨rfl, rfl⟩, by ((try simp only [List.cons_append, List.nil_append]); repeat (first | exact ent_refl | refine ent_take (by repeat (first | exact Find.here | apply Find.there)) ?_ | refine ent_drop ?_))⟩
  | some s =>
    rw [hk, rewV_some (rew_zero C s)] at hpost
    obtain ⟨rfl, rfl⟩ := hpost
    repeat (first | refine Zp pv_cmp ?_ | refine XO_nil ?_ | refine XE_code ?_)
    refine X_cond rfl (fun h => by cases h) (fun _ => ?_)
    refine X_open (A := Lg l (putsC C s 0 0) (ins rg id emptySh)) (by (repeat (first | exact Find.here | apply Find.there))) Lg.open ?_
    rintro ⟨mb, M⟩ hM
    dsimp only [List.cons_append, List.nil_append] at hM ⊢
    have hlk : lk (rgs M) id = some emptySh := by rw [hM, lk_ins, if_pos rfl]
    obtain ⟨q, hq⟩ : ∃ q, lk M id = some q := by
      rw [lk_rgs] at hlk
      cases h : lk M id with
      | none => rw [h] at hlk; cases hlk
      | some q => exact ⟨q, rfl⟩
    obtain ⟨M1, M2, rfl, hn1⟩ := lk_split hq
    obtain ⟨b, s2⟩ := q
    refine X_open (A := Core l mb (putsC C s 0 0)) (by (repeat (first | exact Find.here | apply Find.there))) Core.open ?_
    rintro ⟨pb, kb, t⟩ -
    dsimp only [List.cons_append, List.nil_append]
    refine X_open (A := Shs (M1 ++ (id, b, s2) :: M2)) (by (repeat (first | exact Find.here | apply Find.there))) Shs.out ?_
    rintro ⟨⟩ -
    dsimp only [List.cons_append, List.nil_append]
    repeat (first | refine Zp pv_move ?_ | refine Zp pv_nil_ptr ?_ | refine Zp pv_field ?_ | refine Zr rv_load ?_ | refine X_seq ?_ | refine X_region ?_ | refine X_skip ?_ | refine XE_code ?_)
    refine XO_dv0 (dv_delete (ke := idE) (ve := ptV) (l := blk (M1 ++ (id, b, s2) :: M2)) (kk := id)) (hk := ?_)
    rintro _ _ rfl
    have hd : del (blk (M1 ++ (id, b, s2) :: M2)) id = blk (M1 ++ M2) := by
      have : blk (M1 ++ (id, b, s2) :: M2) = blk M1 ++ (id, some b) :: blk M2 := by simp [blk]
      rw [this, del_split (by rw [lk_blk, hn1]; rfl)]
      simp [blk]
    have hd2 : rgs (M1 ++ M2) = del rg id := by
      rw [← del_ins hk (v' := emptySh), ← hM]
      have : rgs (M1 ++ (id, b, s2) :: M2) = rgs M1 ++ (id, s2) :: rgs M2 := by simp [rgs]
      rw [this, del_split (by rw [lk_rgs, hn1]; rfl)]
      simp [rgs]
    rw [hd]
    repeat (first | refine Zp pv_assign ?_ | refine X_seq ?_ | refine X_region ?_ | refine X_ret ?_ | refine XO_nil ?_ | refine XE_code ?_)
    refine XE_fold (by repeat (first | exact FindAll.nil | exact Find.here | apply Find.there | apply FindAll.cons)) (Core.fold (C := putsC C s 0 0)) ?_
    refine XE_fold (by repeat (first | exact FindAll.nil | exact Find.here | apply Find.there | apply FindAll.cons)) (Lg.fold hd2) ?_
    refine XE_ret (.inl rfl) (tells_tmps rfl rfl) ⟨_, ⟨rfl, rfl⟩, by ((try simp only [List.cons_append, List.nil_append]); repeat (first | exact ent_refl | refine ent_take (by repeat (first | exact Find.here | apply Find.there)) ?_ | refine ent_drop ?_))⟩
end Go.Proofs.Ytlhjiciimeefeaa.Sep
