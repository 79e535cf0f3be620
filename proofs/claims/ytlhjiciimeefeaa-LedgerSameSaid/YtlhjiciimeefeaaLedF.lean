import Derived.Test.YtlhjiciimeefeaaLedD
namespace Go.Proofs.Ytlhjiciimeefeaa.Sep
open Go.RowKit
set_option linter.unusedSimpArgs false
set_option linter.unusedVariables false
/-! regions by their numbers -/
section
variable {κ α β : Type} [DecidableEq κ]
theorem lk_map (f : α → β) (k : κ) : ∀ l : List (κ × α), lk (l.map fun q => (q.1, f q.2)) k = (lk l k).map f
  | [] => rfl
  | (k', v) :: l => by
    have ih := lk_map f k l
    simp only [List.map_cons, lk]
    split
    · rfl
    · exact ih
theorem lk_split {k : κ} {v : α} : ∀ {l : List (κ × α)}, lk l k = some v → ∃ l1 l2, l = l1 ++ (k, v) :: l2 ∧ lk l1 k = none
  | [], h => by cases h
  | (k', v') :: l, h => by
    simp only [lk] at h
    split at h
    · rename_i he
      cases h
      exact ⟨[], l, by rw [he]; rfl, rfl⟩
    · rename_i he
      obtain ⟨l1, l2, rfl, h1⟩ := lk_split h
      exact ⟨(k', v') :: l1, l2, rfl, by simp only [lk]; rw [if_neg he]; exact h1⟩
theorem ins_split {k : κ} {v v' : α} : ∀ {l1 l2 : List (κ × α)}, lk l1 k = none → ins (l1 ++ (k, v) :: l2) k v' = l1 ++ (k, v') :: l2
  | [], l2, _ => by simp [ins]
  | (k', u) :: l1, l2, h => by
    simp only [lk] at h
    split at h
    · cases h
    · rename_i he
      simp only [List.cons_append, ins, if_neg he, ins_split h]
theorem del_split {k : κ} {v : α} : ∀ {l1 l2 : List (κ × α)}, lk l1 k = none → del (l1 ++ (k, v) :: l2) k = l1 ++ l2
  | [], l2, _ => by simp [del]
  | (k', u) :: l1, l2, h => by
    simp only [lk] at h
    split at h
    · cases h
    · rename_i he
      simp only [List.cons_append, del, if_neg he, del_split h]
theorem ins_new {k : κ} {v : α} : ∀ {l : List (κ × α)}, lk l k = none → ins l k v = l ++ [(k, v)]
  | [], _ => rfl
  | (k', u) :: l, h => by
    simp only [lk] at h
    split at h
    · cases h
    · rename_i he
      simp only [List.cons_append, ins, if_neg he, ins_new h]
end
/-- Assertions, as one. -/
def SLA (L : List HP) : HP := fun H => SL L H
theorem SL_pack {A : HP} {L : List HP} : ∀ H, SL (A :: L) H → SL [A, SLA L] H := fun H ⟨H1, H2, d, u, hA, hL⟩ => ⟨H1, H2, d, u, hA, H2, fun _ => none, fun _ => .inr rfl, fun _ => by simp, hL, trivial⟩
theorem SL_unpack {A : HP} {L : List HP} : ∀ H, SL [A, SLA L] H → SL (A :: L) H := fun H ⟨H1, H2, d, u, hA, H3, H4, d', u', hL, _⟩ => ⟨H1, H2, d, u, hA, SL.weaken (fun b o hb => by rw [u' b, hb]; rfl) hL⟩
def shOf (q : Int × Nat × Sh) : HP := Shd q.2.1 q.2.2
/-- The shadows of some regions. -/
def Shs (M : List (Int × Nat × Sh)) : HP := SLA (M.map shOf)
theorem find_mid (q : Int × Nat × Sh) : ∀ (M1 M2 : List (Int × Nat × Sh)), Find ((M1 ++ q :: M2).map shOf) (shOf q) ((M1 ++ M2).map shOf)
  | [], M2 => .here
  | _ :: M1, M2 => .there (find_mid q M1 M2)
theorem Shs.out {id : Int} {b : Nat} {s : Sh} {M1 M2 : List (Int × Nat × Sh)} : ∀ H, Shs (M1 ++ (id, b, s) :: M2) H → ∃ x : Unit, True ∧ SL [Shd b s, Shs (M1 ++ M2)] H := fun H h => ⟨(), trivial, SL_pack H ((find_mid (id, b, s) M1 M2).fwd h)⟩
theorem Shs.back {id : Int} {b : Nat} {s : Sh} {M1 M2 : List (Int × Nat × Sh)} : ∀ H, SL [Shd b s, Shs (M1 ++ M2)] H → Shs (M1 ++ (id, b, s) :: M2) H := fun H h => (find_mid (id, b, s) M1 M2).bwd (SL_unpack H h)
theorem Shs.add {id : Int} {b : Nat} {s : Sh} {M : List (Int × Nat × Sh)} : ∀ H, SL [Shd b s, Shs M] H → Shs (M ++ [(id, b, s)]) H := fun H h => by
  have := Shs.back (id := id) (b := b) (s := s) (M1 := M) (M2 := []) H
  rw [List.append_nil] at this
  exact this h
theorem Shs.nil {L : List HP} {H : PH} (h : SL L H) : SL (Shs [] :: L) H := ⟨fun _ => none, H, fun _ => .inl rfl, fun _ => by simp, trivial, h⟩
def blk (M : List (Int × Nat × Sh)) : List (Int × Option Nat) := M.map fun q => (q.1, some q.2.1)
def rgs (M : List (Int × Nat × Sh)) : List (Int × Sh) := M.map fun q => (q.1, q.2.2)
theorem lk_blk (M : List (Int × Nat × Sh)) (id : Int) : lk (blk M) id = (lk M id).map fun q => some q.1 := lk_map (fun q : Nat × Sh => some q.1) id M
theorem lk_rgs (M : List (Int × Nat × Sh)) (id : Int) : lk (rgs M) id = (lk M id).map (·.2) := lk_map (fun q : Nat × Sh => q.2) id M
/-- A ledger: its pages, and what its regions would use. -/
def Lg (l : Nat) (C : Co) (rg : List (Int × Sh)) : HP := fun H => ∃ x : Nat × List (Int × Nat × Sh), rgs x.2 = rg ∧ SL [Core l x.1 C, Mp idE ptV x.1 (blk x.2), Shs x.2] H
theorem Lg.open {l : Nat} {C : Co} {rg : List (Int × Sh)} : ∀ H, Lg l C rg H → ∃ x : Nat × List (Int × Nat × Sh), rgs x.2 = rg ∧ SL [Core l x.1 C, Mp idE ptV x.1 (blk x.2), Shs x.2] H := fun H h => h
theorem Lg.fold {l mb : Nat} {C : Co} {rg : List (Int × Sh)} {M : List (Int × Nat × Sh)} (h : rgs M = rg) : ∀ H, SL [Core l mb C, Mp idE ptV mb (blk M), Shs M] H → Lg l C rg H := fun H hs => ⟨(mb, M), h, hs⟩
attribute [local irreducible] Core Shd Shs Lg
set_option maxHeartbeats 8000000
attribute [local irreducible] X XE XO XD XDi XDa PV RV DV pt base Spec Sl Mp Keeps Pg Kc

theorem of_spec (l mb : Nat) (C : Co) (ml : List (Int × Option Nat)) (id : Int) : Spec Try.prog 17 [.pointer (some ⟨l, 0, none⟩), .int .u64 id] [Core l mb C, Mp idE ptV mb ml] (fun v L => v = ptV ((lk ml id).getD none) ∧ L = [Core l mb C, Mp idE ptV mb ml]) := by
  refine Spec.intro (IsEnt.out) Try.func17 rfl Try.ntmps17 (by simp) (fun w0 F => ?_)
  simp only [envOf, List.zipIdx, List.map, List.cons_append, List.nil_append, Nat.zero_add, Nat.reduceAdd]
  repeat (first | refine Zp pv_move ?_ | refine Zp pv_assign ?_ | refine Zp pv_eqnil ?_ | refine X_seq ?_ | refine X_region ?_ | refine XO_nil ?_ | refine XE_code ?_)
  refine X_cond rfl (fun h => by cases h) (fun _ => ?_)
  refine X_open .here Core.open ?_
  rintro ⟨pb, kb, t⟩ -
  dsimp only [List.cons_append, List.nil_append]
  repeat (first | refine Zp pv_move ?_ | refine Zp pv_nil_ptr ?_ | refine Zp pv_field ?_ | refine Zr rv_load ?_ | refine X_seq ?_ | refine X_region ?_ | refine X_skip ?_ | refine XE_code ?_)
  refine XO_rv (rv_lookup (ke := idE) (ve := ptV) (kk := id) (d0 := none)) (hk := ?_)
  repeat (first | refine Zp pv_assign ?_ | refine X_ret ?_ | refine XO_nil ?_ | refine XE_code ?_)
  refine XE_fold (by repeat (first | exact FindAll.nil | exact Find.here | apply Find.there | apply FindAll.cons)) (Core.fold (C := C)) ?_
  refine XE_ret (.inl rfl) (tells_tmps rfl rfl) ⟨_, ⟨rfl, rfl⟩, by ((try simp only [List.cons_append, List.nil_append]); repeat (first | exact ent_refl | refine ent_take (by repeat (first | exact Find.here | apply Find.there)) ?_ | refine ent_drop ?_))⟩
def emptySh : Sh := ⟨[], [], 0, 0⟩
def beginV (l : Nat) (C : Co) (rg : List (Int × Sh)) (id : Int) : Value → List HP → Prop :=
  if (lk rg id).isSome = true then fun v L => v = .bool false ∧ L = [Lg l C rg] else fun v L => v = .bool true ∧ L = [Lg l C (rg ++ [(id, emptySh)])]
theorem begin_spec (l : Nat) (C : Co) (rg : List (Int × Sh)) (id : Int) : Spec Try.prog 8 [.pointer (some ⟨l, 0, none⟩), .int .u64 id] [Lg l C rg] (beginV l C rg id) := by
  refine Spec.intro (IsEnt.out) Try.func8 rfl Try.ntmps8 (by simp) (fun w0 F => ?_)
  simp only [envOf, List.zipIdx, List.map, List.cons_append, List.nil_append, Nat.zero_add, Nat.reduceAdd]
  refine X_open .here Lg.open ?_
  rintro ⟨mb, M⟩ hM
  dsimp only [List.cons_append, List.nil_append] at hM ⊢
  repeat (first | refine ZT ?_ | refine Zp pv_move ?_ | refine Zp pv_assign ?_ | refine Zp pv_eqnil ?_ | refine X_seq ?_ | refine X_region ?_ | refine XO_nil ?_ | refine XE_code ?_)
  refine XO_call (of_spec l mb C (blk M) id) (hk := ?_)
  rintro _ _ ⟨rfl, rfl⟩
  rw [lk_blk]
  cases hk : lk M id with
  | some q =>
    have hrg : (lk rg id).isSome = true := by rw [← hM, lk_rgs, hk]; rfl
    have hP : beginV l C rg id = fun v L => v = .bool false ∧ L = [Lg l C rg] := by unfold beginV; rw [if_pos hrg]
    rw [hP]
    simp only [Option.map_some, Option.getD_some, ptV]
    repeat (first | refine ZT ?_ | refine Zp pv_pickF ?_ | refine Zp pv_nenil ?_ | refine XO_nil ?_ | refine XE_code ?_)
    refine X_cond rfl (fun _ => ?_) (fun h => by cases h)
    repeat (first | refine Zp pv_assign ?_ | refine X_seq ?_ | refine X_region ?_ | refine X_ret ?_ | refine XO_nil ?_ | refine XE_code ?_ | refine XE_code_ret ?_)
    refine XE_fold (by repeat (first | exact FindAll.nil | exact Find.here | apply Find.there | apply FindAll.cons)) (Lg.fold hM) ?_
    refine XE_ret (.inl rfl) (tells_tmps rfl rfl) ⟨_, ⟨rfl, rfl⟩, by ((try simp only [List.cons_append, List.nil_append]); repeat (first | exact ent_refl | refine ent_take (by repeat (first | exact Find.here | apply Find.there)) ?_ | refine ent_drop ?_))⟩
  | none =>
    have hrg : ¬ (lk rg id).isSome = true := by rw [← hM, lk_rgs, hk]; simp
    have hP : beginV l C rg id = fun v L => v = .bool true ∧ L = [Lg l C (rg ++ [(id, emptySh)])] := by unfold beginV; rw [if_neg hrg]
    rw [hP]
    simp only [Option.map_none, Option.getD_none, ptV]
    repeat (first | refine ZT ?_ | refine Zp pv_pickF ?_ | refine Zp pv_nenil ?_ | refine XO_nil ?_ | refine XE_code ?_)
    refine X_cond rfl (fun h => by cases h) (fun _ => ?_)
    refine X_open (A := Core l mb C) (by (repeat (first | exact Find.here | apply Find.there))) Core.open ?_
    rintro ⟨pb, kb, t⟩ -
    dsimp only [List.cons_append, List.nil_append]
    repeat (first | refine Zp pv_move ?_ | refine Zp pv_nil_ptr ?_ | refine Zp pv_field ?_ | refine Zr rv_load ?_ | refine Zp pv_build0 ?_ | refine X_seq ?_ | refine X_region ?_ | refine X_skip ?_ | refine XE_code ?_)
    refine XO_dv dv_box (hk := ?_)
    rintro _ _ ⟨nb, rfl, rfl⟩
    repeat (fail)
    refine XO_dv0 (dv_mapUpdate (ke := idE) (ve := ptV) (l := blk M) (kk := id) (v := some nb)) (hk := ?_)
    rintro _ _ rfl
    have hins : ins (blk M) id (some nb) = blk (M ++ [(id, nb, emptySh)]) := by
      rw [ins_new (by rw [lk_blk, hk]; rfl)]; simp [blk]
    have hrg2 : rgs (M ++ [(id, nb, emptySh)]) = rg ++ [(id, emptySh)] := by rw [← hM]; simp [rgs]
    rw [hins]
    repeat (first | refine Zp pv_assign ?_ | refine X_seq ?_ | refine X_region ?_ | refine X_ret ?_ | refine XO_nil ?_ | refine XE_code ?_)
    refine XE_conv (fun _ => SL_nilSl eRun) ?_
    refine XE_conv (fun _ => SL_nilSl ePart) ?_
    refine XE_fold (by repeat (first | exact FindAll.nil | exact Find.here | apply Find.there | apply FindAll.cons)) (Shd.fold (b := nb) (s := emptySh) (a := none) (c := 0) (a' := none) (c' := 0)) ?_
    refine XE_fold (by repeat (first | exact FindAll.nil | exact Find.here | apply Find.there | apply FindAll.cons)) (Shs.add (id := id) (M := M)) ?_
    refine XE_fold (by repeat (first | exact FindAll.nil | exact Find.here | apply Find.there | apply FindAll.cons)) (Core.fold (C := C)) ?_
    refine XE_fold (by repeat (first | exact FindAll.nil | exact Find.here | apply Find.there | apply FindAll.cons)) (Lg.fold hrg2) ?_
    refine XE_ret (.inl rfl) (tells_tmps rfl rfl) ⟨_, ⟨rfl, rfl⟩, by ((try simp only [List.cons_append, List.nil_append]); repeat (first | exact ent_refl | refine ent_take (by repeat (first | exact Find.here | apply Find.there)) ?_ | refine ent_drop ?_))⟩
end Go.Proofs.Ytlhjiciimeefeaa.Sep
