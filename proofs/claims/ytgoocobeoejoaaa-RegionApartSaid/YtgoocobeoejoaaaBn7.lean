import Derived.Test.YtgoocobeoejoaaaBn6
import Derived.Test.YtgoocobeoejoaaaBn4
import Derived.Test.YtgoocobeoejoaaaBn3
/- What the laws share: a separation logic over the model, and what the program's functions do, by it. Part 7 of 12: Pagerun ClassA Cache CacheB CoDef Chunk Part Keep ChunkB. -/
namespace Go.Proofs.Ytgoocobeoejoaaa.Sep
open Go.RowKit
set_option linter.unusedSimpArgs false
set_option linter.unusedVariables false

/-- Pages that are taken and given back: how many, what is free, and what was done. -/
def Pg (b : Nat) (P : Int) (fr : List (Int × Int)) (t : Int) : HP := fun H => ∃ x : Option Addr × Nat, SL [pt b (.cells [.int .i64 P, .slice x.1 fr.length x.2, .int .i64 t].toArray 104 (0, 0)), Sl eRun x.1 x.2 fr] H
theorem Pg.open {b : Nat} {P : Int} {fr : List (Int × Int)} {t : Int} : ∀ H, Pg b P fr t H → ∃ x : Option Addr × Nat, True ∧ SL [pt b (.cells [.int .i64 P, .slice x.1 fr.length x.2, .int .i64 t].toArray 104 (0, 0)), Sl eRun x.1 x.2 fr] H := fun H ⟨x, h⟩ => ⟨x, trivial, h⟩
theorem Pg.fold {b : Nat} {P : Int} {fr : List (Int × Int)} {t : Int} {a : Option Addr} {c : Nat} : ∀ H, SL [pt b (.cells [.int .i64 P, .slice a fr.length c, .int .i64 t].toArray 104 (0, 0)), Sl eRun a c fr] H → Pg b P fr t H := fun H h => ⟨(a, c), h⟩
def tickI (t : Int) (m : Nat) : Int := IntKind.i64.wrap (t + (1 + (m : Int)))
set_option maxHeartbeats 8000000
attribute [local irreducible] X XE XO XD XDi XDa PV RV DV pt base Spec Sl Mp Keeps Pg

theorem pnew_spec (p : Int) : Spec Try.prog 18 [.int .i64 p] [] (fun v L => ∃ b, v = .pointer (some ⟨b, 0, none⟩) ∧ L = [Pg b (min (max p 1) 1048576) [(0, min (max p 1) 1048576)] 0]) := by
  refine Spec.intro (IsEnt.out) Try.func18 rfl Try.ntmps18 (by simp) (fun w0 F => ?_)
  simp only [envOf, List.zipIdx, List.map, List.cons_append, List.nil_append, Nat.zero_add, Nat.reduceAdd]
  repeat (first | refine Zq ?_ | refine Zs ?_ | refine ZT ?_ | refine ZF ?_ | refine Zc ?_ | refine XO_gU (hk := ?_))
  refine XO_dv (dv_lit (E' := eRun) [(0, min (max p 1) 1048576)]) (hk := ?_)
  rintro _ _ ⟨lb, rfl, rfl⟩
  repeat (first | refine Zq ?_ | refine Zs ?_ | refine ZT ?_ | refine ZF ?_ | refine Zc ?_ | refine XO_gU (hk := ?_))
  refine XO_pv (pv_buildG [.int .i64 (min (max p 1) 1048576), .slice (some ⟨lb, 0, none⟩) 1 1, .int .i64 0]) (hk := ?_)
  repeat (first | refine Zq ?_ | refine Zs ?_ | refine ZT ?_ | refine ZF ?_ | refine Zc ?_ | refine XO_gU (hk := ?_))
  refine XO_dv dv_box (hk := ?_)
  rintro _ _ ⟨b, rfl, rfl⟩
  repeat (first | refine Zq ?_ | refine Zs ?_ | refine ZT ?_ | refine ZF ?_ | refine Zc ?_ | refine XO_gU (hk := ?_))
  refine XE_ret (.inl rfl) (tells_tmps rfl rfl) ⟨_, ⟨b, rfl, rfl⟩, ?_⟩
  refine ent_fold (by repeat (first | exact FindAll.nil | exact Find.here | apply Find.there | apply FindAll.cons)) (Pg.fold (a := some ⟨lb, 0, none⟩) (c := 1)) ?_
  ((try simp only [List.cons_append, List.nil_append]); repeat (first | exact ent_refl | refine ent_take (by repeat (first | exact Find.here | apply Find.there)) ?_ | refine ent_drop ?_))
theorem done_spec (b m m' c c' : Nat) (P t : Int) (a a' : Option Addr) (hm : m ≤ 1048576) : Spec Try.prog 84 [.pointer (some ⟨b, 0, none⟩), .slice a' m' c'] [pt b (.cells [.int .i64 P, .slice a m c, .int .i64 t].toArray 104 (0, 0))]
    (fun v L => v = .int .i64 0 ∧ L = [pt b (.cells [.int .i64 P, .slice a' m' c', .int .i64 (tickI t m)].toArray 104 (0, 0))]) := by
  refine Spec.intro (IsEnt.out) Try.func84 rfl Try.ntmps84 (by simp) (fun w0 F => ?_)
  simp only [envOf, List.zipIdx, List.map, List.cons_append, List.nil_append, Nat.zero_add, Nat.reduceAdd]
  repeat (first | refine Zq ?_ | refine Zs ?_ | refine ZT ?_ | refine ZF ?_ | refine Zc ?_ | refine XO_gU (hk := ?_))
  repeat (first | refine XD_pick (h := ?_) | refine Dq ?_ | refine Ds ?_ | refine XDi_gF (h := ?_) | refine XDi_gU (h := ?_) | refine X_draws (h := ?_))
  refine XD_one (h := ?_)
  refine XDa_dvk0 dv_store (K := _) (hk := ?_)
  rintro _ _ rfl
  refine ⟨by (repeat (first | exact keeps_nil | exact keeps_fnil | refine keeps_skip (h := ?_) | refine keeps_takeQ (h := ?_))), ?_⟩
  (refine XD_end (h := ?_); repeat (first | refine Zq ?_ | refine Zs ?_ | refine ZT ?_ | refine ZF ?_ | refine Zc ?_ | refine XO_gU (hk := ?_)))
  refine XO_dv0 dv_store (hk := ?_)
  rintro _ _ rfl
  repeat (first | refine Zq ?_ | refine Zs ?_ | refine ZT ?_ | refine ZF ?_ | refine Zc ?_ | refine XO_gU (hk := ?_))
  refine XE_ret (.inl rfl) (tells_tmps rfl rfl) ⟨_, ⟨rfl, rfl⟩, by ((try simp only [List.cons_append, List.nil_append]); repeat (first | exact ent_refl | refine ent_take (by repeat (first | exact Find.here | apply Find.there)) ?_ | refine ent_drop ?_))⟩
def takeP (b : Nat) (P : Int) (fr : List (Int × Int)) (t n : Int) : Value → List HP → Prop :=
  if n < 1 then fun v L => v = .tuple #[.int .i64 0, .int .i64 1] ∧ L = [Pg b P fr t] else match takeI fr n with
  | none => fun v L => v = .tuple #[.int .i64 0, .int .i64 4] ∧ L = [Pg b P fr t]
  | some q => fun v L => v = .tuple #[.int .i64 q.1, .int .i64 0] ∧ L = [Pg b P q.2 (tickI t fr.length)]
theorem ptake_spec (b : Nat) (P t n : Int) (fr : List (Int × Int)) (hl : fr.length ≤ 1048576) (hB : Bd fr) : Spec Try.prog 73 [.pointer (some ⟨b, 0, none⟩), .int .i64 n] [Pg b P fr t] (takeP b P fr t n) := by
  refine Spec.intro (IsEnt.out) Try.func73 rfl Try.ntmps73 (by simp) (fun w0 F => ?_)
  simp only [envOf, List.zipIdx, List.map, List.cons_append, List.nil_append, Nat.zero_add, Nat.reduceAdd]
  repeat (first | refine Zq ?_ | refine Zs ?_ | refine ZT ?_ | refine ZF ?_ | refine Zc ?_ | refine XO_gU (hk := ?_))
  refine X_cond rfl (fun h => ?_) (fun h => ?_) <;> simp only [decide_eq_true_eq, decide_eq_false_iff_not] at h
  · unfold takeP
    rw [if_pos h]
    repeat (first | refine Zq ?_ | refine Zs ?_ | refine ZT ?_ | refine ZF ?_ | refine Zc ?_ | refine XO_gU (hk := ?_))
    refine XE_ret (.inl rfl) (tells_tmps rfl rfl) ⟨_, ⟨rfl, rfl⟩, by ((try simp only [List.cons_append, List.nil_append]); repeat (first | exact ent_refl | refine ent_take (by repeat (first | exact Find.here | apply Find.there)) ?_ | refine ent_drop ?_))⟩
  unfold takeP
  rw [if_neg h]
  refine X_open .here Pg.open ?_
  rintro ⟨a, c⟩ -
  dsimp only [List.cons_append, List.nil_append]
  repeat (first | refine Zq ?_ | refine Zs ?_ | refine ZT ?_ | refine ZF ?_ | refine Zc ?_ | refine XO_gU (hk := ?_))
  refine XO_call (take_spec (Sl eRun a c fr) a c fr n Sl.view hl hB) (hk := ?_)
  intro v L' hpost
  cases ht : takeI fr n with
  | none =>
    rw [ht] at hpost
    obtain ⟨rfl, rfl⟩ := hpost
    repeat (first | refine Zq ?_ | refine Zs ?_ | refine ZT ?_ | refine ZF ?_ | refine Zc ?_ | refine XO_gU (hk := ?_))
    refine X_cond rfl (fun _ => ?_) (fun h => by cases h)
    repeat (first | refine Zq ?_ | refine Zs ?_ | refine ZT ?_ | refine ZF ?_ | refine Zc ?_ | refine XO_gU (hk := ?_))
    refine XE_ret (.inl rfl) (tells_tmps rfl rfl) ⟨_, ⟨rfl, rfl⟩, ?_⟩
    (try simp only [List.cons_append, List.nil_append])
    refine ent_fold (by repeat (first | exact FindAll.nil | exact Find.here | apply Find.there | apply FindAll.cons)) Pg.fold ?_
    ((try simp only [List.cons_append, List.nil_append]); repeat (first | exact ent_refl | refine ent_take (by repeat (first | exact Find.here | apply Find.there)) ?_ | refine ent_drop ?_))
  | some q =>
    obtain ⟨p, ys⟩ := q
    rw [ht] at hpost
    obtain ⟨nb, c', rfl, rfl⟩ := hpost
    repeat (first | refine Zq ?_ | refine Zs ?_ | refine ZT ?_ | refine ZF ?_ | refine Zc ?_ | refine XO_gU (hk := ?_))
    refine X_cond rfl (fun h => by cases h) (fun _ => ?_)
    repeat (first | refine Zq ?_ | refine Zs ?_ | refine ZT ?_ | refine ZF ?_ | refine Zc ?_ | refine XO_gU (hk := ?_))
    refine XO_call (done_spec b fr.length ys.length c c' P t a (some ⟨nb, 0, none⟩) hl) (hk := ?_)
    rintro _ _ ⟨rfl, rfl⟩
    repeat (first | refine Zq ?_ | refine Zs ?_ | refine ZT ?_ | refine ZF ?_ | refine Zc ?_ | refine XO_gU (hk := ?_))
    refine XE_ret (.inl rfl) (tells_tmps rfl rfl) ⟨_, ⟨rfl, rfl⟩, ?_⟩
    (try simp only [List.cons_append, List.nil_append])
    refine ent_fold (by repeat (first | exact FindAll.nil | exact Find.here | apply Find.there | apply FindAll.cons)) Pg.fold ?_
    ((try simp only [List.cons_append, List.nil_append]); repeat (first | exact ent_refl | refine ent_take (by repeat (first | exact Find.here | apply Find.there)) ?_ | refine ent_drop ?_))
def giveP (b : Nat) (P : Int) (fr : List (Int × Int)) (t page n : Int) : Value → List HP → Prop := match giveI fr P page n with
  | none => fun v L => v = .int .i64 1 ∧ L = [Pg b P fr t]
  | some ys => fun v L => v = .int .i64 0 ∧ L = [Pg b P ys (tickI t fr.length)]
theorem pgive_spec (b : Nat) (P t page n : Int) (fr : List (Int × Int)) (hl : fr.length ≤ 1048576) (hB : Bd fr) (p0 : 0 ≤ P) (p1 : P ≤ 1048576) (n0 : -9223372036854775808 ≤ n) (n1 : n ≤ 9223372036854775807) (q0 : -9223372036854775808 ≤ page) (q1 : page ≤ 9223372036854775807) :
    Spec Try.prog 80 [.pointer (some ⟨b, 0, none⟩), .int .i64 page, .int .i64 n] [Pg b P fr t] (giveP b P fr t page n) := by
  refine Spec.intro (IsEnt.out) Try.func80 rfl Try.ntmps80 (by simp) (fun w0 F => ?_)
  simp only [envOf, List.zipIdx, List.map, List.cons_append, List.nil_append, Nat.zero_add, Nat.reduceAdd]
  repeat (first | refine Zq ?_ | refine Zs ?_ | refine ZT ?_ | refine ZF ?_ | refine Zc ?_ | refine XO_gU (hk := ?_))
  refine X_cond rfl (fun h => by cases h) (fun _ => ?_)
  refine X_open .here Pg.open ?_
  rintro ⟨a, c⟩ -
  dsimp only [List.cons_append, List.nil_append]
  refine X_fact (A := Sl eRun a c fr) (by (repeat (first | exact Find.here | apply Find.there))) Sl.cap (fun hc => ?_)
  repeat (first | refine Zq ?_ | refine Zs ?_ | refine ZT ?_ | refine ZF ?_ | refine Zc ?_ | refine XO_gU (hk := ?_))
  repeat (first | refine XD_pick (h := ?_) | refine Dq ?_ | refine Ds ?_ | refine XDi_gF (h := ?_) | refine XDi_gU (h := ?_) | refine X_draws (h := ?_))
  refine XD_one (h := ?_)
  refine XDa_dvA (dv_call (give_spec (Sl eRun a c fr) a c fr P page n Sl.view hc hl hB p0 p1 n0 n1 q0 q1)) (hk := ?_)
  rintro v _ ⟨L', hpost, rfl⟩
  unfold giveP
  cases ht : giveI fr P page n with
  | none =>
    rw [ht] at hpost
    obtain ⟨rfl, rfl⟩ := hpost
    refine ⟨by (repeat (first | exact keeps_nil | exact keeps_fnil | refine keeps_skip (h := ?_) | refine keeps_takeQ (h := ?_))), ?_⟩
    repeat (first | refine XD_pick (h := ?_) | refine Dq ?_ | refine Ds ?_ | refine XDi_gF (h := ?_) | refine XDi_gU (h := ?_) | refine X_draws (h := ?_))
    (refine XD_one (h := ?_); refine XDa_dvA (dv_of_rv (rv_of_pv pv_assign)) (hk := ?_); rintro _ _ ⟨rfl, rfl⟩; refine ⟨by (repeat (first | exact keeps_nil | exact keeps_fnil | refine keeps_skip (h := ?_) | refine keeps_takeQ (h := ?_))), ?_⟩)
    (refine XD_one (h := ?_); refine XDa_dvA (dv_of_rv (rv_of_pv pv_assign)) (hk := ?_); rintro _ _ ⟨rfl, rfl⟩; refine ⟨by (repeat (first | exact keeps_nil | exact keeps_fnil | refine keeps_skip (h := ?_) | refine keeps_takeQ (h := ?_))), ?_⟩)
    (refine XD_end (h := ?_); repeat (first | refine Zq ?_ | refine Zs ?_ | refine ZT ?_ | refine ZF ?_ | refine Zc ?_ | refine XO_gU (hk := ?_)))
    refine X_cond rfl (fun _ => ?_) (fun h => by cases h)
    repeat (first | refine Zq ?_ | refine Zs ?_ | refine ZT ?_ | refine ZF ?_ | refine Zc ?_ | refine XO_gU (hk := ?_))
    refine XE_ret (.inl rfl) (tells_tmps rfl rfl) ⟨_, ⟨rfl, rfl⟩, ?_⟩
    (try simp only [List.cons_append, List.nil_append])
    refine ent_fold (by repeat (first | exact FindAll.nil | exact Find.here | apply Find.there | apply FindAll.cons)) Pg.fold ?_
    ((try simp only [List.cons_append, List.nil_append]); repeat (first | exact ent_refl | refine ent_take (by repeat (first | exact Find.here | apply Find.there)) ?_ | refine ent_drop ?_))
  | some ys =>
    rw [ht] at hpost
    obtain ⟨a', c', rfl, rfl⟩ := hpost
    refine ⟨by (repeat (first | exact keeps_nil | exact keeps_fnil | refine keeps_skip (h := ?_) | refine keeps_takeQ (h := ?_))), ?_⟩
    repeat (first | refine XD_pick (h := ?_) | refine Dq ?_ | refine Ds ?_ | refine XDi_gF (h := ?_) | refine XDi_gU (h := ?_) | refine X_draws (h := ?_))
    (refine XD_one (h := ?_); refine XDa_dvA (dv_of_rv (rv_of_pv pv_assign)) (hk := ?_); rintro _ _ ⟨rfl, rfl⟩; refine ⟨by (repeat (first | exact keeps_nil | exact keeps_fnil | refine keeps_skip (h := ?_) | refine keeps_takeQ (h := ?_))), ?_⟩)
    (refine XD_one (h := ?_); refine XDa_dvA (dv_of_rv (rv_of_pv pv_assign)) (hk := ?_); rintro _ _ ⟨rfl, rfl⟩; refine ⟨by (repeat (first | exact keeps_nil | exact keeps_fnil | refine keeps_skip (h := ?_) | refine keeps_takeQ (h := ?_))), ?_⟩)
    (refine XD_end (h := ?_); repeat (first | refine Zq ?_ | refine Zs ?_ | refine ZT ?_ | refine ZF ?_ | refine Zc ?_ | refine XO_gU (hk := ?_)))
    refine X_cond rfl (fun h => by cases h) (fun _ => ?_)
    repeat (first | refine Zq ?_ | refine Zs ?_ | refine ZT ?_ | refine ZF ?_ | refine Zc ?_ | refine XO_gU (hk := ?_))
    refine XO_call (done_spec b fr.length ys.length c c' P t a a' hl) (hk := ?_)
    rintro _ _ ⟨rfl, rfl⟩
    repeat (first | refine Zq ?_ | refine Zs ?_ | refine ZT ?_ | refine ZF ?_ | refine Zc ?_ | refine XO_gU (hk := ?_))
    refine XE_ret (.inl rfl) (tells_tmps rfl rfl) ⟨_, ⟨rfl, rfl⟩, ?_⟩
    (try simp only [List.cons_append, List.nil_append])
    refine ent_fold (by repeat (first | exact FindAll.nil | exact Find.here | apply Find.there | apply FindAll.cons)) Pg.fold ?_
    ((try simp only [List.cons_append, List.nil_append]); repeat (first | exact ent_refl | refine ent_take (by repeat (first | exact Find.here | apply Find.there)) ?_ | refine ent_drop ?_))
end Go.Proofs.Ytgoocobeoejoaaa.Sep
namespace Go.Proofs.Ytgoocobeoejoaaa.Sep
open Go.RowKit
set_option linter.unusedSimpArgs false
set_option linter.unusedVariables false
set_option maxHeartbeats 8000000
attribute [local irreducible] X XE XO XD XDi XDa PV RV DV pt base Spec Sl Mp Keeps

def cpages (c : Int) : Int := if 0 ≤ c ∧ c < 7 then ((2 ^ c.toNat : Nat) : Int) else 0
def cclass (p : Int) : Int := if p < 1 then -1 else if p ≤ 1 then 0 else if p ≤ 2 then 1 else if p ≤ 4 then 2 else if p ≤ 8 then 3 else if p ≤ 16 then 4 else if p ≤ 32 then 5 else if p ≤ 64 then 6 else -1
theorem seven {c : Int} (h0 : 0 ≤ c) (h1 : c < 7) : c = 0 ∨ c = 1 ∨ c = 2 ∨ c = 3 ∨ c = 4 ∨ c = 5 ∨ c = 6 := by omega
theorem cpages_spec (c : Int) : Spec Try.prog 43 [.int .i64 c] [] (fun v L => v = .int .i64 (cpages c) ∧ L = []) := by
  refine Spec.intro (IsEnt.out) Try.func43 rfl Try.ntmps43 (by simp) (fun w0 F => ?_)
  simp only [envOf, List.zipIdx, List.map, List.cons_append, List.nil_append, Nat.zero_add, Nat.reduceAdd]
  repeat (first | refine Zq ?_ | refine Zs ?_ | refine ZT ?_ | refine ZF ?_ | refine Zc ?_ | refine XO_gU (hk := ?_))
  refine XO_either (hT := fun h => ?_) (hF := fun h => ?_) <;> simp only [decide_eq_true_eq, decide_eq_false_iff_not] at h
  · repeat (first | refine Zq ?_ | refine Zs ?_ | refine ZT ?_ | refine ZF ?_ | refine Zc ?_ | refine XO_gU (hk := ?_))
    refine X_cond rfl (fun _ => ?_) (fun h => by cases h)
    repeat (first | refine Zq ?_ | refine Zs ?_ | refine ZT ?_ | refine ZF ?_ | refine Zc ?_ | refine XO_gU (hk := ?_))
    unfold cpages
    rw [if_neg (by omega)]
    refine XE_ret (.inl rfl) (tells_tmps rfl rfl) ⟨_, ⟨rfl, rfl⟩, by ((try simp only [List.cons_append, List.nil_append]); repeat (first | exact ent_refl | refine ent_take (by repeat (first | exact Find.here | apply Find.there)) ?_ | refine ent_drop ?_))⟩
  · repeat (first | refine Zq ?_ | refine Zs ?_ | refine ZT ?_ | refine ZF ?_ | refine Zc ?_ | refine XO_gU (hk := ?_))
    refine X_cond rfl (fun h2 => ?_) (fun h2 => ?_) <;> simp only [decide_eq_true_eq, decide_eq_false_iff_not] at h2
    · repeat (first | refine Zq ?_ | refine Zs ?_ | refine ZT ?_ | refine ZF ?_ | refine Zc ?_ | refine XO_gU (hk := ?_))
      unfold cpages
      rw [if_neg (by omega)]
      refine XE_ret (.inl rfl) (tells_tmps rfl rfl) ⟨_, ⟨rfl, rfl⟩, by ((try simp only [List.cons_append, List.nil_append]); repeat (first | exact ent_refl | refine ent_take (by repeat (first | exact Find.here | apply Find.there)) ?_ | refine ent_drop ?_))⟩
    · repeat (first | refine Zq ?_ | refine Zs ?_ | refine ZT ?_ | refine ZF ?_ | refine Zc ?_ | refine XO_gU (hk := ?_))
      refine XO_pv (pv_shlN (b := c)) (hk := ?_)
      repeat (first | refine Zq ?_ | refine Zs ?_ | refine ZT ?_ | refine ZF ?_ | refine Zc ?_ | refine XO_gU (hk := ?_))
      have e1 : IntKind.i64.wrap (1 * ((2 ^ min c.toNat IntKind.i64.bits : Nat) : Int)) = cpages c := by
        rcases seven (c := c) (by omega) (by omega) with rfl | rfl | rfl | rfl | rfl | rfl | rfl <;> rfl
      rw [e1]
      refine XE_ret (.inl rfl) (tells_tmps rfl rfl) ⟨_, ⟨rfl, rfl⟩, by ((try simp only [List.cons_append, List.nil_append]); repeat (first | exact ent_refl | refine ent_take (by repeat (first | exact Find.here | apply Find.there)) ?_ | refine ent_drop ?_))⟩
theorem cclass_spec (p : Int) : Spec Try.prog 44 [.int .i64 p] [] (fun v L => v = .int .i64 (cclass p) ∧ L = []) := by
  refine Spec.intro (IsEnt.out) Try.func44 rfl Try.ntmps44 (by simp) (fun w0 F => ?_)
  simp only [envOf, List.zipIdx, List.map, List.cons_append, List.nil_append, Nat.zero_add, Nat.reduceAdd]
  repeat (first | refine Zq ?_ | refine Zs ?_ | refine ZT ?_ | refine ZF ?_ | refine Zc ?_ | refine XO_gU (hk := ?_))
  refine X_loop (ι := Nat) (fun k => k ≤ 7 ∧ ∀ j : Nat, j < k → ¬ (0 < p ∧ p ≤ cpages j)) (fun k => [(0, .int .i64 p), (4, .int .i64 k)]) (fun _ => F) (fun k => 7 - k) 0 ⟨Nat.zero_le _, fun j h => by omega⟩ ?_ (fun _ h => h) ?_
  · (repeat (first | exact Env.sub_nil _ | refine Env.sub_cons rfl ?_))
  rintro k ⟨hk, hj⟩
  dsimp only at hk hj ⊢
  repeat (first | refine Zq ?_ | refine Zs ?_ | refine ZT ?_ | refine ZF ?_ | refine Zc ?_ | refine XO_gU (hk := ?_))
  refine X_cond rfl (fun hc => ?_) (fun hc => ?_) <;> simp only [decide_eq_true_eq, decide_eq_false_iff_not] at hc
  · repeat (first | refine Zq ?_ | refine Zs ?_ | refine ZT ?_ | refine ZF ?_ | refine Zc ?_ | refine XO_gU (hk := ?_))
    refine XO_either (hT := fun h => ?_) (hF := fun h => ?_) <;> simp only [decide_eq_true_eq, decide_eq_false_iff_not] at h
    · repeat (first | refine Zq ?_ | refine Zs ?_ | refine ZT ?_ | refine ZF ?_ | refine Zc ?_ | refine XO_gU (hk := ?_))
      refine XO_call (cpages_spec k) (hk := ?_)
      rintro _ _ ⟨rfl, rfl⟩
      repeat (first | refine Zq ?_ | refine Zs ?_ | refine ZT ?_ | refine ZF ?_ | refine Zc ?_ | refine XO_gU (hk := ?_))
      refine X_cond rfl (fun h2 => ?_) (fun h2 => ?_) <;> simp only [decide_eq_true_eq, decide_eq_false_iff_not] at h2
      · have hcl : cclass p = k := by
          have key : ∀ j : Nat, j < k → cpages j < p := fun j hjk => by have := hj j hjk; omega
          have hk7 : k < 7 := by omega
          have h7 : k = 0 ∨ k = 1 ∨ k = 2 ∨ k = 3 ∨ k = 4 ∨ k = 5 ∨ k = 6 := by omega
          rcases h7 with rfl | rfl | rfl | rfl | rfl | rfl | rfl
          · have h3 : p ≤ 1 := h2
            unfold cclass; split <;> omega
          · have h3 : p ≤ 2 := h2
            have h4 : (1 : Int) < p := key 0 (by decide)
            unfold cclass; repeat' split
            all_goals omega
          · have h3 : p ≤ 4 := h2
            have h4 : (2 : Int) < p := key 1 (by decide)
            unfold cclass; repeat' split
            all_goals omega
          · have h3 : p ≤ 8 := h2
            have h4 : (4 : Int) < p := key 2 (by decide)
            unfold cclass; repeat' split
            all_goals omega
          · have h3 : p ≤ 16 := h2
            have h4 : (8 : Int) < p := key 3 (by decide)
            unfold cclass; repeat' split
            all_goals omega
          · have h3 : p ≤ 32 := h2
            have h4 : (16 : Int) < p := key 4 (by decide)
            unfold cclass; repeat' split
            all_goals omega
          · have h3 : p ≤ 64 := h2
            have h4 : (32 : Int) < p := key 5 (by decide)
            unfold cclass; repeat' split
            all_goals omega
        repeat (first | refine Zq ?_ | refine Zs ?_ | refine ZT ?_ | refine ZF ?_ | refine Zc ?_ | refine XO_gU (hk := ?_))
        rw [← hcl]
        refine XE_ret (.inl rfl) (tells_tmps rfl rfl) ⟨_, ⟨rfl, rfl⟩, by ((try simp only [List.cons_append, List.nil_append]); repeat (first | exact ent_refl | refine ent_take (by repeat (first | exact Find.here | apply Find.there)) ?_ | refine ent_drop ?_))⟩
      · repeat (first | refine Zq ?_ | refine Zs ?_ | refine ZT ?_ | refine ZF ?_ | refine Zc ?_ | refine XO_gU (hk := ?_))
        refine X_round (k + 1) ?_ ?_ ?_ (fun _ h => h)
        · refine ⟨by omega, fun j hjk => ?_⟩
          rcases Nat.lt_or_ge j k with hlt | hge
          · exact hj j hlt
          · obtain rfl : j = k := by omega
            exact fun h3 => h2 h3.2
        · show 7 - (k + 1) < 7 - k; omega
        · (repeat (first | exact Env.sub_nil _ | refine Env.sub_cons rfl ?_))
    · repeat (first | refine Zq ?_ | refine Zs ?_ | refine ZT ?_ | refine ZF ?_ | refine Zc ?_ | refine XO_gU (hk := ?_))
      refine X_cond rfl (fun h => by cases h) (fun _ => ?_)
      repeat (first | refine Zq ?_ | refine Zs ?_ | refine ZT ?_ | refine ZF ?_ | refine Zc ?_ | refine XO_gU (hk := ?_))
      refine X_round (k + 1) ?_ ?_ ?_ (fun _ h => h)
      · refine ⟨by omega, fun j hjk h3 => h h3.1⟩
      · show 7 - (k + 1) < 7 - k; omega
      · (repeat (first | exact Env.sub_nil _ | refine Env.sub_cons rfl ?_))
  · obtain rfl : k = 7 := by omega
    have hcl : cclass p = -1 := by
      by_cases h0 : 0 < p
      · have h4 : (64 : Int) < p := by
          have := hj 6 (by decide)
          have e : cpages ((6 : Nat) : Int) = 64 := rfl
          rw [e] at this; omega
        unfold cclass; repeat' split
        all_goals omega
      · unfold cclass; rw [if_pos (by omega)]
    repeat (first | refine Zq ?_ | refine Zs ?_ | refine ZT ?_ | refine ZF ?_ | refine Zc ?_ | refine XO_gU (hk := ?_))
    rw [← hcl]
    refine XE_ret (.inl rfl) (tells_tmps rfl rfl) ⟨_, ⟨rfl, rfl⟩, by ((try simp only [List.cons_append, List.nil_append]); repeat (first | exact ent_refl | refine ent_take (by repeat (first | exact Find.here | apply Find.there)) ?_ | refine ent_drop ?_))⟩
end Go.Proofs.Ytgoocobeoejoaaa.Sep
namespace Go.Proofs.Ytgoocobeoejoaaa.Sep
open Go.RowKit
set_option linter.unusedSimpArgs false
set_option linter.unusedVariables false

/-- What is kept: a stack for each of seven classes. -/
def KcRel (fl : List Int) (ks : Nat → List Int) : Prop := fl.length = 35 ∧ ∀ k, k < 7 → (ks k).length ≤ 4 ∧ fl.getD (k * 5 + 4) 0 = ((ks k).length : Int) ∧ ∀ j, j < (ks k).length → fl.getD (k * 5 + j) 0 = (ks k).getD j 0
def Kc (b : Nat) (ks : Nat → List Int) : HP := fun H => ∃ fl, KcRel fl ks ∧ SL [Sl (eI .i64) (some ⟨b, 0, none⟩) 35 fl] H
theorem Kc.open {b : Nat} {ks : Nat → List Int} : ∀ H, Kc b ks H → ∃ fl, KcRel fl ks ∧ SL [Sl (eI .i64) (some ⟨b, 0, none⟩) 35 fl] H := fun H h => h
theorem Kc.fold {b : Nat} {fl : List Int} {ks : Nat → List Int} (h : KcRel fl ks) : ∀ H, SL [Sl (eI .i64) (some ⟨b, 0, none⟩) 35 fl] H → Kc b ks H := fun H hs => ⟨fl, h, hs⟩
def upd {α : Type} (ks : Nat → α) (c : Nat) (l : α) : Nat → α := fun k => if k = c then l else ks k
set_option maxHeartbeats 8000000
attribute [local irreducible] X XE XO XD XDi XDa PV RV DV pt base Spec Sl Mp Keeps Kc

theorem KcRel.none : KcRel (List.replicate 35 0) (fun _ => []) := by
  refine ⟨by simp, fun k hk => ⟨Nat.zero_le _, ?_, fun j hj => by simp at hj⟩⟩
  have : k = 0 ∨ k = 1 ∨ k = 2 ∨ k = 3 ∨ k = 4 ∨ k = 5 ∨ k = 6 := by omega
  rcases this with rfl | rfl | rfl | rfl | rfl | rfl | rfl <;> rfl
theorem getD_set {fl : List Int} {i j : Nat} {v : Int} (hi : i < fl.length) : (fl.set i v).getD j 0 = if i = j then v else fl.getD j 0 := by
  simp only [List.getD, List.getElem?_set]
  by_cases h : i = j
  · subst h; simp [hi]
  · simp [h]
theorem KcRel.push {fl : List Int} {ks : Nat → List Int} {c : Nat} {p : Int} (h : KcRel fl ks) (hc : c < 7) (hn : (ks c).length < 4) : KcRel ((fl.set (c * 5 + (ks c).length) p).set (c * 5 + 4) ((ks c).length + 1)) (upd ks c (ks c ++ [p])) := by
  obtain ⟨hl, hk⟩ := h
  have l1 : c * 5 + (ks c).length < fl.length := by omega
  have l2 : c * 5 + 4 < (fl.set (c * 5 + (ks c).length) p).length := by simp; omega
  refine ⟨by simp [hl], fun k hk7 => ?_⟩
  obtain ⟨g1, g2, g3⟩ := hk k hk7
  unfold upd
  by_cases hkc : k = c
  · subst hkc
    simp only [if_true]
    refine ⟨by simp; omega, ?_, fun j hj => ?_⟩
    · rw [getD_set l2, if_pos rfl]; simp
    · rw [getD_set l2, if_neg (by simp at hj; omega), getD_set l1]
      by_cases hj2 : j = (ks k).length
      · subst hj2; rw [if_pos rfl]; simp [List.getD]
      · simp at hj
        rw [if_neg (by omega), g3 j (by omega)]
        simp [List.getD, List.getElem?_append_left (show j < (ks k).length by omega)]
  · simp only [if_neg hkc]
    refine ⟨g1, ?_, fun j hj => ?_⟩
    · rw [getD_set l2, if_neg (by omega), getD_set l1, if_neg (by omega)]; exact g2
    · rw [getD_set l2, if_neg (by omega), getD_set l1, if_neg (by omega)]; exact g3 j hj
theorem KcRel.pop {fl : List Int} {ks : Nat → List Int} {c : Nat} (h : KcRel fl ks) (hc : c < 7) : KcRel (fl.set (c * 5 + 4) ((ks c).length - 1 : Nat)) (upd ks c (ks c).dropLast) := by
  obtain ⟨hl, hk⟩ := h
  have l2 : c * 5 + 4 < fl.length := by omega
  refine ⟨by simp [hl], fun k hk7 => ?_⟩
  obtain ⟨g1, g2, g3⟩ := hk k hk7
  unfold upd
  by_cases hkc : k = c
  · subst hkc
    simp only [if_true]
    refine ⟨by simp; omega, ?_, fun j hj => ?_⟩
    · rw [getD_set l2, if_pos rfl]; simp
    · simp at hj
      rw [getD_set l2, if_neg (by omega), g3 j (by omega)]
      rw [List.getD, List.getD, List.getElem?_dropLast, if_pos (by omega)]
  · simp only [if_neg hkc]
    refine ⟨g1, ?_, fun j hj => ?_⟩
    · rw [getD_set l2, if_neg (by omega)]; exact g2
    · rw [getD_set l2, if_neg (by omega)]; exact g3 j hj
theorem cnew_spec : Spec Try.prog 20 [] [] (fun v L => ∃ b, v = .pointer (some ⟨b, 0, none⟩) ∧ L = [Kc b (fun _ => [])]) := by
  refine Spec.intro (IsEnt.out) Try.func20 rfl Try.ntmps20 (by simp) (fun w0 F => ?_)
  simp only [envOf, List.zipIdx, List.map, List.cons_append, List.nil_append, Nat.zero_add, Nat.reduceAdd]
  repeat (first | refine Zq ?_ | refine Zs ?_ | refine ZT ?_ | refine ZF ?_ | refine Zc ?_ | refine XO_gU (hk := ?_))
  refine XO_dv dv_box (hk := ?_)
  rintro _ _ ⟨b, rfl, rfl⟩
  refine XO_conv (fun _ h => SL.head (Sl.of_pt (E' := eI .i64) (xs := List.replicate 35 0) rfl) h) ?_
  repeat (first | refine Zq ?_ | refine Zs ?_ | refine ZT ?_ | refine ZF ?_ | refine Zc ?_ | refine XO_gU (hk := ?_))
  refine XE_ret (.inl rfl) (tells_tmps rfl rfl) ⟨_, ⟨b, rfl, rfl⟩, ?_⟩
  refine ent_fold (by repeat (first | exact FindAll.nil | exact Find.here | apply Find.there | apply FindAll.cons)) (Kc.fold KcRel.none) ?_
  ((try simp only [List.cons_append, List.nil_append]); repeat (first | exact ent_refl | refine ent_take (by repeat (first | exact Find.here | apply Find.there)) ?_ | refine ent_drop ?_))
/-- Where a class's stack lies. -/
def ofC (b : Nat) (c : Int) : Option Addr := if 0 ≤ c ∧ c < 7 then some ⟨b, c.toNat * 5, none⟩ else none
theorem cpages_pos {c : Int} (h0 : 0 ≤ c) (h1 : c < 7) : 0 < cpages c := by
  unfold cpages
  rw [if_pos ⟨h0, h1⟩]
  have := Nat.two_pow_pos c.toNat
  omega
theorem cof_spec (b : Nat) (c : Int) : Spec Try.prog 82 [.pointer (some ⟨b, 0, none⟩), .int .i64 c] [] (fun v L => v = .pointer (ofC b c) ∧ L = []) := by
  refine Spec.intro (IsEnt.out) Try.func82 rfl Try.ntmps82 (by simp) (fun w0 F => ?_)
  simp only [envOf, List.zipIdx, List.map, List.cons_append, List.nil_append, Nat.zero_add, Nat.reduceAdd]
  repeat (first | refine Zq ?_ | refine Zs ?_ | refine ZT ?_ | refine ZF ?_ | refine Zc ?_ | refine XO_gU (hk := ?_))
  refine XO_call (cpages_spec c) (hk := ?_)
  rintro _ _ ⟨rfl, rfl⟩
  repeat (first | refine Zq ?_ | refine Zs ?_ | refine ZT ?_ | refine ZF ?_ | refine Zc ?_ | refine XO_gU (hk := ?_))
  refine X_cond rfl (fun h => ?_) (fun h => ?_)
  · have h0 : cpages c = 0 := by simpa using h
    have hn : ¬ (0 ≤ c ∧ c < 7) := fun h' => by have := cpages_pos h'.1 h'.2; omega
    have ho : ofC b c = none := by unfold ofC; rw [if_neg hn]
    rw [ho]
    repeat (first | refine Zq ?_ | refine Zs ?_ | refine ZT ?_ | refine ZF ?_ | refine Zc ?_ | refine XO_gU (hk := ?_))
    refine XE_ret (.inl rfl) (tells_tmps rfl rfl) ⟨_, ⟨rfl, rfl⟩, by ((try simp only [List.cons_append, List.nil_append]); repeat (first | exact ent_refl | refine ent_take (by repeat (first | exact Find.here | apply Find.there)) ?_ | refine ent_drop ?_))⟩
  · have h0 : ¬ cpages c = 0 := by simpa using h
    have hn : 0 ≤ c ∧ c < 7 := by
      refine Decidable.byContradiction fun h' => h0 ?_
      unfold cpages; rw [if_neg h']
    have ho : ofC b c = some ⟨b, c.toNat * 5, none⟩ := by unfold ofC; rw [if_pos hn]
    rw [ho]
    repeat (first | refine Zq ?_ | refine Zs ?_ | refine ZT ?_ | refine ZF ?_ | refine Zc ?_ | refine XO_gU (hk := ?_))
    refine XE_ret (.inl rfl) (tells_tmps rfl rfl) ⟨_, ⟨?_, rfl⟩, by ((try simp only [List.cons_append, List.nil_append]); repeat (first | exact ent_refl | refine ent_take (by repeat (first | exact Find.here | apply Find.there)) ?_ | refine ent_drop ?_))⟩
    show Value.pointer _ = _
    simp
def cpushP (b : Nat) (ks : Nat → List Int) (c p : Int) : Value → List HP → Prop :=
  if 0 ≤ c ∧ c < 7 ∧ 0 ≤ p ∧ (ks c.toNat).length < 4 then fun v L => v = .bool true ∧ L = [Kc b (upd ks c.toNat (ks c.toNat ++ [p]))] else fun v L => v = .bool false ∧ L = [Kc b ks]
theorem cpush_spec (b : Nat) (ks : Nat → List Int) (c p : Int) : Spec Try.prog 79 [.pointer (some ⟨b, 0, none⟩), .int .i64 c, .int .i64 p] [Kc b ks] (cpushP b ks c p) := by
  refine Spec.intro (IsEnt.out) Try.func79 rfl Try.ntmps79 (by simp) (fun w0 F => ?_)
  simp only [envOf, List.zipIdx, List.map, List.cons_append, List.nil_append, Nat.zero_add, Nat.reduceAdd]
  repeat (first | refine Zq ?_ | refine Zs ?_ | refine ZT ?_ | refine ZF ?_ | refine Zc ?_ | refine XO_gU (hk := ?_))
  refine XO_call (cof_spec b c) (hk := ?_)
  rintro _ _ ⟨rfl, rfl⟩
  by_cases hc : 0 ≤ c ∧ c < 7
  · have ho : ofC b c = some ⟨b, c.toNat * 5, none⟩ := by unfold ofC; rw [if_pos hc]
    rw [ho]
    repeat (first | refine Zq ?_ | refine Zs ?_ | refine ZT ?_ | refine ZF ?_ | refine Zc ?_ | refine XO_gU (hk := ?_))
    refine XO_either (hT := fun h => ?_) (hF := fun h => ?_) <;> simp only [decide_eq_true_eq, decide_eq_false_iff_not] at h
    · have hP : cpushP b ks c p = fun v L => v = .bool false ∧ L = [Kc b ks] := by unfold cpushP; rw [if_neg (by omega)]
      rw [hP]
      repeat (first | refine Zq ?_ | refine Zs ?_ | refine ZT ?_ | refine ZF ?_ | refine Zc ?_ | refine XO_gU (hk := ?_))
      refine X_cond rfl (fun _ => ?_) (fun h => by cases h)
      repeat (first | refine Zq ?_ | refine Zs ?_ | refine ZT ?_ | refine ZF ?_ | refine Zc ?_ | refine XO_gU (hk := ?_))
      refine XE_ret (.inl rfl) (tells_tmps rfl rfl) ⟨_, ⟨rfl, rfl⟩, by ((try simp only [List.cons_append, List.nil_append]); repeat (first | exact ent_refl | refine ent_take (by repeat (first | exact Find.here | apply Find.there)) ?_ | refine ent_drop ?_))⟩
    refine XO_open .here Kc.open ?_
    rintro fl ⟨hl, hk⟩
    dsimp only [List.cons_append, List.nil_append]
    obtain ⟨k1, k2, k3⟩ := hk c.toNat (by omega)
    repeat (first | refine Zq ?_ | refine Zs ?_ | refine ZT ?_ | refine ZF ?_ | refine Zc ?_ | refine XO_gU (hk := ?_))
    refine XO_rv (rv_at (i := c.toNat * 5 + 4)) (hk := ?_)
    rw [k2]
    repeat (first | refine Zq ?_ | refine Zs ?_ | refine ZT ?_ | refine ZF ?_ | refine Zc ?_ | refine XO_gU (hk := ?_))
    refine X_cond rfl (fun h2 => ?_) (fun h2 => ?_)
    · have h3 : ((ks c.toNat).length : Int) = 4 := by simpa using h2
      have hP : cpushP b ks c p = fun v L => v = .bool false ∧ L = [Kc b ks] := by unfold cpushP; rw [if_neg (by omega)]
      rw [hP]
      repeat (first | refine Zq ?_ | refine Zs ?_ | refine ZT ?_ | refine ZF ?_ | refine Zc ?_ | refine XO_gU (hk := ?_))
      refine XE_ret (.inl rfl) (tells_tmps rfl rfl) ⟨_, ⟨rfl, rfl⟩, ?_⟩
      refine ent_fold (by repeat (first | exact FindAll.nil | exact Find.here | apply Find.there | apply FindAll.cons)) (Kc.fold ⟨hl, hk⟩) ?_
      ((try simp only [List.cons_append, List.nil_append]); repeat (first | exact ent_refl | refine ent_take (by repeat (first | exact Find.here | apply Find.there)) ?_ | refine ent_drop ?_))
    · have h3 : ¬ ((ks c.toNat).length : Int) = 4 := by simpa using h2
      have hP : cpushP b ks c p = fun v L => v = .bool true ∧ L = [Kc b (upd ks c.toNat (ks c.toNat ++ [p]))] := by unfold cpushP; rw [if_pos (by omega)]
      rw [hP]
      have hpu := KcRel.push (p := p) ⟨hl, hk⟩ (show c.toNat < 7 by omega) (by omega)
      repeat (first | refine Zq ?_ | refine Zs ?_ | refine ZT ?_ | refine ZF ?_ | refine Zc ?_ | refine XO_gU (hk := ?_))
      repeat (first | refine XD_pick (h := ?_) | refine Dq ?_ | refine Ds ?_ | refine XDi_gF (h := ?_) | refine XDi_gU (h := ?_) | refine X_draws (h := ?_))
      refine XDi_rvA (rv_at (i := c.toNat * 5 + 4)) (h := ?_)
      rw [k2]
      repeat (first | refine XD_pick (h := ?_) | refine Dq ?_ | refine Ds ?_ | refine XDi_gF (h := ?_) | refine XDi_gU (h := ?_) | refine X_draws (h := ?_))
      refine XD_one (h := ?_)
      refine XDa_dvk0 (dv_putAt (kk := .i64) (i := c.toNat * 5 + (ks c.toNat).length * 1)) (K := _) (hk := ?_)
      rintro _ _ rfl
      refine ⟨by (repeat (first | exact keeps_nil | exact keeps_fnil | refine keeps_skip (h := ?_) | refine keeps_takeQ (h := ?_))), ?_⟩
      simp only [Nat.mul_one]
      (refine XD_end (h := ?_); repeat (first | refine Zq ?_ | refine Zs ?_ | refine ZT ?_ | refine ZF ?_ | refine Zc ?_ | refine XO_gU (hk := ?_)))
      refine XO_rv (rv_at (i := c.toNat * 5 + 4) (hl := by simp; omega)) (hk := ?_)
      rw [getD_set (by omega), if_neg (by omega), k2]
      repeat (first | refine Zq ?_ | refine Zs ?_ | refine ZT ?_ | refine ZF ?_ | refine Zc ?_ | refine XO_gU (hk := ?_))
      refine XO_dv0 (dv_putAt (kk := .i64) (i := c.toNat * 5 + 4) (hl := by simp; omega)) (hk := ?_)
      rintro _ _ rfl
      repeat (first | refine Zq ?_ | refine Zs ?_ | refine ZT ?_ | refine ZF ?_ | refine Zc ?_ | refine XO_gU (hk := ?_))
      refine XE_ret (.inl rfl) (tells_tmps rfl rfl) ⟨_, ⟨rfl, rfl⟩, ?_⟩
      refine ent_fold (by repeat (first | exact FindAll.nil | exact Find.here | apply Find.there | apply FindAll.cons)) (Kc.fold hpu) ?_
      ((try simp only [List.cons_append, List.nil_append]); repeat (first | exact ent_refl | refine ent_take (by repeat (first | exact Find.here | apply Find.there)) ?_ | refine ent_drop ?_))
  · have ho : ofC b c = none := by unfold ofC; rw [if_neg hc]
    have hP : cpushP b ks c p = fun v L => v = .bool false ∧ L = [Kc b ks] := by unfold cpushP; rw [if_neg (by omega)]
    rw [ho, hP]
    repeat (first | refine Zq ?_ | refine Zs ?_ | refine ZT ?_ | refine ZF ?_ | refine Zc ?_ | refine XO_gU (hk := ?_))
    refine X_cond rfl (fun _ => ?_) (fun h => by cases h)
    repeat (first | refine Zq ?_ | refine Zs ?_ | refine ZT ?_ | refine ZF ?_ | refine Zc ?_ | refine XO_gU (hk := ?_))
    refine XE_ret (.inl rfl) (tells_tmps rfl rfl) ⟨_, ⟨rfl, rfl⟩, by ((try simp only [List.cons_append, List.nil_append]); repeat (first | exact ent_refl | refine ent_take (by repeat (first | exact Find.here | apply Find.there)) ?_ | refine ent_drop ?_))⟩
def cpopP (b : Nat) (ks : Nat → List Int) (c : Int) : Value → List HP → Prop :=
  if 0 ≤ c ∧ c < 7 ∧ 0 < (ks c.toNat).length then fun v L => v = .tuple #[.int .i64 ((ks c.toNat).getD ((ks c.toNat).length - 1) 0), .bool true] ∧ L = [Kc b (upd ks c.toNat (ks c.toNat).dropLast)] else fun v L => v = .tuple #[.int .i64 0, .bool false] ∧ L = [Kc b ks]
theorem cpop_spec (b : Nat) (ks : Nat → List Int) (c : Int) : Spec Try.prog 71 [.pointer (some ⟨b, 0, none⟩), .int .i64 c] [Kc b ks] (cpopP b ks c) := by
  refine Spec.intro (IsEnt.out) Try.func71 rfl Try.ntmps71 (by simp) (fun w0 F => ?_)
  simp only [envOf, List.zipIdx, List.map, List.cons_append, List.nil_append, Nat.zero_add, Nat.reduceAdd]
  repeat (first | refine Zq ?_ | refine Zs ?_ | refine ZT ?_ | refine ZF ?_ | refine Zc ?_ | refine XO_gU (hk := ?_))
  refine XO_call (cof_spec b c) (hk := ?_)
  rintro _ _ ⟨rfl, rfl⟩
  by_cases hc : 0 ≤ c ∧ c < 7
  · have ho : ofC b c = some ⟨b, c.toNat * 5, none⟩ := by unfold ofC; rw [if_pos hc]
    rw [ho]
    repeat (first | refine Zq ?_ | refine Zs ?_ | refine ZT ?_ | refine ZF ?_ | refine Zc ?_ | refine XO_gU (hk := ?_))
    refine XO_open .here Kc.open ?_
    rintro fl ⟨hl, hk⟩
    dsimp only [List.cons_append, List.nil_append]
    obtain ⟨k1, k2, k3⟩ := hk c.toNat (by omega)
    repeat (first | refine Zq ?_ | refine Zs ?_ | refine ZT ?_ | refine ZF ?_ | refine Zc ?_ | refine XO_gU (hk := ?_))
    refine XO_rv (rv_at (i := c.toNat * 5 + 4)) (hk := ?_)
    rw [k2]
    repeat (first | refine Zq ?_ | refine Zs ?_ | refine ZT ?_ | refine ZF ?_ | refine Zc ?_ | refine XO_gU (hk := ?_))
    refine X_cond rfl (fun h2 => ?_) (fun h2 => ?_)
    · have h3 : ((ks c.toNat).length : Int) = 0 := by simpa using h2
      have hP : cpopP b ks c = fun v L => v = .tuple #[.int .i64 0, .bool false] ∧ L = [Kc b ks] := by unfold cpopP; rw [if_neg (by omega)]
      rw [hP]
      repeat (first | refine Zq ?_ | refine Zs ?_ | refine ZT ?_ | refine ZF ?_ | refine Zc ?_ | refine XO_gU (hk := ?_))
      refine XE_ret (.inl rfl) (tells_tmps rfl rfl) ⟨_, ⟨rfl, rfl⟩, ?_⟩
      refine ent_fold (by repeat (first | exact FindAll.nil | exact Find.here | apply Find.there | apply FindAll.cons)) (Kc.fold ⟨hl, hk⟩) ?_
      ((try simp only [List.cons_append, List.nil_append]); repeat (first | exact ent_refl | refine ent_take (by repeat (first | exact Find.here | apply Find.there)) ?_ | refine ent_drop ?_))
    · have h3 : ¬ ((ks c.toNat).length : Int) = 0 := by simpa using h2
      have hP : cpopP b ks c = fun v L => v = .tuple #[.int .i64 ((ks c.toNat).getD ((ks c.toNat).length - 1) 0), .bool true] ∧ L = [Kc b (upd ks c.toNat (ks c.toNat).dropLast)] := by unfold cpopP; rw [if_pos (by omega)]
      rw [hP]
      have hpo := KcRel.pop ⟨hl, hk⟩ (show c.toNat < 7 by omega)
      have k4 := k3 ((ks c.toNat).length - 1) (by omega)
      have k5 : (((ks c.toNat).length - 1 : Nat) : Int) = ((ks c.toNat).length : Int) - 1 := by omega
      repeat (first | refine Zq ?_ | refine Zs ?_ | refine ZT ?_ | refine ZF ?_ | refine Zc ?_ | refine XO_gU (hk := ?_))
      refine XO_rv (rv_at (i := c.toNat * 5 + 4)) (hk := ?_)
      rw [k2]
      repeat (first | refine Zq ?_ | refine Zs ?_ | refine ZT ?_ | refine ZF ?_ | refine Zc ?_ | refine XO_gU (hk := ?_))
      refine XO_dv0 (dv_putAt (kk := .i64) (i := c.toNat * 5 + 4)) (hk := ?_)
      rintro _ _ rfl
      rw [← k5]
      repeat (first | refine Zq ?_ | refine Zs ?_ | refine ZT ?_ | refine ZF ?_ | refine Zc ?_ | refine XO_gU (hk := ?_))
      repeat (first | refine XD_pick (h := ?_) | refine Dq ?_ | refine Ds ?_ | refine XDi_gF (h := ?_) | refine XDi_gU (h := ?_) | refine X_draws (h := ?_))
      refine XDi_rvA (rv_at (i := c.toNat * 5 + 4) (hl := by simp; omega)) (h := ?_)
      rw [getD_set (by omega), if_pos rfl]
      repeat (first | refine XD_pick (h := ?_) | refine Dq ?_ | refine Ds ?_ | refine XDi_gF (h := ?_) | refine XDi_gU (h := ?_) | refine X_draws (h := ?_))
      refine XDi_rvA (rv_at (i := c.toNat * 5 + ((ks c.toNat).length - 1) * 1) (hl := by simp; omega)) (h := ?_)
      simp only [Nat.mul_one]
      rw [getD_set (by omega), if_neg (by omega), k4]
      repeat (first | refine XD_pick (h := ?_) | refine Dq ?_ | refine Ds ?_ | refine XDi_gF (h := ?_) | refine XDi_gU (h := ?_) | refine X_draws (h := ?_))
      (refine XD_one (h := ?_); refine XDa_dvA (dv_of_rv (rv_of_pv pv_assign)) (hk := ?_); rintro _ _ ⟨rfl, rfl⟩; refine ⟨by (repeat (first | exact keeps_nil | exact keeps_fnil | refine keeps_skip (h := ?_) | refine keeps_takeQ (h := ?_))), ?_⟩)
      (refine XD_one (h := ?_); refine XDa_dvA (dv_of_rv (rv_of_pv pv_assign)) (hk := ?_); rintro _ _ ⟨rfl, rfl⟩; refine ⟨by (repeat (first | exact keeps_nil | exact keeps_fnil | refine keeps_skip (h := ?_) | refine keeps_takeQ (h := ?_))), ?_⟩)
      (refine XD_end (h := ?_); repeat (first | refine Zq ?_ | refine Zs ?_ | refine ZT ?_ | refine ZF ?_ | refine Zc ?_ | refine XO_gU (hk := ?_)))
      refine XE_ret (.inl rfl) (tells_tmps rfl rfl) ⟨_, ⟨rfl, rfl⟩, ?_⟩
      refine ent_fold (by repeat (first | exact FindAll.nil | exact Find.here | apply Find.there | apply FindAll.cons)) (Kc.fold hpo) ?_
      ((try simp only [List.cons_append, List.nil_append]); repeat (first | exact ent_refl | refine ent_take (by repeat (first | exact Find.here | apply Find.there)) ?_ | refine ent_drop ?_))
  · have ho : ofC b c = none := by unfold ofC; rw [if_neg hc]
    have hP : cpopP b ks c = fun v L => v = .tuple #[.int .i64 0, .bool false] ∧ L = [Kc b ks] := by unfold cpopP; rw [if_neg (by omega)]
    rw [ho, hP]
    repeat (first | refine Zq ?_ | refine Zs ?_ | refine ZT ?_ | refine ZF ?_ | refine Zc ?_ | refine XO_gU (hk := ?_))
    refine X_cond rfl (fun _ => ?_) (fun h => by cases h)
    repeat (first | refine Zq ?_ | refine Zs ?_ | refine ZT ?_ | refine ZF ?_ | refine Zc ?_ | refine XO_gU (hk := ?_))
    refine XE_ret (.inl rfl) (tells_tmps rfl rfl) ⟨_, ⟨rfl, rfl⟩, by ((try simp only [List.cons_append, List.nil_append]); repeat (first | exact ent_refl | refine ent_take (by repeat (first | exact Find.here | apply Find.there)) ?_ | refine ent_drop ?_))⟩
theorem clen_spec (b : Nat) (ks : Nat → List Int) (c : Int) (h0 : 0 ≤ c) (h1 : c < 7) : Spec Try.prog 94 [.pointer (some ⟨b, 0, none⟩), .int .i64 c] [Kc b ks] (fun v L => v = .int .i64 ((ks c.toNat).length : Int) ∧ L = [Kc b ks]) := by
  refine Spec.intro (IsEnt.out) Try.func94 rfl Try.ntmps94 (by simp) (fun w0 F => ?_)
  simp only [envOf, List.zipIdx, List.map, List.cons_append, List.nil_append, Nat.zero_add, Nat.reduceAdd]
  repeat (first | refine Zq ?_ | refine Zs ?_ | refine ZT ?_ | refine ZF ?_ | refine Zc ?_ | refine XO_gU (hk := ?_))
  refine XO_call (cof_spec b c) (hk := ?_)
  rintro _ _ ⟨rfl, rfl⟩
  have ho : ofC b c = some ⟨b, c.toNat * 5, none⟩ := by unfold ofC; rw [if_pos ⟨h0, h1⟩]
  rw [ho]
  repeat (first | refine Zq ?_ | refine Zs ?_ | refine ZT ?_ | refine ZF ?_ | refine Zc ?_ | refine XO_gU (hk := ?_))
  refine X_cond rfl (fun h => by cases h) (fun _ => ?_)
  refine X_open .here Kc.open ?_
  rintro fl ⟨hl, hk⟩
  dsimp only [List.cons_append, List.nil_append]
  obtain ⟨k1, k2, k3⟩ := hk c.toNat (by omega)
  repeat (first | refine Zq ?_ | refine Zs ?_ | refine ZT ?_ | refine ZF ?_ | refine Zc ?_ | refine XO_gU (hk := ?_))
  refine XO_rv (rv_at (i := c.toNat * 5 + 4)) (hk := ?_)
  rw [k2]
  repeat (first | refine Zq ?_ | refine Zs ?_ | refine ZT ?_ | refine ZF ?_ | refine Zc ?_ | refine XO_gU (hk := ?_))
  refine XE_ret (.inl rfl) (tells_tmps rfl rfl) ⟨_, ⟨rfl, rfl⟩, ?_⟩
  refine ent_fold (by repeat (first | exact FindAll.nil | exact Find.here | apply Find.there | apply FindAll.cons)) (Kc.fold ⟨hl, hk⟩) ?_
  ((try simp only [List.cons_append, List.nil_append]); repeat (first | exact ent_refl | refine ent_take (by repeat (first | exact Find.here | apply Find.there)) ?_ | refine ent_drop ?_))
def kpages (ks : Nat → List Int) : Nat → Int
  | 0 => 0
  | k + 1 => kpages ks k + (ks k).length * cpages k
def kall (ks : Nat → List Int) : Nat → List (Int × Int)
  | 0 => []
  | k + 1 => kall ks k ++ (ks k).map fun p => (p, cpages k)
end Go.Proofs.Ytgoocobeoejoaaa.Sep
namespace Go.Proofs.Ytgoocobeoejoaaa.Sep
open Go.RowKit
set_option linter.unusedSimpArgs false
set_option linter.unusedVariables false
set_option maxHeartbeats 8000000
attribute [local irreducible] X XE XO XD XDi XDa PV RV DV pt base Spec Sl Mp Keeps Kc

theorem Kc.bound {b : Nat} {ks : Nat → List Int} : ∀ H, Kc b ks H → ∀ k, k < 7 → (ks k).length ≤ 4 := by
  intro H h
  unfold Kc at h
  obtain ⟨fl, h, _⟩ := h
  exact fun k hk => (h.2 k hk).1
theorem cpages_le (k : Nat) (h : k < 7) : 1 ≤ cpages k ∧ cpages k ≤ 64 := by
  have : k = 0 ∨ k = 1 ∨ k = 2 ∨ k = 3 ∨ k = 4 ∨ k = 5 ∨ k = 6 := by omega
  rcases this with rfl | rfl | rfl | rfl | rfl | rfl | rfl <;> decide
theorem kmul_le {n : Nat} {k : Nat} (h : k < 7) (hn : n ≤ 4) : 0 ≤ (n : Int) * cpages k ∧ (n : Int) * cpages k ≤ 256 := by
  obtain ⟨h1, h2⟩ := cpages_le k h
  refine ⟨Int.mul_nonneg (by omega) (by omega), ?_⟩
  have := Int.mul_le_mul (show (n : Int) ≤ 4 by omega) h2 (by omega) (by decide)
  omega
theorem kpages_le {ks : Nat → List Int} (hb : ∀ k, k < 7 → (ks k).length ≤ 4) : ∀ k, k ≤ 7 → 0 ≤ kpages ks k ∧ kpages ks k ≤ 256 * k
  | 0, _ => by simp [kpages]
  | k + 1, h => by
    have h1 := kpages_le hb k (by omega)
    have h2 := kmul_le (n := (ks k).length) (show k < 7 by omega) (hb k (by omega))
    simp only [kpages]
    push_cast
    omega
theorem kall_le {ks : Nat → List Int} (hb : ∀ k, k < 7 → (ks k).length ≤ 4) : ∀ k, k ≤ 7 → (kall ks k).length ≤ 4 * k
  | 0, _ => by simp [kall]
  | k + 1, h => by
    have h1 := kall_le hb k (by omega)
    have h2 := hb k (by omega)
    simp only [kall, List.length_append, List.length_map]
    omega
theorem cclear_spec (b : Nat) (ks : Nat → List Int) : Spec Try.prog 86 [.pointer (some ⟨b, 0, none⟩)] [Kc b ks] (fun v L => v = .tuple #[] ∧ L = [Kc b (fun _ => [])]) := by
  refine Spec.intro (IsEnt.out) Try.func86 rfl Try.ntmps86 (by simp) (fun w0 F => ?_)
  simp only [envOf, List.zipIdx, List.map, List.cons_append, List.nil_append, Nat.zero_add, Nat.reduceAdd]
  repeat (first | refine Zq ?_ | refine Zs ?_ | refine ZT ?_ | refine ZF ?_ | refine Zc ?_ | refine XO_gU (hk := ?_))
  refine X_cond rfl (fun _ => ?_) (fun h => by cases h)
  refine X_open .here Kc.open ?_
  rintro fl ⟨hl, hk⟩
  dsimp only [List.cons_append, List.nil_append]
  repeat (first | refine Zq ?_ | refine Zs ?_ | refine ZT ?_ | refine ZF ?_ | refine Zc ?_ | refine XO_gU (hk := ?_))
  refine XO_dv0 (dv_putAll (E' := eI .i64) (ys := List.replicate 35 0) (hl := by simp [hl])) (hk := ?_)
  rintro _ _ rfl
  repeat (first | refine Zq ?_ | refine Zs ?_ | refine ZT ?_ | refine ZF ?_ | refine Zc ?_ | refine XO_gU (hk := ?_))
  refine XE_ret (.inr rfl) (tells_tmps rfl rfl) ⟨_, ⟨rfl, rfl⟩, ?_⟩
  refine ent_fold (by repeat (first | exact FindAll.nil | exact Find.here | apply Find.there | apply FindAll.cons)) (Kc.fold KcRel.none) ?_
  ((try simp only [List.cons_append, List.nil_append]); repeat (first | exact ent_refl | refine ent_take (by repeat (first | exact Find.here | apply Find.there)) ?_ | refine ent_drop ?_))
theorem kc_list {fl : List Int} {ks : Nat → List Int} {k : Nat} (h : KcRel fl ks) (hk : k < 7) : ((fl.drop (k * 5)).take 4).take (ks k).length = ks k := by
  obtain ⟨hl, h⟩ := h
  obtain ⟨h1, h2, h3⟩ := h k hk
  apply List.ext_getElem?
  intro j
  rw [List.take_take, Nat.min_eq_left h1]
  by_cases hj : j < (ks k).length
  · rw [List.getElem?_take_of_lt hj, List.getElem?_drop]
    have := h3 j hj
    have hlt : k * 5 + j < fl.length := by omega
    simp only [List.getD, List.getElem?_eq_getElem hj, List.getElem?_eq_getElem hlt, Option.getD_some] at this
    rw [List.getElem?_eq_getElem hj, List.getElem?_eq_getElem hlt, this]
  · rw [List.getElem?_eq_none (by simp; omega), List.getElem?_eq_none (by omega)]
theorem call_spec (b : Nat) (ks : Nat → List Int) : Spec Try.prog 85 [.pointer (some ⟨b, 0, none⟩)] [Kc b ks] (fun v L => ∃ a c, v = .slice a (kall ks 7).length c ∧ L = [Kc b ks, Sl eRun a c (kall ks 7)]) := by
  refine Spec.intro (IsEnt.out) Try.func85 rfl Try.ntmps85 (by simp) (fun w0 F => ?_)
  simp only [envOf, List.zipIdx, List.map, List.cons_append, List.nil_append, Nat.zero_add, Nat.reduceAdd]
  refine X_fact (A := Kc b ks) .here Kc.bound (fun hb => ?_)
  refine X_conv (fun _ => SL_nilSl eRun) ?_
  repeat (first | refine Zq ?_ | refine Zs ?_ | refine ZT ?_ | refine ZF ?_ | refine Zc ?_ | refine XO_gU (hk := ?_))
  refine X_loop (ι := Nat × Option Addr × Nat) (fun q => q.1 ≤ 7) (fun q => [(0, .pointer (some ⟨b, 0, none⟩)), (8, .int .i64 (q.1 : Int)), (3, .slice q.2.1 (kall ks q.1).length q.2.2)]) (fun q => Kc b ks :: Sl eRun q.2.1 q.2.2 (kall ks q.1) :: F) (fun q => 7 - q.1) (0, none, 0) (Nat.zero_le _) ?_ (by ((try simp only [List.cons_append, List.nil_append]); repeat (first | exact ent_refl | refine ent_take (by repeat (first | exact Find.here | apply Find.there)) ?_ | refine ent_drop ?_))) ?_
  · (repeat (first | exact Env.sub_nil _ | refine Env.sub_cons rfl ?_))
  rintro ⟨k, a, c⟩ hk
  dsimp only at hk ⊢
  repeat (first | refine Zq ?_ | refine Zs ?_ | refine ZT ?_ | refine ZF ?_ | refine Zc ?_ | refine XO_gU (hk := ?_))
  refine X_cond rfl (fun hc => ?_) (fun hc => ?_) <;> simp only [decide_eq_true_eq, decide_eq_false_iff_not] at hc
  · have hk7 : k < 7 := by omega
    have hbk := hb k hk7
    have hkl := kall_le hb k hk
    repeat (first | refine Zq ?_ | refine Zs ?_ | refine ZT ?_ | refine ZF ?_ | refine Zc ?_ | refine XO_gU (hk := ?_))
    refine XO_call (clen_spec b ks k (by omega) (by omega)) (hk := ?_)
    rintro _ _ ⟨rfl, rfl⟩
    simp only [Int.toNat_natCast]
    repeat (first | refine Zq ?_ | refine Zs ?_ | refine ZT ?_ | refine ZF ?_ | refine Zc ?_ | refine XO_gU (hk := ?_))
    refine XO_dv (dv_makeSlice (E' := eI .i64) 0) (hk := ?_)
    rintro _ _ ⟨nb, rfl, rfl⟩
    simp only [Int.toNat_natCast]
    repeat (first | refine Zq ?_ | refine Zs ?_ | refine ZT ?_ | refine ZF ?_ | refine Zc ?_ | refine XO_gU (hk := ?_))
    refine X_join (ι := Unit) (fun _ => True) (fun _ => [(0, .pointer (some ⟨b, 0, none⟩)), (8, .int .i64 (k : Int)), (4, .int .i64 (k : Int)), (3, .slice a (kall ks k).length c), (5, .slice (some ⟨nb, 0, none⟩) (ks k).length (ks k).length)]) (fun _ => Kc b ks :: Sl eRun a c (kall ks k) :: Sl (eI .i64) (some ⟨nb, 0, none⟩) (ks k).length (ks k) :: F) ?_ ?_
    · refine X_cond rfl (fun h => ?_) (fun h => ?_) <;> simp only [decide_eq_true_eq, decide_eq_false_iff_not] at h
      · refine X_open (by (repeat (first | exact Find.here | apply Find.there))) Kc.open ?_
        rintro fl hrel
        dsimp only [List.cons_append, List.nil_append]
        have hli := kc_list hrel hk7
        have hV : View (Sl (eI .i64) (some ⟨b, 0, none⟩) 35 fl) (eI .i64) (some ⟨b, k * 5, none⟩) (ks k) := by
          rw [← hli]; exact View.take _ (View.take _ (view_at (k * 5) Sl.view))
        obtain ⟨zs, hz, hzl⟩ : ∃ zs, zs = List.replicate (ks k).length (0 : Int) ∧ zs.length = (ks k).length := ⟨_, rfl, by simp⟩
        rw [← hz]
        repeat (first | refine Zq ?_ | refine Zs ?_ | refine ZT ?_ | refine ZF ?_ | refine Zc ?_ | refine XO_gU (hk := ?_))
        refine XO_dv (dv_copy (E' := eI .i64) (ys := ks k) (xs := zs) (m := 4) (a2 := some ⟨b, k * 5, none⟩) (A := Sl (eI .i64) (some ⟨b, 0, none⟩) 35 fl) (hx := by rw [hzl]; rfl) (hv := hV) (hn := by rw [hzl]; omega)) (hk := ?_)
        rintro _ _ ⟨rfl, rfl⟩
        rw [show ks k ++ zs.drop (ks k).length = ks k from by rw [List.drop_of_length_le (by omega), List.append_nil]]
        repeat (first | refine Zq ?_ | refine Zs ?_ | refine ZT ?_ | refine ZF ?_ | refine Zc ?_ | refine XO_gU (hk := ?_))
        refine X_meet () trivial (by (repeat (first | exact Env.sub_nil _ | refine Env.sub_cons rfl ?_))) ?_
        (try simp only [List.cons_append, List.nil_append])
        refine ent_fold (by repeat (first | exact FindAll.nil | exact Find.here | apply Find.there | apply FindAll.cons)) (Kc.fold hrel) ?_
        ((try simp only [List.cons_append, List.nil_append]); repeat (first | exact ent_refl | refine ent_take (by repeat (first | exact Find.here | apply Find.there)) ?_ | refine ent_drop ?_))
      · have h0 : ks k = [] := List.length_eq_zero_iff.1 (by omega)
        repeat (first | refine Zq ?_ | refine Zs ?_ | refine ZT ?_ | refine ZF ?_ | refine Zc ?_ | refine XO_gU (hk := ?_))
        refine X_meet () trivial (by (repeat (first | exact Env.sub_nil _ | refine Env.sub_cons rfl ?_))) ?_
        rw [h0]
        ((try simp only [List.cons_append, List.nil_append]); repeat (first | exact ent_refl | refine ent_take (by repeat (first | exact Find.here | apply Find.there)) ?_ | refine ent_drop ?_))
    · rintro - -
      repeat (first | refine Zq ?_ | refine Zs ?_ | refine ZT ?_ | refine ZF ?_ | refine Zc ?_ | refine XO_gU (hk := ?_))
      refine X_loop (ι := Nat × Option Addr × Nat) (fun q => q.1 ≤ (ks k).length) (fun q => [(0, .pointer (some ⟨b, 0, none⟩)), (8, .int .i64 (k : Int)), (4, .int .i64 (k : Int)), (27, .slice (some ⟨nb, 0, none⟩) (ks k).length (ks k).length), (28, .int .i64 ((ks k).length : Int)), (29, .int .i64 (q.1 : Int)), (3, .slice q.2.1 (kall ks k ++ ((ks k).take q.1).map fun p => (p, cpages k)).length q.2.2)])
        (fun q => Kc b ks :: Sl eRun q.2.1 q.2.2 (kall ks k ++ ((ks k).take q.1).map fun p => (p, cpages k)) :: Sl (eI .i64) (some ⟨nb, 0, none⟩) (ks k).length (ks k) :: F) (fun q => (ks k).length - q.1) (0, a, c) (Nat.zero_le _) ?_ ?_ ?_
      · simp only [List.take_zero, List.map_nil, List.append_nil]; (repeat (first | exact Env.sub_nil _ | refine Env.sub_cons rfl ?_))
      · simp only [List.take_zero, List.map_nil, List.append_nil]; ((try simp only [List.cons_append, List.nil_append]); repeat (first | exact ent_refl | refine ent_take (by repeat (first | exact Find.here | apply Find.there)) ?_ | refine ent_drop ?_))
      rintro ⟨j, a2, c2⟩ hj
      dsimp only at hj ⊢
      repeat (first | refine Zq ?_ | refine Zs ?_ | refine ZT ?_ | refine ZF ?_ | refine Zc ?_ | refine XO_gU (hk := ?_))
      refine X_cond rfl (fun hc2 => ?_) (fun hc2 => ?_) <;> simp only [decide_eq_true_eq, decide_eq_false_iff_not] at hc2
      · have hjl : j < (ks k).length := by omega
        repeat (first | refine Zq ?_ | refine Zs ?_ | refine ZT ?_ | refine ZF ?_ | refine Zc ?_ | refine XO_gU (hk := ?_))
        refine XO_rv (rv_elG (E' := eI .i64) (i := j) (s := 1) (x' := (ks k)[j]) (hget := by simp [hjl])) (hk := ?_)
        repeat (first | refine Zq ?_ | refine Zs ?_ | refine ZT ?_ | refine ZF ?_ | refine Zc ?_ | refine XO_gU (hk := ?_))
        refine XO_call (cpages_spec k) (hk := ?_)
        rintro _ _ ⟨rfl, rfl⟩
        repeat (first | refine Zq ?_ | refine Zs ?_ | refine ZT ?_ | refine ZF ?_ | refine Zc ?_ | refine XO_gU (hk := ?_))
        refine XO_dv (dv_lit (E' := eRun) [((ks k)[j], cpages k)]) (hk := ?_)
        rintro _ _ ⟨lb, rfl, rfl⟩
        repeat (first | refine Zq ?_ | refine Zs ?_ | refine ZT ?_ | refine ZF ?_ | refine Zc ?_ | refine XO_gU (hk := ?_))
        refine XO_dv (dv_append (E' := eRun) (xs := kall ks k ++ ((ks k).take j).map fun p => (p, cpages k)) (ys := [((ks k)[j], cpages k)]) (A := Sl eRun (some ⟨lb, 0, none⟩) 1 [((ks k)[j], cpages k)]) (a := a2) (a2 := some ⟨lb, 0, none⟩) (c := c2) (c2 := 1) (hv := Sl.view) (hb := by simp; omega)) (hk := ?_)
        rintro _ _ ⟨a3, c3, rfl, rfl⟩
        have hs : (kall ks k ++ ((ks k).take j).map fun p => (p, cpages k)) ++ [((ks k)[j], cpages k)] = kall ks k ++ ((ks k).take (j + 1)).map fun p => (p, cpages k) := by
          rw [List.take_succ_eq_append_getElem hjl, List.map_append, List.append_assoc]; rfl
        rw [hs]
        repeat (first | refine Zq ?_ | refine Zs ?_ | refine ZT ?_ | refine ZF ?_ | refine Zc ?_ | refine XO_gU (hk := ?_))
        refine X_round (j + 1, a3, c3) (by show j + 1 ≤ _; omega) (by show (ks k).length - (j + 1) < (ks k).length - j; omega) (by (repeat (first | exact Env.sub_nil _ | refine Env.sub_cons rfl ?_))) (by ((try simp only [List.cons_append, List.nil_append]); repeat (first | exact ent_refl | refine ent_take (by repeat (first | exact Find.here | apply Find.there)) ?_ | refine ent_drop ?_)))
      · obtain rfl : j = (ks k).length := by omega
        rw [List.take_length]
        repeat (first | refine Zq ?_ | refine Zs ?_ | refine ZT ?_ | refine ZF ?_ | refine Zc ?_ | refine XO_gU (hk := ?_))
        refine X_round (k + 1, a2, c2) (by show k + 1 ≤ 7; omega) (by show 7 - (k + 1) < 7 - k; omega) (by (repeat (first | exact Env.sub_nil _ | refine Env.sub_cons rfl ?_))) (by ((try simp only [List.cons_append, List.nil_append]); repeat (first | exact ent_refl | refine ent_take (by repeat (first | exact Find.here | apply Find.there)) ?_ | refine ent_drop ?_)))
  · obtain rfl : k = 7 := by omega
    repeat (first | refine Zq ?_ | refine Zs ?_ | refine ZT ?_ | refine ZF ?_ | refine Zc ?_ | refine XO_gU (hk := ?_))
    refine XE_ret (.inl rfl) (tells_tmps rfl rfl) ⟨_, ⟨a, c, rfl, rfl⟩, by ((try simp only [List.cons_append, List.nil_append]); repeat (first | exact ent_refl | refine ent_take (by repeat (first | exact Find.here | apply Find.there)) ?_ | refine ent_drop ?_))⟩
end Go.Proofs.Ytgoocobeoejoaaa.Sep
namespace Go.Proofs.Ytgoocobeoejoaaa.Sep
open Go.RowKit
set_option linter.unusedSimpArgs false
set_option linter.unusedVariables false
/-! pages, what is free, what is kept: what is computed -/
structure Co where
  P : Int
  fr : List (Int × Int)
  ks : Nat → List Int
  t : Int
structure CoOk (C : Co) : Prop where
  p1 : 1 ≤ C.P
  p2 : C.P ≤ 1048576
  right : RightFrom C.P 0 C.fr
  kept : ∀ k, k < 7 → (C.ks k).length ≤ 4 ∧ ∀ p ∈ C.ks k, 0 ≤ p ∧ p ≤ 1048576
def giveC (C : Co) (r : Int × Int) : Co := ⟨C.P, (giveI C.fr C.P r.1 r.2).getD C.fr, C.ks, if (giveI C.fr C.P r.1 r.2).isSome = true then tickI C.t C.fr.length else C.t⟩
def putC (C : Co) (r : Int × Int) : Co :=
  if cpages (cclass r.2) = r.2 ∧ 0 ≤ cclass r.2 ∧ cclass r.2 < 7 ∧ 0 ≤ r.1 ∧ (C.ks (cclass r.2).toNat).length < 4 then ⟨C.P, C.fr, upd C.ks (cclass r.2).toNat (C.ks (cclass r.2).toNat ++ [r.1]), C.t⟩ else giveC C r
def takeC (C : Co) (n : Int) : Co × Int × Int := if n < 1 then (C, 0, 1) else match takeI C.fr n with
  | none => (C, 0, 4)
  | some q => (⟨C.P, q.2, C.ks, tickI C.t C.fr.length⟩, q.1, 0)
def trimC (C : Co) : Co := ⟨C.P, ((kall C.ks 7).foldl giveC C).fr, fun _ => [], ((kall C.ks 7).foldl giveC C).t⟩
def trimN (C : Co) : Int := totI (kall C.ks 7)
def getC (C : Co) (n : Int) : Co × Int × Int :=
  if 0 ≤ cclass n ∧ cclass n < 7 ∧ 0 < (C.ks (cclass n).toNat).length then (⟨C.P, C.fr, upd C.ks (cclass n).toNat (C.ks (cclass n).toNat).dropLast, C.t⟩, (C.ks (cclass n).toNat).getD ((C.ks (cclass n).toNat).length - 1) 0, 0)
  else if (takeC C n).2.2 = 4 then (if 0 < trimN C then takeC (trimC C) n else (trimC C, (takeC C n).2)) else takeC C n
theorem giveC_ok {C : Co} (h : CoOk C) (r : Int × Int) : CoOk (giveC C r) := by
  refine ⟨h.p1, h.p2, ?_, h.kept⟩
  show RightFrom C.P 0 ((giveI C.fr C.P r.1 r.2).getD C.fr)
  cases hg : giveI C.fr C.P r.1 r.2 with
  | none => exact h.right
  | some ys => exact (giveI_right h.right hg).1
theorem fold_ok : ∀ (l : List (Int × Int)) {C : Co}, CoOk C → CoOk (l.foldl giveC C)
  | [], _, h => h
  | r :: l, _, h => fold_ok l (giveC_ok h r)
theorem fold_P : ∀ (l : List (Int × Int)) (C : Co), (l.foldl giveC C).P = C.P ∧ (l.foldl giveC C).ks = C.ks
  | [], _ => ⟨rfl, rfl⟩
  | r :: l, C => fold_P l (giveC C r)
theorem trimC_ok {C : Co} (h : CoOk C) : CoOk (trimC C) := by
  have := fold_ok (kall C.ks 7) h
  have h1 := this.right
  rw [(fold_P _ C).1] at h1
  exact ⟨h.p1, h.p2, h1, fun k hk => ⟨Nat.zero_le _, fun p hp => by cases hp⟩⟩
theorem takeC_ok {C : Co} (h : CoOk C) (n : Int) : CoOk (takeC C n).1 := by
  unfold takeC
  split
  · exact h
  · cases ht : takeI C.fr n with
    | none => exact h
    | some q =>
      obtain ⟨p, ys⟩ := q
      exact ⟨h.p1, h.p2, (takeI_right h.right ht).1, h.kept⟩
theorem upd_ok {C : Co} (h : CoOk C) {c : Nat} {l : List Int} (hl : l.length ≤ 4) (hm : ∀ p ∈ l, 0 ≤ p ∧ p ≤ 1048576) : CoOk ⟨C.P, C.fr, upd C.ks c l, C.t⟩ := by
  refine ⟨h.p1, h.p2, h.right, fun k hk => ?_⟩
  show (upd C.ks c l k).length ≤ 4 ∧ ∀ p ∈ upd C.ks c l k, _
  unfold upd
  split
  · exact ⟨hl, hm⟩
  · exact h.kept k hk
theorem putC_ok {C : Co} (h : CoOk C) {r : Int × Int} (hr : r.1 ≤ 1048576) : CoOk (putC C r) := by
  unfold putC
  split
  · rename_i hc
    refine upd_ok h (by simp; omega) fun p hp => ?_
    rcases List.mem_append.1 hp with hp | hp
    · exact (h.kept _ (by omega)).2 p hp
    · simp at hp; subst hp; exact ⟨hc.2.2.2.1, hr⟩
  · exact giveC_ok h r
theorem getC_ok {C : Co} (h : CoOk C) (n : Int) : CoOk (getC C n).1 := by
  unfold getC
  split
  · rename_i hc
    have := h.kept (cclass n).toNat (by omega)
    exact upd_ok h (by simp; omega) fun p hp => this.2 p ((List.dropLast_sublist _).mem hp)
  · split
    · split
      · exact takeC_ok (trimC_ok h) n
      · exact trimC_ok h
    · exact takeC_ok h n
theorem kall_mem {ks : Nat → List Int} : ∀ {k : Nat} {r : Int × Int}, r ∈ kall ks k → ∃ j, j < k ∧ r.1 ∈ ks j ∧ r.2 = cpages j
  | 0, r, h => by cases h
  | k + 1, r, h => by
    rcases List.mem_append.1 h with h | h
    · obtain ⟨j, h1, h2⟩ := kall_mem h; exact ⟨j, by omega, h2⟩
    · obtain ⟨p, hp, rfl⟩ := List.mem_map.1 h
      exact ⟨k, by omega, hp, rfl⟩
theorem kall_bd {C : Co} (h : CoOk C) {r : Int × Int} (hr : r ∈ kall C.ks 7) : 0 ≤ r.1 ∧ r.1 ≤ 1048576 ∧ 1 ≤ r.2 ∧ r.2 ≤ 64 := by
  obtain ⟨j, hj, h1, h2⟩ := kall_mem hr
  have h3 := (h.kept j hj).2 _ h1
  have h4 := cpages_le j hj
  rw [h2]; omega
theorem tot_le {l : List (Int × Int)} (h : ∀ r ∈ l, 1 ≤ r.2 ∧ r.2 ≤ 64) : 0 ≤ totI l ∧ totI l ≤ 64 * l.length := by
  induction l with
  | nil => simp [totI]
  | cons r l ih =>
    have h1 := h r (by simp)
    have h2 := ih fun q hq => h q (by simp [hq])
    rw [tot_cons]; simp; omega
section
attribute [local irreducible] Pg
theorem give_step {b : Nat} {t : Int} {D : Co} {r : Int × Int} {v : Value} {L : List HP} (h : giveP b D.P D.fr t r.1 r.2 v L) : ∃ w t', v = .int .i64 w ∧ L = [Pg b (giveC D r).P (giveC D r).fr t'] := by
  unfold giveP at h
  cases hg : giveI D.fr D.P r.1 r.2 with
  | none =>
    rw [hg] at h
    have : (giveC D r).fr = D.fr := by show (giveI D.fr D.P r.1 r.2).getD D.fr = _; rw [hg]; rfl
    rw [this]
    exact ⟨_, _, h.1, h.2⟩
  | some ys =>
    rw [hg] at h
    have : (giveC D r).fr = ys := by show (giveI D.fr D.P r.1 r.2).getD D.fr = _; rw [hg]; rfl
    rw [this]
    exact ⟨_, _, h.1, h.2⟩
theorem take_step {b : Nat} {t n : Int} {C : Co} {v : Value} {L : List HP} (h : takeP b C.P C.fr t n v L) : ∃ t', v = .tuple #[.int .i64 (takeC C n).2.1, .int .i64 (takeC C n).2.2] ∧ L = [Pg b C.P (takeC C n).1.fr t'] := by
  unfold takeP at h
  unfold takeC
  split at h
  · rename_i hn
    rw [if_pos hn]
    exact ⟨_, h.1, h.2⟩
  · rename_i hn
    rw [if_neg hn]
    cases ht : takeI C.fr n with
    | none => rw [ht] at h; exact ⟨_, h.1, h.2⟩
    | some q => rw [ht] at h; exact ⟨_, h.1, h.2⟩
def giveE (C : Co) (r : Int × Int) : Int := if (giveI C.fr C.P r.1 r.2).isSome = true then 0 else 1
theorem give_stepT {b : Nat} {D : Co} {r : Int × Int} {v : Value} {L : List HP} (h : giveP b D.P D.fr D.t r.1 r.2 v L) : v = .int .i64 (giveE D r) ∧ L = [Pg b (giveC D r).P (giveC D r).fr (giveC D r).t] := by
  unfold giveP at h
  unfold giveE giveC
  cases hg : giveI D.fr D.P r.1 r.2 with
  | none => rw [hg] at h; exact h
  | some ys => rw [hg] at h; exact h
theorem take_stepT {b : Nat} {n : Int} {C : Co} {v : Value} {L : List HP} (h : takeP b C.P C.fr C.t n v L) : v = .tuple #[.int .i64 (takeC C n).2.1, .int .i64 (takeC C n).2.2] ∧ L = [Pg b C.P (takeC C n).1.fr (takeC C n).1.t] := by
  unfold takeP at h
  unfold takeC
  split at h
  · rename_i hn
    rw [if_pos hn]
    exact h
  · rename_i hn
    rw [if_neg hn]
    cases ht : takeI C.fr n with
    | none => rw [ht] at h; exact h
    | some q => rw [ht] at h; exact h
theorem takeC_P (C : Co) (n : Int) : (takeC C n).1.P = C.P ∧ (takeC C n).1.ks = C.ks := by
  unfold takeC
  split
  · exact ⟨rfl, rfl⟩
  · cases takeI C.fr n <;> exact ⟨rfl, rfl⟩
theorem takeC_full {C : Co} {n : Int} (h : (takeC C n).2.2 = 4) : (takeC C n).1 = C ∧ (takeC C n).2 = (0, 4) := by
  unfold takeC at h ⊢
  split
  · rename_i hn
    rw [if_pos hn] at h; cases h
  · rename_i hn
    rw [if_neg hn] at h
    cases ht : takeI C.fr n with
    | none => exact ⟨rfl, rfl⟩
    | some q => rw [ht] at h; cases h
end
end Go.Proofs.Ytgoocobeoejoaaa.Sep
namespace Go.Proofs.Ytgoocobeoejoaaa.Sep
open Go.RowKit
set_option linter.unusedSimpArgs false
set_option linter.unusedVariables false
/-! a store of chunks: its pages, and what is kept; its space stands beside it -/
def Ck (s sb : Nat) (C : Co) : HP := fun H => ∃ x : Nat × Nat, SL [pt s (.cells [.pointer (some ⟨x.1, 0, none⟩), .pointer (some ⟨sb, 0, none⟩), .pointer (some ⟨x.2, 0, none⟩)].toArray 65 (0, 0)), Pg x.1 C.P C.fr C.t, Kc x.2 C.ks] H
theorem Ck.open {s sb : Nat} {C : Co} : ∀ H, Ck s sb C H → ∃ x : Nat × Nat, True ∧ SL [pt s (.cells [.pointer (some ⟨x.1, 0, none⟩), .pointer (some ⟨sb, 0, none⟩), .pointer (some ⟨x.2, 0, none⟩)].toArray 65 (0, 0)), Pg x.1 C.P C.fr C.t, Kc x.2 C.ks] H := fun H ⟨x, h⟩ => ⟨x, trivial, h⟩
theorem Ck.fold {s sb pb kb : Nat} {C : Co} : ∀ H, SL [pt s (.cells [.pointer (some ⟨pb, 0, none⟩), .pointer (some ⟨sb, 0, none⟩), .pointer (some ⟨kb, 0, none⟩)].toArray 65 (0, 0)), Pg pb C.P C.fr C.t, Kc kb C.ks] H → Ck s sb C H := fun H h => ⟨(pb, kb), h⟩
set_option maxHeartbeats 8000000
attribute [local irreducible] X XE XO XD XDi XDa PV RV DV pt base Spec Sl Mp Keeps Pg Kc Pgs Spc
theorem ctrim_spec (l sb : Nat) (C : Co) (h : CoOk C) : Spec Try.prog 74 [.pointer (some ⟨l, 0, none⟩)] [Ck l sb C] (fun v L => v = .int .i64 (trimN C) ∧ L = [Ck l sb (trimC C)]) := by
  refine Spec.intro (IsEnt.out) Try.func74 rfl Try.ntmps74 (by simp) (fun w0 F => ?_)
  simp only [envOf, List.zipIdx, List.map, List.cons_append, List.nil_append, Nat.zero_add, Nat.reduceAdd]
  repeat (first | refine Zq ?_ | refine Zs ?_ | refine ZT ?_ | refine ZF ?_ | refine Zc ?_ | refine XO_gU (hk := ?_))
  refine X_cond rfl (fun h => by cases h) (fun _ => ?_)
  refine X_open .here Ck.open ?_
  rintro ⟨pb, kb⟩ -
  dsimp only [List.cons_append, List.nil_append]
  have hkl := kall_le (fun k hk => (h.kept k hk).1) 7 (Nat.le_refl _)
  repeat (first | refine Zq ?_ | refine Zs ?_ | refine ZT ?_ | refine ZF ?_ | refine Zc ?_ | refine XO_gU (hk := ?_))
  refine XO_call (call_spec kb C.ks) (hk := ?_)
  rintro _ _ ⟨a, c, rfl, rfl⟩
  repeat (first | refine Zq ?_ | refine Zs ?_ | refine ZT ?_ | refine ZF ?_ | refine Zc ?_ | refine XO_gU (hk := ?_))
  refine X_loop (ι := Nat) (fun q => q ≤ (kall C.ks 7).length) (fun q => [(0, .pointer (some ⟨l, 0, none⟩)), (12, .slice a (kall C.ks 7).length c), (13, .int .i64 ((kall C.ks 7).length : Int)), (14, .int .i64 (q : Int)), (3, .int .i64 (totI ((kall C.ks 7).take q)))])
    (fun q => pt l (.cells [.pointer (some ⟨pb, 0, none⟩), .pointer (some ⟨sb, 0, none⟩), .pointer (some ⟨kb, 0, none⟩)].toArray 65 (0, 0)) :: Pg pb (((kall C.ks 7).take q).foldl giveC C).P (((kall C.ks 7).take q).foldl giveC C).fr (((kall C.ks 7).take q).foldl giveC C).t :: Kc kb C.ks :: Sl eRun a c (kall C.ks 7) :: F) (fun q => (kall C.ks 7).length - q) 0 (Nat.zero_le _) ?_ (by ((try simp only [List.cons_append, List.nil_append]); repeat (first | exact ent_refl | refine ent_take (by repeat (first | exact Find.here | apply Find.there)) ?_ | refine ent_drop ?_))) ?_
  · (repeat (first | exact Env.sub_nil _ | refine Env.sub_cons rfl ?_))
  rintro k hk
  dsimp only at hk ⊢
  repeat (first | refine Zq ?_ | refine Zs ?_ | refine ZT ?_ | refine ZF ?_ | refine Zc ?_ | refine XO_gU (hk := ?_))
  refine X_cond rfl (fun hc => ?_) (fun hc => ?_) <;> simp only [decide_eq_true_eq, decide_eq_false_iff_not] at hc
  · have hkl2 : k < (kall C.ks 7).length := by omega
    have hD := fold_ok ((kall C.ks 7).take k) h
    have hr := kall_bd h (List.getElem_mem hkl2)
    have htk : (kall C.ks 7).take (k + 1) = (kall C.ks 7).take k ++ [(kall C.ks 7)[k]] := List.take_succ_eq_append_getElem hkl2
    have hs : totI ((kall C.ks 7).take (k + 1)) = totI ((kall C.ks 7).take k) + (kall C.ks 7)[k].2 := by
      rw [htk, tot_append]; simp [totI]
    have hb1 := tot_le (l := (kall C.ks 7).take k) (fun r hr => (kall_bd h (List.mem_of_mem_take hr)).2.2)
    have hb2 : ((kall C.ks 7).take k).length ≤ 28 := by simp; omega
    have hfo : ((kall C.ks 7).take (k + 1)).foldl giveC C = giveC (((kall C.ks 7).take k).foldl giveC C) (kall C.ks 7)[k] := by rw [htk, List.foldl_append]; rfl
    refine X_slopen (E' := eRun) (a := a) (c := c) (xs := kall C.ks 7) (by (repeat (first | exact Find.here | apply Find.there))) (by omega) ?_
    rintro b o rfl
    repeat (first | refine Zq ?_ | refine Zs ?_ | refine ZT ?_ | refine ZF ?_ | refine Zc ?_ | refine XO_gU (hk := ?_))
    refine XO_rv (rv_elG (E' := eRun) (i := k) (x' := (kall C.ks 7)[k]) (hget := by simp [hkl2])) (hk := ?_)
    repeat (first | refine Zq ?_ | refine Zs ?_ | refine ZT ?_ | refine ZF ?_ | refine Zc ?_ | refine XO_gU (hk := ?_))
    (refine XO_dv dv_alloc (hk := ?_); rintro _ _ ⟨cb, rfl, rfl⟩; (repeat (first | refine Zq ?_ | refine Zs ?_ | refine ZT ?_ | refine ZF ?_ | refine Zc ?_ | refine XO_gU (hk := ?_))); refine XO_dv0 dv_storeW (hk := ?_); rintro _ _ rfl; (repeat (first | refine Zq ?_ | refine Zs ?_ | refine ZT ?_ | refine ZF ?_ | refine Zc ?_ | refine XO_gU (hk := ?_))))
    repeat (first | refine XD_pick (h := ?_) | refine Dq ?_ | refine Ds ?_ | refine XDi_gF (h := ?_) | refine XDi_gU (h := ?_) | refine X_draws (h := ?_))
    refine XD_one (h := ?_)
    refine XDa_dvA (dv_call (pgive_spec pb _ _ (kall C.ks 7)[k].1 (kall C.ks 7)[k].2 _ (rf_len' (by have := hD.p1; omega) hD.p2 hD.right) (rf_bd hD.p2 hD.right) (by have := hD.p1; omega) hD.p2 (by omega) (by omega) (by omega) (by omega))) (hk := ?_)
    rintro v _ ⟨L', hpost, rfl⟩
    obtain ⟨rfl, rfl⟩ := give_stepT hpost
    refine ⟨by (repeat (first | exact keeps_nil | exact keeps_fnil | refine keeps_skip (h := ?_) | refine keeps_takeQ (h := ?_))), ?_⟩
    (refine XD_end (h := ?_); repeat (first | refine Zq ?_ | refine Zs ?_ | refine ZT ?_ | refine ZF ?_ | refine Zc ?_ | refine XO_gU (hk := ?_)))
    refine X_round (k + 1) (by show k + 1 ≤ _; omega) (by show (kall C.ks 7).length - (k + 1) < (kall C.ks 7).length - k; omega) (by rw [hs]; (repeat (first | exact Env.sub_nil _ | refine Env.sub_cons rfl ?_))) ?_
    rw [hfo]
    ((try simp only [List.cons_append, List.nil_append]); repeat (first | exact ent_refl | refine ent_take (by repeat (first | exact Find.here | apply Find.there)) ?_ | refine ent_drop ?_))
  · obtain rfl : k = (kall C.ks 7).length := by omega
    rw [List.take_length]
    repeat (first | refine Zq ?_ | refine Zs ?_ | refine ZT ?_ | refine ZF ?_ | refine Zc ?_ | refine XO_gU (hk := ?_))
    refine XO_call (cclear_spec kb C.ks) (hk := ?_)
    rintro _ _ ⟨rfl, rfl⟩
    repeat (first | refine Zq ?_ | refine Zs ?_ | refine ZT ?_ | refine ZF ?_ | refine Zc ?_ | refine XO_gU (hk := ?_))
    refine XE_ret (.inl rfl) (tells_tmps rfl rfl) ⟨_, ⟨rfl, rfl⟩, ?_⟩
    (try simp only [List.cons_append, List.nil_append])
    rw [(fold_P (kall C.ks 7) C).1]
    refine ent_fold (by repeat (first | exact FindAll.nil | exact Find.here | apply Find.there | apply FindAll.cons)) (Ck.fold (C := trimC C)) ?_
    ((try simp only [List.cons_append, List.nil_append]); repeat (first | exact ent_refl | refine ent_take (by repeat (first | exact Find.here | apply Find.there)) ?_ | refine ent_drop ?_))
theorem knew_spec (p : Int) : Spec Try.prog 5 [.int .i64 p] [] (fun v L => ∃ s sb, v = .pointer (some ⟨s, 0, none⟩) ∧ L = [Ck s sb ⟨min (max p 1) 1048576, [(0, min (max p 1) 1048576)], fun _ => [], 0⟩, Spc sb (min (max p 1) 1048576) ⟨fun _ => 0, 0⟩]) := by
  refine Spec.intro (IsEnt.out) Try.func5 rfl Try.ntmps5 (by simp) (fun w0 F => ?_)
  simp only [envOf, List.zipIdx, List.map, List.cons_append, List.nil_append, Nat.zero_add, Nat.reduceAdd]
  repeat (first | refine Zq ?_ | refine Zs ?_ | refine ZT ?_ | refine ZF ?_ | refine Zc ?_ | refine XO_gU (hk := ?_))
  refine XO_call (pnew_spec p) (hk := ?_)
  rintro _ _ ⟨pb, rfl, rfl⟩
  repeat (first | refine Zq ?_ | refine Zs ?_ | refine ZT ?_ | refine ZF ?_ | refine Zc ?_ | refine XO_gU (hk := ?_))
  refine XO_call (snew_spec p) (hk := ?_)
  rintro _ _ ⟨sb, rfl, rfl⟩
  repeat (first | refine Zq ?_ | refine Zs ?_ | refine ZT ?_ | refine ZF ?_ | refine Zc ?_ | refine XO_gU (hk := ?_))
  refine XO_call cnew_spec (hk := ?_)
  rintro _ _ ⟨kb, rfl, rfl⟩
  repeat (first | refine Zq ?_ | refine Zs ?_ | refine ZT ?_ | refine ZF ?_ | refine Zc ?_ | refine XO_gU (hk := ?_))
  refine XO_dv dv_box (hk := ?_)
  rintro _ _ ⟨b, rfl, rfl⟩
  repeat (first | refine Zq ?_ | refine Zs ?_ | refine ZT ?_ | refine ZF ?_ | refine Zc ?_ | refine XO_gU (hk := ?_))
  refine XE_ret (.inl rfl) (tells_tmps rfl rfl) ⟨_, ⟨b, sb, rfl, rfl⟩, ?_⟩
  (try simp only [List.cons_append, List.nil_append])
  refine ent_fold (by repeat (first | exact FindAll.nil | exact Find.here | apply Find.there | apply FindAll.cons)) (Ck.fold (C := ⟨min (max p 1) 1048576, [(0, min (max p 1) 1048576)], fun _ => [], 0⟩)) ?_
  ((try simp only [List.cons_append, List.nil_append]); repeat (first | exact ent_refl | refine ent_take (by repeat (first | exact Find.here | apply Find.there)) ?_ | refine ent_drop ?_))
theorem kspace_spec (s sb : Nat) (C : Co) : Spec Try.prog 8 [.pointer (some ⟨s, 0, none⟩)] [Ck s sb C] (fun v L => v = .pointer (some ⟨sb, 0, none⟩) ∧ L = [Ck s sb C]) := by
  refine Spec.intro (IsEnt.out) Try.func8 rfl Try.ntmps8 (by simp) (fun w0 F => ?_)
  simp only [envOf, List.zipIdx, List.map, List.cons_append, List.nil_append, Nat.zero_add, Nat.reduceAdd]
  repeat (first | refine Zq ?_ | refine Zs ?_ | refine ZT ?_ | refine ZF ?_ | refine Zc ?_ | refine XO_gU (hk := ?_))
  refine X_cond rfl (fun h => by cases h) (fun _ => ?_)
  refine X_open .here Ck.open ?_
  rintro ⟨pb, kb⟩ -
  dsimp only [List.cons_append, List.nil_append]
  repeat (first | refine Zq ?_ | refine Zs ?_ | refine ZT ?_ | refine ZF ?_ | refine Zc ?_ | refine XO_gU (hk := ?_))
  refine XE_fold (by repeat (first | exact FindAll.nil | exact Find.here | apply Find.there | apply FindAll.cons)) (Ck.fold (C := C)) ?_
  refine XE_ret (.inl rfl) (tells_tmps rfl rfl) ⟨_, ⟨rfl, rfl⟩, by ((try simp only [List.cons_append, List.nil_append]); repeat (first | exact ent_refl | refine ent_take (by repeat (first | exact Find.here | apply Find.there)) ?_ | refine ent_drop ?_))⟩
end Go.Proofs.Ytgoocobeoejoaaa.Sep
namespace Go.Proofs.Ytgoocobeoejoaaa.Sep
open Go.RowKit
set_option linter.unusedSimpArgs false
set_option linter.unusedVariables false
/-! the plain law of a ledger: each page is free, kept, or in one chunk -/
def RunOk (P : Int) (r : Int × Int) : Prop := 0 ≤ r.1 ∧ 1 ≤ r.2 ∧ r.1 + r.2 ≤ P
structure CInv (C : Co) : Prop where
  ok : CoOk C
  kv : ∀ k : Nat, k < 7 → ∀ p ∈ C.ks k, p + cpages k ≤ C.P
def cC (x : Int) (C : Co) : Int := cnt x C.fr + cnt x (kall C.ks 7)
def tC (C : Co) : Int := totI C.fr + totI (kall C.ks 7)
theorem kall_upd (g : List (Int × Int) → Int) (hg : ∀ a b, g (a ++ b) = g a + g b) (ks : Nat → List Int) (c : Nat) (l' : List Int) : ∀ n : Nat, g (kall (upd ks c l') n) + (if c < n then g ((ks c).map fun p => (p, cpages c)) else 0) = g (kall ks n) + (if c < n then g (l'.map fun p => (p, cpages c)) else 0)
  | 0 => by simp [kall]
  | n + 1 => by
    have ih := kall_upd g hg ks c l' n
    simp only [kall, hg]
    by_cases hc : c = n
    · subst hc
      have h1 : upd ks c l' c = l' := by simp [upd]
      rw [h1, if_pos (by omega), if_pos (by omega)]
      rw [if_neg (by omega), if_neg (by omega)] at ih
      omega
    · have h1 : upd ks c l' n = ks n := by simp [upd, Ne.symm hc]
      rw [h1]
      by_cases hlt : c < n
      · rw [if_pos hlt, if_pos hlt] at ih
        rw [if_pos (by omega), if_pos (by omega)]; omega
      · rw [if_neg hlt, if_neg hlt] at ih
        rw [if_neg (by omega), if_neg (by omega)]; omega
theorem cC_nn (x : Int) (C : Co) : 0 ≤ cC x C := by have := cnt_nn x C.fr; have := cnt_nn x (kall C.ks 7); unfold cC; omega
theorem give_inv {C : Co} {r : Int × Int} (h : CoOk C) (hr : RunOk C.P r) (hd : ∀ x, cnt x C.fr + ind x r ≤ 1) : (∀ x, cnt x (giveC C r).fr = cnt x C.fr + ind x r) ∧ totI (giveC C r).fr = totI C.fr + r.2 := by
  have hs := giveI_some h.right hr.1 hr.2.1 hr.2.2 hd
  have h1 := giveI_right h.right hs
  have h2 : (giveC C r).fr = giveL C.fr r.1 r.2 := by show (giveI C.fr C.P r.1 r.2).getD C.fr = _; rw [hs]; rfl
  rw [h2]
  exact ⟨h1.2.1, h1.2.2⟩
theorem put_inv {C : Co} {r : Int × Int} (h : CInv C) (hr : RunOk C.P r) (hd : ∀ x, cC x C + ind x r ≤ 1) :
    CInv (putC C r) ∧ (putC C r).P = C.P ∧ (∀ x, cC x (putC C r) = cC x C + ind x r) ∧ tC (putC C r) = tC C + r.2 := by
  have hp2 := h.ok.p2
  obtain ⟨r1, r2, r3⟩ := hr
  have hok : CoOk (putC C r) := putC_ok h.ok (by omega)
  unfold putC at hok ⊢
  split
  · rename_i hc
    rw [if_pos hc] at hok
    obtain ⟨c1, c2, c3, c4, c5⟩ := hc
    have hct : (((cclass r.2).toNat : Nat) : Int) = cclass r.2 := by omega
    generalize hcc : (cclass r.2).toNat = c at *
    have hpc : cpages (c : Int) = r.2 := by rw [hct]; exact c1
    refine ⟨⟨hok, fun k hk p hp => ?_⟩, rfl, fun x => ?_, ?_⟩
    · show p + cpages k ≤ C.P
      have hp : p ∈ upd C.ks c (C.ks c ++ [r.1]) k := hp
      unfold upd at hp
      split at hp
      · rename_i hkc
        subst hkc
        rcases List.mem_append.1 hp with hp | hp
        · exact h.kv k hk p hp
        · simp at hp; subst hp; rw [hpc]; omega
      · exact h.kv k hk p hp
    · have := kall_upd (cnt x) (cnt_append x) C.ks c (C.ks c ++ [r.1]) 7
      rw [if_pos (by omega), if_pos (by omega), List.map_append, cnt_append] at this
      simp only [List.map_cons, List.map_nil, cnt, hpc] at this
      show cnt x C.fr + cnt x (kall (upd C.ks c (C.ks c ++ [r.1])) 7) = cnt x C.fr + cnt x (kall C.ks 7) + ind x r
      rw [show ((r.1, r.2) : Int × Int) = r from rfl] at this
      omega
    · have := kall_upd totI tot_append C.ks c (C.ks c ++ [r.1]) 7
      rw [if_pos (by omega), if_pos (by omega), List.map_append, tot_append] at this
      simp only [List.map_cons, List.map_nil, tot_cons, hpc] at this
      have h0 : totI ([] : List (Int × Int)) = 0 := rfl
      show totI C.fr + totI (kall (upd C.ks c (C.ks c ++ [r.1])) 7) = totI C.fr + totI (kall C.ks 7) + r.2
      omega
  · have hg := give_inv h.ok ⟨r1, r2, r3⟩ (fun x => by have := hd x; have := cnt_nn x (kall C.ks 7); unfold cC at *; omega)
    refine ⟨⟨giveC_ok h.ok r, h.kv⟩, rfl, fun x => ?_, ?_⟩
    · show cnt x (giveC C r).fr + cnt x (kall C.ks 7) = cnt x C.fr + cnt x (kall C.ks 7) + ind x r
      rw [hg.1 x]; omega
    · show totI (giveC C r).fr + totI (kall C.ks 7) = totI C.fr + totI (kall C.ks 7) + r.2
      rw [hg.2]; omega
theorem puts_inv : ∀ (l : List (Int × Int)) {C : Co}, CInv C → (∀ r ∈ l, RunOk C.P r) → (∀ x, cC x C + cnt x l ≤ 1) →
    CInv (l.foldl putC C) ∧ (l.foldl putC C).P = C.P ∧ (∀ x, cC x (l.foldl putC C) = cC x C + cnt x l) ∧ tC (l.foldl putC C) = tC C + totI l
  | [], C, h, _, _ => ⟨h, rfl, fun x => by simp [cnt], by simp [totI]⟩
  | r :: l, C, h, hr, hd => by
    have h1 := put_inv h (hr r (by simp)) (fun x => by have := hd x; have := cnt_nn x l; simp only [cnt] at *; omega)
    obtain ⟨g1, g2, g3, g4⟩ := puts_inv l h1.1 (fun q hq => by rw [h1.2.1]; exact hr q (by simp [hq])) (fun x => by rw [h1.2.2.1 x]; have := hd x; simp only [cnt] at this; omega)
    refine ⟨g1, g2.trans h1.2.1, fun x => ?_, ?_⟩
    · rw [List.foldl_cons, g3 x, h1.2.2.1 x]; simp only [cnt]; omega
    · rw [List.foldl_cons, g4, h1.2.2.2, tot_cons]; omega
theorem gives_inv : ∀ (l : List (Int × Int)) {C : Co}, CoOk C → (∀ r ∈ l, RunOk C.P r) → (∀ x, cnt x C.fr + cnt x l ≤ 1) →
    (∀ x, cnt x (l.foldl giveC C).fr = cnt x C.fr + cnt x l) ∧ totI (l.foldl giveC C).fr = totI C.fr + totI l
  | [], C, h, _, _ => ⟨fun x => by simp [cnt], by simp [totI]⟩
  | r :: l, C, h, hr, hd => by
    have h1 := give_inv h (hr r (by simp)) (fun x => by have := hd x; have := cnt_nn x l; simp only [cnt] at *; omega)
    obtain ⟨g1, g2⟩ := gives_inv l (giveC_ok h r) (fun q hq => hr q (by simp [hq])) (fun x => by rw [h1.1 x]; have := hd x; simp only [cnt] at this; omega)
    refine ⟨fun x => ?_, ?_⟩
    · rw [List.foldl_cons, g1 x, h1.1 x]; simp only [cnt]; omega
    · rw [List.foldl_cons, g2, h1.2, tot_cons]; omega
theorem kall_run {C : Co} (h : CInv C) : ∀ r ∈ kall C.ks 7, RunOk C.P r := fun r hr => by
  obtain ⟨j, hj, h1, h2⟩ := kall_mem hr
  have h3 := (h.ok.kept j hj).2 _ h1
  have h4 := h.kv j hj _ h1
  have h5 := cpages_le j hj
  unfold RunOk
  rw [h2]; omega
theorem kall_nil : kall (fun _ => []) 7 = [] := rfl
theorem trim_inv {C : Co} (h : CInv C) (hd : ∀ x, cC x C ≤ 1) : CInv (trimC C) ∧ (∀ x, cC x (trimC C) = cC x C) ∧ tC (trimC C) = tC C := by
  obtain ⟨h1, h2⟩ := gives_inv (kall C.ks 7) h.ok (kall_run h) hd
  refine ⟨⟨trimC_ok h.ok, fun k hk p hp => by cases hp⟩, fun x => ?_, ?_⟩
  · show cnt x ((kall C.ks 7).foldl giveC C).fr + cnt x (kall (fun _ => []) 7) = _
    rw [h1 x, kall_nil]; simp only [cnt, cC]; omega
  · show totI ((kall C.ks 7).foldl giveC C).fr + totI (kall (fun _ => []) 7) = _
    rw [h2, kall_nil]; simp only [tC]; simp [totI]
theorem take_inv {C : Co} {n : Int} (h : CInv C) (hn : 1 ≤ n) : CInv (takeC C n).1 ∧ (takeC C n).1.P = C.P ∧
    ((takeC C n).2.2 = 0 → RunOk C.P ((takeC C n).2.1, n) ∧ (∀ x, cC x C = cC x (takeC C n).1 + ind x ((takeC C n).2.1, n)) ∧ tC C = tC (takeC C n).1 + n) ∧
    ((takeC C n).2.2 ≠ 0 → (∀ x, cC x (takeC C n).1 = cC x C) ∧ tC (takeC C n).1 = tC C) := by
  unfold takeC
  rw [if_neg (by omega)]
  cases ht : takeI C.fr n with
  | none => exact ⟨h, rfl, fun h' => absurd (show (4 : Int) = 0 from h') (by decide), fun _ => ⟨fun _ => rfl, rfl⟩⟩
  | some q =>
    obtain ⟨p, ys⟩ := q
    obtain ⟨g1, g2, g3, g4, g5, g6⟩ := takeI_right h.ok.right ht
    refine ⟨⟨⟨h.ok.p1, h.ok.p2, g1, h.ok.kept⟩, h.kv⟩, rfl, fun _ => ⟨⟨g3, hn, g4⟩, fun x => ?_, ?_⟩, fun h' => absurd rfl h'⟩
    · show cnt x C.fr + cnt x (kall C.ks 7) = cnt x ys + cnt x (kall C.ks 7) + ind x (p, n); rw [g5 x]; omega
    · show totI C.fr + totI (kall C.ks 7) = totI ys + totI (kall C.ks 7) + n; rw [g6]; omega
theorem get_inv {C : Co} {n : Int} (h : CInv C) (hd : ∀ x, cC x C ≤ 1) (hn : 1 ≤ n) (hc : 0 ≤ cclass n → cpages (cclass n) = n) : CInv (getC C n).1 ∧ (getC C n).1.P = C.P ∧
    ((getC C n).2.2 = 0 → RunOk C.P ((getC C n).2.1, n) ∧ (∀ x, cC x C = cC x (getC C n).1 + ind x ((getC C n).2.1, n)) ∧ tC C = tC (getC C n).1 + n) ∧
    ((getC C n).2.2 ≠ 0 → (∀ x, cC x (getC C n).1 = cC x C) ∧ tC (getC C n).1 = tC C) := by
  have hok := getC_ok h.ok n
  unfold getC at hok ⊢
  split
  · rename_i hk
    rw [if_pos hk] at hok
    obtain ⟨k1, k2, k3⟩ := hk
    have hcp := hc k1
    have hct : (((cclass n).toNat : Nat) : Int) = cclass n := by omega
    generalize hcc : (cclass n).toNat = c at *
    have hpc : cpages (c : Int) = n := by rw [hct]; exact hcp
    have hne : C.ks c ≠ [] := List.length_pos_iff.1 k3
    have hlast : (C.ks c).getD ((C.ks c).length - 1) 0 = (C.ks c).getLast hne := by
      rw [List.getLast_eq_getElem]
      simp only [List.getD, List.getElem?_eq_getElem (show (C.ks c).length - 1 < (C.ks c).length by omega), Option.getD_some]
    have hsplit : C.ks c = (C.ks c).dropLast ++ [(C.ks c).getLast hne] := (List.dropLast_concat_getLast hne).symm
    have hmem : (C.ks c).getLast hne ∈ C.ks c := List.getLast_mem hne
    have hv := h.kv c (by omega) _ hmem
    have hv2 := (h.ok.kept c (by omega)).2 _ hmem
    rw [hlast]
    refine ⟨⟨hok, fun k hk p hp => ?_⟩, rfl, fun _ => ⟨⟨hv2.1, hn, by rw [← hpc]; exact hv⟩, fun x => ?_, ?_⟩, fun h' => absurd rfl h'⟩
    · have hp : p ∈ upd C.ks c (C.ks c).dropLast k := hp
      unfold upd at hp
      split at hp
      · rename_i hkc
        subst hkc
        exact h.kv k hk p ((List.dropLast_sublist _).mem hp)
      · exact h.kv k hk p hp
    · have := kall_upd (cnt x) (cnt_append x) C.ks c (C.ks c).dropLast 7
      rw [if_pos (by omega), if_pos (by omega)] at this
      conv at this => lhs; rhs; rw [hsplit]
      rw [List.map_append, cnt_append] at this
      simp only [List.map_cons, List.map_nil, cnt, hpc] at this
      show cnt x C.fr + cnt x (kall C.ks 7) = cnt x C.fr + cnt x (kall (upd C.ks c (C.ks c).dropLast) 7) + ind x ((C.ks c).getLast hne, n)
      omega
    · have := kall_upd totI tot_append C.ks c (C.ks c).dropLast 7
      rw [if_pos (by omega), if_pos (by omega)] at this
      conv at this => lhs; rhs; rw [hsplit]
      rw [List.map_append, tot_append] at this
      simp only [List.map_cons, List.map_nil, tot_cons, hpc] at this
      have h0 : totI ([] : List (Int × Int)) = 0 := rfl
      show totI C.fr + totI (kall C.ks 7) = totI C.fr + totI (kall (upd C.ks c (C.ks c).dropLast) 7) + _
      omega
  · split
    · rename_i he
      split
      · obtain ⟨t1, t2, t3⟩ := trim_inv h hd
        obtain ⟨g1, g2, g3, g4⟩ := take_inv t1 hn
        refine ⟨g1, g2, fun h0 => ?_, fun h0 => ?_⟩
        · obtain ⟨a1, a2, a3⟩ := g3 h0
          exact ⟨a1, fun x => by rw [← t2 x]; exact a2 x, by rw [← t3]; exact a3⟩
        · obtain ⟨a1, a2⟩ := g4 h0
          exact ⟨fun x => by rw [a1 x, t2 x], by rw [a2, t3]⟩
      · obtain ⟨t1, t2, t3⟩ := trim_inv h hd
        exact ⟨t1, rfl, fun h0 => absurd (he.symm.trans (show (takeC C n).2.2 = 0 from h0)) (by decide), fun _ => ⟨t2, t3⟩⟩
    · exact take_inv h hn
theorem class_self {m : Int} (h1 : 1 ≤ m) (h2 : m ≤ 64) : 1 ≤ cpages (cclass m) ∧ cpages (cclass (cpages (cclass m))) = cpages (cclass m) := by
  have hc : cclass m = 0 ∨ cclass m = 1 ∨ cclass m = 2 ∨ cclass m = 3 ∨ cclass m = 4 ∨ cclass m = 5 ∨ cclass m = 6 := by
    unfold cclass
    repeat' split
    all_goals omega
  rcases hc with h | h | h | h | h | h | h <;> rw [h] <;> decide
end Go.Proofs.Ytgoocobeoejoaaa.Sep
namespace Go.Proofs.Ytgoocobeoejoaaa.Sep
open Go.RowKit
set_option linter.unusedSimpArgs false
set_option linter.unusedVariables false
/-! chunks of a space, plain: each page is free, kept or in one chunk that was got; each of these has its header -/
def rnd (p : Int) : Int := max p (cpages (cclass p))
theorem rnd_ok {p : Int} (h1 : 1 ≤ p) (h2 : p ≤ 1048576) : p ≤ rnd p ∧ rnd p ≤ 1048576 ∧ (0 ≤ cclass (rnd p) → cpages (cclass (rnd p)) = rnd p) ∧ cclass (rnd p) = cclass p ∧ (64 < p → rnd p = p) ∧ (p ≤ 64 → rnd p ≤ 64 ∧ rnd p ≤ 2 * p - 1) := by
  have hc : (p ≤ 1 ∧ cclass p = 0) ∨ (p ≤ 2 ∧ 2 ≤ p ∧ cclass p = 1) ∨ (p ≤ 4 ∧ 3 ≤ p ∧ cclass p = 2) ∨ (p ≤ 8 ∧ 5 ≤ p ∧ cclass p = 3) ∨ (p ≤ 16 ∧ 9 ≤ p ∧ cclass p = 4) ∨ (p ≤ 32 ∧ 17 ≤ p ∧ cclass p = 5) ∨ (p ≤ 64 ∧ 33 ≤ p ∧ cclass p = 6) ∨ (65 ≤ p ∧ cclass p = -1) := by
    unfold cclass
    repeat' split
    all_goals omega
  have e : ∀ k n : Int, cclass p = k → cpages k = n → p ≤ n → rnd p = n := fun k n a b c => by unfold rnd; rw [a, b]; omega
  rcases hc with ⟨a, b⟩ | ⟨a, a', b⟩ | ⟨a, a', b⟩ | ⟨a, a', b⟩ | ⟨a, a', b⟩ | ⟨a, a', b⟩ | ⟨a, a', b⟩ | ⟨a, b⟩
  · rw [e 0 1 b (by decide) a, b]; refine ⟨a, by decide, by decide, by decide, by omega, by omega⟩
  · rw [e 1 2 b (by decide) a, b]; refine ⟨a, by decide, by decide, by decide, by omega, by omega⟩
  · rw [e 2 4 b (by decide) a, b]; refine ⟨a, by decide, by decide, by decide, by omega, by omega⟩
  · rw [e 3 8 b (by decide) a, b]; refine ⟨a, by decide, by decide, by decide, by omega, by omega⟩
  · rw [e 4 16 b (by decide) a, b]; refine ⟨a, by decide, by decide, by decide, by omega, by omega⟩
  · rw [e 5 32 b (by decide) a, b]; refine ⟨a, by decide, by decide, by decide, by omega, by omega⟩
  · rw [e 6 64 b (by decide) a, b]; refine ⟨a, by decide, by decide, by decide, by omega, by omega⟩
  · have : rnd p = p := by unfold rnd; rw [b, show cpages (-1) = 0 from by decide]; omega
    rw [this, b]
    refine ⟨by omega, h2, fun h => absurd h (by decide), rfl, fun _ => rfl, by omega⟩
def gr (got : List (Int × Hd)) : List (Int × Int) := got.map fun q => (q.1, q.2.pages)
theorem gr_app (a b : List (Int × Hd)) : gr (a ++ b) = gr a ++ gr b := by simp [gr]
def HdGood (h : Hd) : Prop := HdOk h ∧ 0 ≤ h.owner ∧ h.owner < 18446744073709551616 ∧ 0 ≤ h.next ∧ h.next < 18446744073709551616
structure KInv (C : Co) (m : Int → Int) (got : List (Int × Hd)) : Prop where
  ci : CInv C
  run : ∀ q ∈ got, RunOk C.P (q.1, q.2.pages)
  part : ∀ x, cC x C + cnt x (gr got) = if 0 ≤ x ∧ x < C.P then 1 else 0
  tot : tC C + totI (gr got) = C.P
  hdr : ∀ q ∈ got, rdM m (q.1 * 4096) 32 = hdB q.2 ∧ HdGood q.2
theorem part_le1 {x P : Int} : (if 0 ≤ x ∧ x < P then (1 : Int) else 0) ≤ 1 := by split <;> omega
theorem KInv.le {C : Co} {m : Int → Int} {got : List (Int × Hd)} (h : KInv C m got) (x : Int) : cC x C ≤ 1 := by
  have h1 := h.part x
  have h2 := cnt_nn x (gr got)
  have h3 := part_le1 (x := x) (P := C.P)
  omega
theorem knew (p : Int) (m : Int → Int) : KInv ⟨min (max p 1) 1048576, [(0, min (max p 1) 1048576)], fun _ => [], 0⟩ m [] := by
  have h1 : 1 ≤ min (max p 1) 1048576 := by omega
  have h2 : min (max p 1) 1048576 ≤ 1048576 := by omega
  generalize min (max p 1) 1048576 = P at h1 h2
  refine ⟨⟨⟨h1, h2, ⟨by show (0 : Int) ≤ 0; omega, h1, by show 0 + P ≤ P; omega, trivial⟩, fun k hk => ⟨Nat.zero_le _, fun p hp => (by cases hp)⟩⟩, fun k hk p hp => (by cases hp)⟩, fun q hq => (by cases hq), fun x => ?_, ?_, fun q hq => (by cases hq)⟩
  · show cnt x [(0, P)] + cnt x (kall (fun _ => []) 7) + cnt x [] = _
    rw [kall_nil]
    simp only [cnt, ind]
    by_cases hx : 0 ≤ x ∧ x < P
    · rw [if_pos hx, if_pos (by omega)]; omega
    · rw [if_neg hx, if_neg (by omega)]; omega
  · show totI [(0, P)] + totI (kall (fun _ => []) 7) + totI [] = P
    rw [kall_nil]; simp [totI]
theorem ind_self {p n : Int} (h : 1 ≤ n) : ind p (p, n) = 1 := by unfold ind; rw [if_pos]; simp; omega
/-- A chunk is got. -/
theorem kget {C : Co} {m : Int → Int} {got : List (Int × Hd)} {hd : Hd} (h : KInv C m got) (hh : HdGood hd) (hc : 0 ≤ cclass hd.pages → cpages (cclass hd.pages) = hd.pages) (h0 : (getC C hd.pages).2.2 = 0) :
    KInv (getC C hd.pages).1 (wrM m ((getC C hd.pages).2.1 * 4096) (hdB hd)) (got ++ [((getC C hd.pages).2.1, hd)]) ∧ (getC C hd.pages).1.P = C.P ∧ RunOk C.P ((getC C hd.pages).2.1, hd.pages) := by
  obtain ⟨g1, g2, g3, _⟩ := get_inv h.ci h.le hh.1.1 hc
  obtain ⟨g4, g5, g6⟩ := g3 h0
  generalize getC C hd.pages = G at *
  obtain ⟨C', p, e⟩ := G
  simp only at *
  refine ⟨⟨g1, fun q hq => ?_, fun x => ?_, ?_, fun q hq => ?_⟩, g2, g4⟩
  · rw [g2]
    rcases List.mem_append.1 hq with hq | hq
    · exact h.run q hq
    · simp at hq; subst hq; exact g4
  · rw [g2, ← h.part x, g5 x, gr_app, cnt_append]
    show _ + (_ + (ind x (p, hd.pages) + 0)) = _
    omega
  · rw [g2, gr_app, tot_append]
    have := h.tot
    have e : totI (gr [(p, hd)]) = hd.pages := by simp [gr, totI]
    rw [e]
    omega
  · rcases List.mem_append.1 hq with hq | hq
    · refine ⟨?_, (h.hdr q hq).2⟩
      have hne : q.1 ≠ p := by
        intro he
        have h1 := h.part p
        have h2 := g5 p
        have h3 := ind_self (p := p) hh.1.1
        have h4 := cnt_mem (x := p) (r := (q.1, q.2.pages)) (l := gr got) (List.mem_map.2 ⟨q, hq, rfl⟩)
        rw [he, ind_self (h.hdr q hq).2.1.1] at h4
        have h5 := cC_nn p C'
        have h6 := part_le1 (x := p) (P := C.P)
        omega
      rw [rd_wr_ne (by rw [hdB_len]; omega)]
      exact (h.hdr q hq).1
    · simp at hq; subst hq
      refine ⟨?_, hh⟩
      have := rd_wr m (p * 4096) (hdB hd)
      rw [hdB_len] at this
      exact this
/-- There was no room: only what is kept may have gone. -/
theorem knot {C : Co} {m : Int → Int} {got : List (Int × Hd)} {n : Int} (h : KInv C m got) (hn : 1 ≤ n) (hc : 0 ≤ cclass n → cpages (cclass n) = n) (h0 : (getC C n).2.2 ≠ 0) : KInv (getC C n).1 m got ∧ (getC C n).1.P = C.P := by
  obtain ⟨g1, g2, _, g3⟩ := get_inv h.ci h.le hn hc
  obtain ⟨g5, g6⟩ := g3 h0
  refine ⟨⟨g1, fun q hq => by rw [g2]; exact h.run q hq, fun x => by rw [g2, g5 x]; exact h.part x, by rw [g2, g6]; exact h.tot, h.hdr⟩, g2⟩
/-- A chunk is put. -/
theorem kput {C : Co} {m : Int → Int} {l1 l2 : List (Int × Hd)} {p : Int} {hd : Hd} (h : KInv C m (l1 ++ (p, hd) :: l2)) : KInv (putC C (p, hd.pages)) (zrM m (p * 4096) 32) (l1 ++ l2) ∧ (putC C (p, hd.pages)).P = C.P := by
  have hr : RunOk C.P (p, hd.pages) := h.run (p, hd) (by simp)
  have hcn : ∀ x, cC x C + (cnt x (gr l1) + (ind x (p, hd.pages) + cnt x (gr l2))) = if 0 ≤ x ∧ x < C.P then 1 else 0 := fun x => by
    have := h.part x
    rw [gr_app, cnt_append] at this
    exact this
  obtain ⟨g1, g2, g3, g4⟩ := put_inv h.ci hr (fun x => by
    have := hcn x; have := cnt_nn x (gr l1); have := cnt_nn x (gr l2); have := part_le1 (x := x) (P := C.P); omega)
  refine ⟨⟨g1, fun q hq => ?_, fun x => ?_, ?_, fun q hq => ?_⟩, g2⟩
  · rw [g2]; exact h.run q (by rcases List.mem_append.1 hq with hq | hq <;> simp [hq])
  · rw [g2, g3 x, ← hcn x, gr_app, cnt_append]; omega
  · have := h.tot
    rw [gr_app, tot_append] at this
    rw [g2, g4, gr_app, tot_append]
    have e : totI (gr ((p, hd) :: l2)) = hd.pages + totI (gr l2) := tot_cons _ _
    simp only at *
    omega
  · have hq' : q ∈ l1 ++ (p, hd) :: l2 := by rcases List.mem_append.1 hq with hq | hq <;> simp [hq]
    refine ⟨?_, (h.hdr q hq').2⟩
    have hne : q.1 ≠ p := by
      intro he
      have h1 := hcn p
      have h3 := ind_self (p := p) (h.hdr (p, hd) (by simp)).2.1.1
      have h4 : ind p (q.1, q.2.pages) ≤ cnt p (gr l1) + cnt p (gr l2) := by
        have := cnt_mem (x := p) (r := (q.1, q.2.pages)) (l := gr (l1 ++ l2)) (List.mem_map.2 ⟨q, hq, rfl⟩)
        rwa [gr_app, cnt_append] at this
      rw [he, ind_self (h.hdr q hq').2.1.1] at h4
      have h5 := cC_nn p C
      have h6 := part_le1 (x := p) (P := C.P)
      simp only at h3
      omega
    rw [rd_zr_ne (by omega)]
    exact (h.hdr q hq').1
theorem ktrim {C : Co} {m : Int → Int} {got : List (Int × Hd)} (h : KInv C m got) : KInv (trimC C) m got := by
  obtain ⟨g1, g2, g3⟩ := trim_inv h.ci h.le
  exact ⟨g1, h.run, fun x => by rw [g2 x]; exact h.part x, by rw [g3]; exact h.tot, h.hdr⟩
theorem kdone {C : Co} {m : Int → Int} (h : KInv C m []) : (trimC C).fr = [(0, C.P)] := by
  have ht := ktrim h
  refine free_all h.ci.ok.p1 ht.ci.ok.right fun x h0 h1 => ?_
  have := ht.part x
  have h2 : cC x (trimC C) = cnt x (trimC C).fr := by
    show cnt x (trimC C).fr + cnt x (kall (fun _ => []) 7) = _
    rw [kall_nil]; simp [cnt]
  rw [h2, if_pos ⟨h0, h1⟩] at this
  simp only [gr, List.map_nil, cnt] at this
  omega
end Go.Proofs.Ytgoocobeoejoaaa.Sep
namespace Go.Proofs.Ytgoocobeoejoaaa.Sep
open Go.RowKit
set_option linter.unusedSimpArgs false
set_option linter.unusedVariables false
/-! chunks: their pages -/
set_option maxHeartbeats 8000000
attribute [local irreducible] X XE XO XD XDi XDa PV RV DV pt base Spec Sl Mp Keeps Pg Kc Pgs Spc Ck
theorem ktake_spec (s sb sc nc : Nat) (C : Co) (n : Int) (h : CoOk C) : Spec Try.prog 72 [.pointer (some ⟨sc, 0, none⟩), .pointer (some ⟨nc, 0, none⟩)] [Ck s sb C, pt sc (.cells [.pointer (some ⟨s, 0, none⟩)].toArray 24 (0, 0)), pt nc (.cells [.int .i64 n].toArray 3 (0, 0))]
    (fun v L => v = .tuple #[.int .i64 (takeC C n).2.1, .int .i64 n, .int .i64 (takeC C n).2.2] ∧ L = [Ck s sb (takeC C n).1, pt sc (.cells [.pointer (some ⟨s, 0, none⟩)].toArray 24 (0, 0)), pt nc (.cells [.int .i64 n].toArray 3 (0, 0))]) := by
  refine Spec.intro (IsEnt.out) Try.func72 rfl Try.ntmps72 (by simp) (fun w0 F => ?_)
  simp only [envOf, List.zipIdx, List.map, List.cons_append, List.nil_append, Nat.zero_add, Nat.reduceAdd]
  refine X_open (A := Ck s sb C) (by (repeat (first | exact Find.here | apply Find.there))) Ck.open ?_
  rintro ⟨pb, kb⟩ -
  dsimp only [List.cons_append, List.nil_append]
  repeat (first | refine Zq ?_ | refine Zs ?_ | refine ZT ?_ | refine ZF ?_ | refine Zc ?_ | refine XO_gU (hk := ?_))
  repeat (first | refine XD_pick (h := ?_) | refine Dq ?_ | refine Ds ?_ | refine XDi_gF (h := ?_) | refine XDi_gU (h := ?_) | refine X_draws (h := ?_))
  refine XD_one (h := ?_)
  refine XDa_dvA (dv_call (ptake_spec pb C.P C.t n C.fr (rf_len' (by have := h.p1; omega) h.p2 h.right) (rf_bd h.p2 h.right))) (hk := ?_)
  rintro v _ ⟨L', hpost, rfl⟩
  obtain ⟨rfl, rfl⟩ := take_stepT hpost
  refine ⟨by (repeat (first | exact keeps_nil | exact keeps_fnil | refine keeps_skip (h := ?_) | refine keeps_takeQ (h := ?_))), ?_⟩
  have hPk := takeC_P C n
  repeat (first | refine XD_pick (h := ?_) | refine Dq ?_ | refine Ds ?_ | refine XDi_gF (h := ?_) | refine XDi_gU (h := ?_) | refine X_draws (h := ?_))
  (refine XD_one (h := ?_); refine XDa_dvA (dv_of_rv (rv_of_pv pv_assign)) (hk := ?_); rintro _ _ ⟨rfl, rfl⟩; refine ⟨by (repeat (first | exact keeps_nil | exact keeps_fnil | refine keeps_skip (h := ?_) | refine keeps_takeQ (h := ?_))), ?_⟩)
  (refine XD_one (h := ?_); refine XDa_dvA (dv_of_rv (rv_of_pv pv_assign)) (hk := ?_); rintro _ _ ⟨rfl, rfl⟩; refine ⟨by (repeat (first | exact keeps_nil | exact keeps_fnil | refine keeps_skip (h := ?_) | refine keeps_takeQ (h := ?_))), ?_⟩)
  (refine XD_end (h := ?_); repeat (first | refine Zq ?_ | refine Zs ?_ | refine ZT ?_ | refine ZF ?_ | refine Zc ?_ | refine XO_gU (hk := ?_)))
  repeat (first | refine XD_pick (h := ?_) | refine Dq ?_ | refine Ds ?_ | refine XDi_gF (h := ?_) | refine XDi_gU (h := ?_) | refine X_draws (h := ?_))
  (refine XD_one (h := ?_); refine XDa_dvA (dv_of_rv (rv_of_pv pv_assign)) (hk := ?_); rintro _ _ ⟨rfl, rfl⟩; refine ⟨by (repeat (first | exact keeps_nil | exact keeps_fnil | refine keeps_skip (h := ?_) | refine keeps_takeQ (h := ?_))), ?_⟩)
  (refine XD_one (h := ?_); refine XDa_dvA (dv_of_rv (rv_of_pv pv_assign)) (hk := ?_); rintro _ _ ⟨rfl, rfl⟩; refine ⟨by (repeat (first | exact keeps_nil | exact keeps_fnil | refine keeps_skip (h := ?_) | refine keeps_takeQ (h := ?_))), ?_⟩)
  (refine XD_one (h := ?_); refine XDa_dvA (dv_of_rv (rv_of_pv pv_assign)) (hk := ?_); rintro _ _ ⟨rfl, rfl⟩; refine ⟨by (repeat (first | exact keeps_nil | exact keeps_fnil | refine keeps_skip (h := ?_) | refine keeps_takeQ (h := ?_))), ?_⟩)
  (refine XD_end (h := ?_); repeat (first | refine Zq ?_ | refine Zs ?_ | refine ZT ?_ | refine ZF ?_ | refine Zc ?_ | refine XO_gU (hk := ?_)))
  refine XE_ret (.inl rfl) (tells_tmps rfl rfl) ⟨_, ⟨rfl, rfl⟩, ?_⟩
  (try simp only [List.cons_append, List.nil_append])
  rw [← hPk.1, ← hPk.2]
  refine ent_fold (by repeat (first | exact FindAll.nil | exact Find.here | apply Find.there | apply FindAll.cons)) (Ck.fold (C := (takeC C n).1)) ?_
  ((try simp only [List.cons_append, List.nil_append]); repeat (first | exact ent_refl | refine ent_take (by repeat (first | exact Find.here | apply Find.there)) ?_ | refine ent_drop ?_))
end Go.Proofs.Ytgoocobeoejoaaa.Sep
