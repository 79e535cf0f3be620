import Derived.Test.YteobjankkcdaoaaRunsD
namespace Go.Proofs.Yteobjankkcdaoaa.Sep
open Go.RowKit
set_option linter.unusedSimpArgs false
set_option linter.unusedVariables false

/-- Pages that are taken and given back: how many, what is free, and what was done. -/
def Pg (b : Nat) (P : Int) (fr : List (Int × Int)) (t : Int) : HP := fun H => ∃ x : Option Addr × Nat, SL [pt b (.cells [.int .i64 P, .slice x.1 fr.length x.2, .int .i64 t].toArray 80 (0, 0)), Sl eRun x.1 x.2 fr] H
theorem Pg.open {b : Nat} {P : Int} {fr : List (Int × Int)} {t : Int} : ∀ H, Pg b P fr t H → ∃ x : Option Addr × Nat, True ∧ SL [pt b (.cells [.int .i64 P, .slice x.1 fr.length x.2, .int .i64 t].toArray 80 (0, 0)), Sl eRun x.1 x.2 fr] H := fun H ⟨x, h⟩ => ⟨x, trivial, h⟩
theorem Pg.fold {b : Nat} {P : Int} {fr : List (Int × Int)} {t : Int} {a : Option Addr} {c : Nat} : ∀ H, SL [pt b (.cells [.int .i64 P, .slice a fr.length c, .int .i64 t].toArray 80 (0, 0)), Sl eRun a c fr] H → Pg b P fr t H := fun H h => ⟨(a, c), h⟩
def tickI (t : Int) (m : Nat) : Int := IntKind.i64.wrap (t + (1 + (m : Int)))
set_option maxHeartbeats 8000000
attribute [local irreducible] X XE XO XD XDi XDa PV RV DV pt base Spec Sl Mp Keeps Pg

theorem clone_spec (A : HP) (a : Option Addr) (c m : Nat) (xs : List (Int × Int)) (hm : m = xs.length) (hV : View A eRun a xs) (hl : xs.length ≤ 1048576) :
    Spec Try.prog 51 [.slice a m c] [A] (fun v L => ∃ a' c', v = .slice a' xs.length c' ∧ L = [A, Sl eRun a' c' xs]) := by
  subst hm
  refine Spec.intro (IsEnt.out) Try.func51 rfl Try.ntmps51 (by simp) (fun w0 F => ?_)
  simp only [envOf, List.zipIdx, List.map, List.cons_append, List.nil_append, Nat.zero_add, Nat.reduceAdd]
  repeat (first | refine Zp pv_move ?_ | refine Zp pv_assign ?_ | refine X_seq ?_ | refine X_region ?_ | refine XO_nil ?_ | refine XE_code ?_)
  refine XO_pv pv_eqnilS (hk := ?_)
  repeat (first | refine XO_nil ?_ | refine XE_code ?_)
  cases a with
  | none =>
    refine X_cond rfl (fun _ => ?_) (fun h => by cases h)
    refine X_fact (A := A) (p := xs = []) (by (repeat (first | exact Find.here | apply Find.there))) (fun H hH => by rcases hV H hH with h | ⟨_, h, _⟩; exact h; cases h) (fun hx => ?_)
    subst hx
    repeat (first | refine Zp pv_assign ?_ | refine X_seq ?_ | refine X_region ?_ | refine X_ret ?_ | refine XO_nil ?_ | refine XE_code ?_ | refine XE_code_ret ?_)
    refine XE_conv (fun _ => SL_nilSl eRun) ?_
    refine XE_ret (.inl rfl) (tells_tmps rfl rfl) ⟨_, ⟨none, 0, rfl, rfl⟩, by ((try simp only [List.cons_append, List.nil_append]); repeat (first | exact ent_refl | refine ent_take (by repeat (first | exact Find.here | apply Find.there)) ?_ | refine ent_drop ?_))⟩
  | some ad =>
    refine X_cond rfl (fun h => by cases h) (fun _ => ?_)
    repeat (first | refine X_seq ?_ | refine X_region ?_ | refine X_skip ?_ | refine XE_code ?_)
    refine XO_dv (dv_lit (E' := eRun) []) (hk := ?_)
    rintro _ _ ⟨lb, rfl, rfl⟩
    repeat (first | refine Zp pv_move ?_)
    refine XO_dv (dv_append (E' := eRun) (xs := []) (ys := xs) (A := A) (hv := hV) (hb := by simp; omega)) (hk := ?_)
    rintro _ _ ⟨a3, c3, rfl, rfl⟩
    rw [List.nil_append]
    repeat (first | refine Zp pv_assign ?_ | refine X_ret ?_ | refine XO_nil ?_ | refine XE_code ?_)
    refine XE_ret (.inl rfl) (tells_tmps rfl rfl) ⟨_, ⟨a3, c3, rfl, rfl⟩, by ((try simp only [List.cons_append, List.nil_append]); repeat (first | exact ent_refl | refine ent_take (by repeat (first | exact Find.here | apply Find.there)) ?_ | refine ent_drop ?_))⟩
theorem pnew_spec (p : Int) : Spec Try.prog 20 [.int .i64 p] [] (fun v L => ∃ b, v = .pointer (some ⟨b, 0, none⟩) ∧ L = [Pg b (min (max p 1) 1048576) [(0, min (max p 1) 1048576)] 0]) := by
  refine Spec.intro (IsEnt.out) Try.func20 rfl Try.ntmps20 (by simp) (fun w0 F => ?_)
  simp only [envOf, List.zipIdx, List.map, List.cons_append, List.nil_append, Nat.zero_add, Nat.reduceAdd]
  repeat (first | refine Zp pv_move ?_ | refine Zp pv_assign ?_ | refine Zp pv_max ?_ | refine Zp pv_min ?_ | refine Zp pv_build ?_ | refine X_seq ?_ | refine X_region ?_ | refine XO_nil ?_ | refine XE_code ?_)
  refine XO_dv (dv_lit (E' := eRun) [(0, min (max p 1) 1048576)]) (hk := ?_)
  rintro _ _ ⟨lb, rfl, rfl⟩
  repeat (fail)
  refine XO_pv (pv_buildG [.int .i64 (min (max p 1) 1048576), .slice (some ⟨lb, 0, none⟩) 1 1, .int .i64 0]) (hk := ?_)
  repeat (fail)
  refine XO_dv dv_box (hk := ?_)
  rintro _ _ ⟨b, rfl, rfl⟩
  repeat (first | refine Zp pv_assign ?_ | refine X_ret ?_ | refine XO_nil ?_ | refine XE_code ?_)
  refine XE_ret (.inl rfl) (tells_tmps rfl rfl) ⟨_, ⟨b, rfl, rfl⟩, ?_⟩
  refine ent_fold (by repeat (first | exact FindAll.nil | exact Find.here | apply Find.there | apply FindAll.cons)) (Pg.fold (a := some ⟨lb, 0, none⟩) (c := 1)) ?_
  ((try simp only [List.cons_append, List.nil_append]); repeat (first | exact ent_refl | refine ent_take (by repeat (first | exact Find.here | apply Find.there)) ?_ | refine ent_drop ?_))
theorem done_spec (b m m' c c' : Nat) (P t : Int) (a a' : Option Addr) (hm : m ≤ 1048576) : Spec Try.prog 48 [.pointer (some ⟨b, 0, none⟩), .slice a' m' c'] [pt b (.cells [.int .i64 P, .slice a m c, .int .i64 t].toArray 80 (0, 0))]
    (fun v L => v = .int .i64 0 ∧ L = [pt b (.cells [.int .i64 P, .slice a' m' c', .int .i64 (tickI t m)].toArray 80 (0, 0))]) := by
  refine Spec.intro (IsEnt.out) Try.func48 rfl Try.ntmps48 (by simp) (fun w0 F => ?_)
  simp only [envOf, List.zipIdx, List.map, List.cons_append, List.nil_append, Nat.zero_add, Nat.reduceAdd]
  repeat (first | refine Zp pv_assign ?_ | refine X_seq ?_ | refine X_region ?_ | refine XO_nil ?_ | refine XE_code ?_)
  repeat (first | refine Dp pv_move ?_ | refine Dp pv_nil_ptr ?_ | refine Dp pv_field ?_ | refine Dp pv_arith ?_ | refine Dp pv_len_slice ?_ | refine Dr rv_load ?_ | refine XD_pick (h := ?_) | refine X_draws (h := ?_))
  refine XD_one (h := ?_)
  refine XDa_dvk0 dv_store (K := _) (hk := ?_)
  rintro _ _ rfl
  refine ⟨by (repeat (first | exact keeps_nil | exact keeps_fnil | refine keeps_skip (h := ?_) | refine keeps_takeA (hv := by first | exact rv_load | exact rv_loadW | exact rv_loadS) (h := ?_))), ?_⟩
  (refine XD_end (h := ?_); repeat (first | refine Zp pv_move ?_ | refine Zp pv_nil_ptr ?_ | refine Zp pv_field ?_ | refine X_seq ?_ | refine X_region ?_ | refine XE_code ?_))
  refine XO_dv0 dv_store (hk := ?_)
  rintro _ _ rfl
  repeat (first | refine Zp pv_assign ?_ | refine X_seq ?_ | refine X_region ?_ | refine X_ret ?_ | refine XO_nil ?_ | refine XE_code ?_)
  refine XE_ret (.inl rfl) (tells_tmps rfl rfl) ⟨_, ⟨rfl, rfl⟩, by ((try simp only [List.cons_append, List.nil_append]); repeat (first | exact ent_refl | refine ent_take (by repeat (first | exact Find.here | apply Find.there)) ?_ | refine ent_drop ?_))⟩
def takeP (b : Nat) (P : Int) (fr : List (Int × Int)) (t n : Int) : Value → List HP → Prop :=
  if n < 1 then fun v L => v = .tuple #[.int .i64 0, .int .i64 1] ∧ L = [Pg b P fr t] else match takeI fr n with
  | none => fun v L => v = .tuple #[.int .i64 0, .int .i64 4] ∧ L = [Pg b P fr t]
  | some q => fun v L => v = .tuple #[.int .i64 q.1, .int .i64 0] ∧ L = [Pg b P q.2 (tickI t fr.length)]
theorem ptake_spec (b : Nat) (P t n : Int) (fr : List (Int × Int)) (hl : fr.length ≤ 1048576) (hB : Bd fr) : Spec Try.prog 41 [.pointer (some ⟨b, 0, none⟩), .int .i64 n] [Pg b P fr t] (takeP b P fr t n) := by
  refine Spec.intro (IsEnt.out) Try.func41 rfl Try.ntmps41 (by simp) (fun w0 F => ?_)
  simp only [envOf, List.zipIdx, List.map, List.cons_append, List.nil_append, Nat.zero_add, Nat.reduceAdd]
  repeat (first | refine ZT ?_ | refine Zp pv_move ?_ | refine Zp pv_assign ?_ | refine Zp pv_cmp ?_ | refine Zp pv_pickF ?_ | refine Zp pv_eqnil ?_ | refine X_seq ?_ | refine X_region ?_ | refine XO_nil ?_ | refine XE_code ?_)
  refine X_cond rfl (fun h => ?_) (fun h => ?_) <;> simp only [decide_eq_true_eq, decide_eq_false_iff_not] at h
  · unfold takeP
    rw [if_pos h]
    repeat (first | refine Zp pv_assign ?_ | refine X_seq ?_ | refine X_region ?_ | refine X_ret ?_ | refine XO_nil ?_ | refine XE_code ?_ | refine XE_code_ret ?_)
    refine XE_ret (.inl rfl) (tells_tmps rfl rfl) ⟨_, ⟨rfl, rfl⟩, by ((try simp only [List.cons_append, List.nil_append]); repeat (first | exact ent_refl | refine ent_take (by repeat (first | exact Find.here | apply Find.there)) ?_ | refine ent_drop ?_))⟩
  unfold takeP
  rw [if_neg h]
  refine X_open .here Pg.open ?_
  rintro ⟨a, c⟩ -
  dsimp only [List.cons_append, List.nil_append]
  repeat (first | refine Zp pv_move ?_ | refine Zp pv_nil_ptr ?_ | refine Zp pv_field ?_ | refine Zr rv_load ?_ | refine X_seq ?_ | refine X_region ?_ | refine X_skip ?_ | refine XE_code ?_)
  refine XO_call (take_spec (Sl eRun a c fr) a c fr n Sl.view hl hB) (hk := ?_)
  intro v L' hpost
  cases ht : takeI fr n with
  | none =>
    rw [ht] at hpost
    obtain ⟨rfl, rfl⟩ := hpost
    repeat (first | refine Zp pv_move ?_ | refine Zp pv_assign ?_ | refine Zp pv_extract ?_ | refine Zp pv_not ?_ | refine X_seq ?_ | refine X_region ?_ | refine XO_nil ?_ | refine XE_code ?_)
    refine X_cond rfl (fun _ => ?_) (fun h => by cases h)
    repeat (first | refine Zp pv_assign ?_ | refine X_seq ?_ | refine X_region ?_ | refine X_ret ?_ | refine XO_nil ?_ | refine XE_code ?_ | refine XE_code_ret ?_)
    refine XE_ret (.inl rfl) (tells_tmps rfl rfl) ⟨_, ⟨rfl, rfl⟩, ?_⟩
    (try simp only [List.cons_append, List.nil_append])
    refine ent_fold (by repeat (first | exact FindAll.nil | exact Find.here | apply Find.there | apply FindAll.cons)) Pg.fold ?_
    ((try simp only [List.cons_append, List.nil_append]); repeat (first | exact ent_refl | refine ent_take (by repeat (first | exact Find.here | apply Find.there)) ?_ | refine ent_drop ?_))
  | some q =>
    obtain ⟨p, ys⟩ := q
    rw [ht] at hpost
    obtain ⟨nb, c', rfl, rfl⟩ := hpost
    repeat (first | refine Zp pv_move ?_ | refine Zp pv_assign ?_ | refine Zp pv_extract ?_ | refine Zp pv_not ?_ | refine X_seq ?_ | refine X_region ?_ | refine XO_nil ?_ | refine XE_code ?_)
    refine X_cond rfl (fun h => by cases h) (fun _ => ?_)
    repeat (first | refine Zp pv_move ?_ | refine X_seq ?_ | refine X_region ?_ | refine X_skip ?_ | refine XE_code ?_)
    refine XO_call (done_spec b fr.length ys.length c c' P t a (some ⟨nb, 0, none⟩) hl) (hk := ?_)
    rintro _ _ ⟨rfl, rfl⟩
    repeat (first | refine Zp pv_assign ?_ | refine X_ret ?_ | refine XO_nil ?_ | refine XE_code ?_)
    refine XE_ret (.inl rfl) (tells_tmps rfl rfl) ⟨_, ⟨rfl, rfl⟩, ?_⟩
    (try simp only [List.cons_append, List.nil_append])
    refine ent_fold (by repeat (first | exact FindAll.nil | exact Find.here | apply Find.there | apply FindAll.cons)) Pg.fold ?_
    ((try simp only [List.cons_append, List.nil_append]); repeat (first | exact ent_refl | refine ent_take (by repeat (first | exact Find.here | apply Find.there)) ?_ | refine ent_drop ?_))
def giveP (b : Nat) (P : Int) (fr : List (Int × Int)) (t page n : Int) : Value → List HP → Prop := match giveI fr P page n with
  | none => fun v L => v = .int .i64 1 ∧ L = [Pg b P fr t]
  | some ys => fun v L => v = .int .i64 0 ∧ L = [Pg b P ys (tickI t fr.length)]
theorem pgive_spec (b : Nat) (P t page n : Int) (fr : List (Int × Int)) (hl : fr.length ≤ 1048576) (hB : Bd fr) (p0 : 0 ≤ P) (p1 : P ≤ 1048576) (n0 : -9223372036854775808 ≤ n) (n1 : n ≤ 9223372036854775807) (q0 : -9223372036854775808 ≤ page) (q1 : page ≤ 9223372036854775807) :
    Spec Try.prog 29 [.pointer (some ⟨b, 0, none⟩), .int .i64 page, .int .i64 n] [Pg b P fr t] (giveP b P fr t page n) := by
  refine Spec.intro (IsEnt.out) Try.func29 rfl Try.ntmps29 (by simp) (fun w0 F => ?_)
  simp only [envOf, List.zipIdx, List.map, List.cons_append, List.nil_append, Nat.zero_add, Nat.reduceAdd]
  repeat (first | refine ZT ?_ | refine ZF ?_ | refine Zp pv_move ?_ | refine Zp pv_assign ?_ | refine Zp pv_nil_ptr ?_ | refine Zp pv_cmp ?_ | refine Zp pv_arith ?_ | refine Zp pv_field ?_ | refine Zr rv_load ?_ | refine Zp pv_len_slice ?_ | refine Zp pv_extract ?_ | refine Zp pv_not ?_ | refine Zp pv_index ?_ | refine Zr rv_loadW ?_ | refine Zr rv_loadS ?_ | refine Zp pv_pickT ?_ | refine Zp pv_pickF ?_ | refine Zp pv_max ?_ | refine Zp pv_min ?_ | refine Zp pv_eqnil ?_ | refine Zp pv_nenil ?_ | refine Zp pv_conv_int ?_ | refine Zp pv_build ?_ | refine Zp pv_eqb ?_ | refine Zp pv_neb ?_ | refine Zp pv_bits ?_ | refine Zp pv_shr12 ?_ | refine Zp pv_shl12 ?_ | refine Zp pv_quo ?_ | refine Zp pv_rem ?_ | refine Zp pv_neg ?_ | refine Zp pv_sliceH ?_ | refine Zp pv_build0 ?_ | refine Zp pv_makeFunc ?_ | refine Zp pv_indexArr ?_ | refine Zp pv_sliceArr ?_ | refine Zp pv_sliceL ?_ | refine XO_gU (hk := ?_) | refine Zp pv_nil_fn ?_ | refine X_seq ?_ | refine X_region ?_ | refine X_block ?_ | refine X_skip ?_ | refine X_exit ?_ | refine X_ret ?_ | refine XO_nil ?_ | refine XE_code ?_ | refine XE_block ?_ | refine XE_code_exit ?_ | refine XE_block_exit ?_ | refine XE_code_ret ?_ | refine XE_block_ret ?_ | refine XE_pred_ret ?_ | refine XE_pred_exit ?_ | refine XE_block_other rfl ?_)
  refine X_cond rfl (fun h => by cases h) (fun _ => ?_)
  refine X_open .here Pg.open ?_
  rintro ⟨a, c⟩ -
  dsimp only [List.cons_append, List.nil_append]
  refine X_fact (A := Sl eRun a c fr) (by (repeat (first | exact Find.here | apply Find.there))) Sl.cap (fun hc => ?_)
  repeat (first | refine ZT ?_ | refine ZF ?_ | refine Zp pv_move ?_ | refine Zp pv_assign ?_ | refine Zp pv_nil_ptr ?_ | refine Zp pv_cmp ?_ | refine Zp pv_arith ?_ | refine Zp pv_field ?_ | refine Zr rv_load ?_ | refine Zp pv_len_slice ?_ | refine Zp pv_extract ?_ | refine Zp pv_not ?_ | refine Zp pv_index ?_ | refine Zr rv_loadW ?_ | refine Zr rv_loadS ?_ | refine Zp pv_pickT ?_ | refine Zp pv_pickF ?_ | refine Zp pv_max ?_ | refine Zp pv_min ?_ | refine Zp pv_eqnil ?_ | refine Zp pv_nenil ?_ | refine Zp pv_conv_int ?_ | refine Zp pv_build ?_ | refine Zp pv_eqb ?_ | refine Zp pv_neb ?_ | refine Zp pv_bits ?_ | refine Zp pv_shr12 ?_ | refine Zp pv_shl12 ?_ | refine Zp pv_quo ?_ | refine Zp pv_rem ?_ | refine Zp pv_neg ?_ | refine Zp pv_sliceH ?_ | refine Zp pv_build0 ?_ | refine Zp pv_makeFunc ?_ | refine Zp pv_indexArr ?_ | refine Zp pv_sliceArr ?_ | refine Zp pv_sliceL ?_ | refine XO_gU (hk := ?_) | refine Zp pv_nil_fn ?_ | refine X_seq ?_ | refine X_region ?_ | refine X_block ?_ | refine X_skip ?_ | refine X_exit ?_ | refine X_ret ?_ | refine XO_nil ?_ | refine XE_code ?_ | refine XE_block ?_ | refine XE_code_exit ?_ | refine XE_block_exit ?_ | refine XE_code_ret ?_ | refine XE_block_ret ?_ | refine XE_pred_ret ?_ | refine XE_pred_exit ?_ | refine XE_block_other rfl ?_)
  repeat (first | refine Dp pv_move ?_ | refine Dp pv_assign ?_ | refine Dp pv_nil_ptr ?_ | refine Dp pv_field ?_ | refine Dp pv_cmp ?_ | refine Dp pv_arith ?_ | refine Dp pv_index ?_ | refine Dp pv_len_slice ?_ | refine Dp pv_extract ?_ | refine Dp pv_not ?_ | refine Dp pv_build ?_ | refine Dp pv_eqnil ?_ | refine Dp pv_nenil ?_ | refine Dp pv_conv_int ?_ | refine Dp pv_max ?_ | refine Dp pv_min ?_ | refine Dp pv_pickT ?_ | refine Dp pv_pickF ?_ | refine Dp pv_eqb ?_ | refine Dp pv_neb ?_ | refine Dp pv_bits ?_ | refine Dp pv_sliceH ?_ | refine Dp pv_build0 ?_ | refine Dp pv_indexArr ?_ | refine Dp pv_sliceArr ?_ | refine Dp pv_sliceL ?_ | refine Dr rv_load ?_ | refine Dr rv_loadW ?_ | refine Dr rv_loadS ?_ | refine XDi_gF (h := ?_) | refine XDi_gU (h := ?_) | refine XD_pick (h := ?_) | refine X_draws (h := ?_))
  refine XD_one (h := ?_)
  refine XDa_dvA (dv_call (give_spec (Sl eRun a c fr) a c fr P page n Sl.view hc hl hB p0 p1 n0 n1 q0 q1)) (hk := ?_)
  rintro v _ ⟨L', hpost, rfl⟩
  unfold giveP
  cases ht : giveI fr P page n with
  | none =>
    rw [ht] at hpost
    obtain ⟨rfl, rfl⟩ := hpost
    refine ⟨by (repeat (first | exact keeps_nil | exact keeps_fnil | refine keeps_skip (h := ?_) | refine keeps_takeA (hv := by first | exact rv_load | exact rv_loadW | exact rv_loadS) (h := ?_))), ?_⟩
    repeat (first | refine Dp pv_move ?_ | refine Dp pv_assign ?_ | refine Dp pv_nil_ptr ?_ | refine Dp pv_field ?_ | refine Dp pv_cmp ?_ | refine Dp pv_arith ?_ | refine Dp pv_index ?_ | refine Dp pv_len_slice ?_ | refine Dp pv_extract ?_ | refine Dp pv_not ?_ | refine Dp pv_build ?_ | refine Dp pv_eqnil ?_ | refine Dp pv_nenil ?_ | refine Dp pv_conv_int ?_ | refine Dp pv_max ?_ | refine Dp pv_min ?_ | refine Dp pv_pickT ?_ | refine Dp pv_pickF ?_ | refine Dp pv_eqb ?_ | refine Dp pv_neb ?_ | refine Dp pv_bits ?_ | refine Dp pv_sliceH ?_ | refine Dp pv_build0 ?_ | refine Dp pv_indexArr ?_ | refine Dp pv_sliceArr ?_ | refine Dp pv_sliceL ?_ | refine Dr rv_load ?_ | refine Dr rv_loadW ?_ | refine Dr rv_loadS ?_ | refine XDi_gF (h := ?_) | refine XDi_gU (h := ?_) | refine XD_pick (h := ?_) | refine X_draws (h := ?_))
    (refine XD_one (h := ?_); refine XDa_dvA (dv_of_rv (rv_of_pv pv_assign)) (hk := ?_); rintro _ _ ⟨rfl, rfl⟩; refine ⟨by (repeat (first | exact keeps_nil | exact keeps_fnil | refine keeps_skip (h := ?_) | refine keeps_takeA (hv := by first | exact rv_load | exact rv_loadW | exact rv_loadS) (h := ?_))), ?_⟩)
    (refine XD_one (h := ?_); refine XDa_dvA (dv_of_rv (rv_of_pv pv_assign)) (hk := ?_); rintro _ _ ⟨rfl, rfl⟩; refine ⟨by (repeat (first | exact keeps_nil | exact keeps_fnil | refine keeps_skip (h := ?_) | refine keeps_takeA (hv := by first | exact rv_load | exact rv_loadW | exact rv_loadS) (h := ?_))), ?_⟩)
    (refine XD_end (h := ?_); repeat (first | refine ZT ?_ | refine ZF ?_ | refine Zp pv_move ?_ | refine Zp pv_assign ?_ | refine Zp pv_nil_ptr ?_ | refine Zp pv_cmp ?_ | refine Zp pv_arith ?_ | refine Zp pv_field ?_ | refine Zr rv_load ?_ | refine Zp pv_len_slice ?_ | refine Zp pv_extract ?_ | refine Zp pv_not ?_ | refine Zp pv_index ?_ | refine Zr rv_loadW ?_ | refine Zr rv_loadS ?_ | refine Zp pv_pickT ?_ | refine Zp pv_pickF ?_ | refine Zp pv_max ?_ | refine Zp pv_min ?_ | refine Zp pv_eqnil ?_ | refine Zp pv_nenil ?_ | refine Zp pv_conv_int ?_ | refine Zp pv_build ?_ | refine Zp pv_eqb ?_ | refine Zp pv_neb ?_ | refine Zp pv_bits ?_ | refine Zp pv_shr12 ?_ | refine Zp pv_shl12 ?_ | refine Zp pv_quo ?_ | refine Zp pv_rem ?_ | refine Zp pv_neg ?_ | refine Zp pv_sliceH ?_ | refine Zp pv_build0 ?_ | refine Zp pv_makeFunc ?_ | refine Zp pv_indexArr ?_ | refine Zp pv_sliceArr ?_ | refine Zp pv_sliceL ?_ | refine XO_gU (hk := ?_) | refine Zp pv_nil_fn ?_ | refine X_seq ?_ | refine X_region ?_ | refine X_block ?_ | refine X_skip ?_ | refine X_exit ?_ | refine X_ret ?_ | refine XO_nil ?_ | refine XE_code ?_ | refine XE_block ?_ | refine XE_code_exit ?_ | refine XE_block_exit ?_ | refine XE_code_ret ?_ | refine XE_block_ret ?_ | refine XE_pred_ret ?_ | refine XE_pred_exit ?_ | refine XE_block_other rfl ?_))
    refine X_cond rfl (fun _ => ?_) (fun h => by cases h)
    repeat (first | refine ZT ?_ | refine ZF ?_ | refine Zp pv_move ?_ | refine Zp pv_assign ?_ | refine Zp pv_nil_ptr ?_ | refine Zp pv_cmp ?_ | refine Zp pv_arith ?_ | refine Zp pv_field ?_ | refine Zr rv_load ?_ | refine Zp pv_len_slice ?_ | refine Zp pv_extract ?_ | refine Zp pv_not ?_ | refine Zp pv_index ?_ | refine Zr rv_loadW ?_ | refine Zr rv_loadS ?_ | refine Zp pv_pickT ?_ | refine Zp pv_pickF ?_ | refine Zp pv_max ?_ | refine Zp pv_min ?_ | refine Zp pv_eqnil ?_ | refine Zp pv_nenil ?_ | refine Zp pv_conv_int ?_ | refine Zp pv_build ?_ | refine Zp pv_eqb ?_ | refine Zp pv_neb ?_ | refine Zp pv_bits ?_ | refine Zp pv_shr12 ?_ | refine Zp pv_shl12 ?_ | refine Zp pv_quo ?_ | refine Zp pv_rem ?_ | refine Zp pv_neg ?_ | refine Zp pv_sliceH ?_ | refine Zp pv_build0 ?_ | refine Zp pv_makeFunc ?_ | refine Zp pv_indexArr ?_ | refine Zp pv_sliceArr ?_ | refine Zp pv_sliceL ?_ | refine XO_gU (hk := ?_) | refine Zp pv_nil_fn ?_ | refine X_seq ?_ | refine X_region ?_ | refine X_block ?_ | refine X_skip ?_ | refine X_exit ?_ | refine X_ret ?_ | refine XO_nil ?_ | refine XE_code ?_ | refine XE_block ?_ | refine XE_code_exit ?_ | refine XE_block_exit ?_ | refine XE_code_ret ?_ | refine XE_block_ret ?_ | refine XE_pred_ret ?_ | refine XE_pred_exit ?_ | refine XE_block_other rfl ?_)
    refine XE_ret (.inl rfl) (tells_tmps rfl rfl) ⟨_, ⟨rfl, rfl⟩, ?_⟩
    (try simp only [List.cons_append, List.nil_append])
    refine ent_fold (by repeat (first | exact FindAll.nil | exact Find.here | apply Find.there | apply FindAll.cons)) Pg.fold ?_
    ((try simp only [List.cons_append, List.nil_append]); repeat (first | exact ent_refl | refine ent_take (by repeat (first | exact Find.here | apply Find.there)) ?_ | refine ent_drop ?_))
  | some ys =>
    rw [ht] at hpost
    obtain ⟨a', c', rfl, rfl⟩ := hpost
    refine ⟨by (repeat (first | exact keeps_nil | exact keeps_fnil | refine keeps_skip (h := ?_) | refine keeps_takeA (hv := by first | exact rv_load | exact rv_loadW | exact rv_loadS) (h := ?_))), ?_⟩
    repeat (first | refine Dp pv_move ?_ | refine Dp pv_assign ?_ | refine Dp pv_nil_ptr ?_ | refine Dp pv_field ?_ | refine Dp pv_cmp ?_ | refine Dp pv_arith ?_ | refine Dp pv_index ?_ | refine Dp pv_len_slice ?_ | refine Dp pv_extract ?_ | refine Dp pv_not ?_ | refine Dp pv_build ?_ | refine Dp pv_eqnil ?_ | refine Dp pv_nenil ?_ | refine Dp pv_conv_int ?_ | refine Dp pv_max ?_ | refine Dp pv_min ?_ | refine Dp pv_pickT ?_ | refine Dp pv_pickF ?_ | refine Dp pv_eqb ?_ | refine Dp pv_neb ?_ | refine Dp pv_bits ?_ | refine Dp pv_sliceH ?_ | refine Dp pv_build0 ?_ | refine Dp pv_indexArr ?_ | refine Dp pv_sliceArr ?_ | refine Dp pv_sliceL ?_ | refine Dr rv_load ?_ | refine Dr rv_loadW ?_ | refine Dr rv_loadS ?_ | refine XDi_gF (h := ?_) | refine XDi_gU (h := ?_) | refine XD_pick (h := ?_) | refine X_draws (h := ?_))
    (refine XD_one (h := ?_); refine XDa_dvA (dv_of_rv (rv_of_pv pv_assign)) (hk := ?_); rintro _ _ ⟨rfl, rfl⟩; refine ⟨by (repeat (first | exact keeps_nil | exact keeps_fnil | refine keeps_skip (h := ?_) | refine keeps_takeA (hv := by first | exact rv_load | exact rv_loadW | exact rv_loadS) (h := ?_))), ?_⟩)
    (refine XD_one (h := ?_); refine XDa_dvA (dv_of_rv (rv_of_pv pv_assign)) (hk := ?_); rintro _ _ ⟨rfl, rfl⟩; refine ⟨by (repeat (first | exact keeps_nil | exact keeps_fnil | refine keeps_skip (h := ?_) | refine keeps_takeA (hv := by first | exact rv_load | exact rv_loadW | exact rv_loadS) (h := ?_))), ?_⟩)
    (refine XD_end (h := ?_); repeat (first | refine ZT ?_ | refine ZF ?_ | refine Zp pv_move ?_ | refine Zp pv_assign ?_ | refine Zp pv_nil_ptr ?_ | refine Zp pv_cmp ?_ | refine Zp pv_arith ?_ | refine Zp pv_field ?_ | refine Zr rv_load ?_ | refine Zp pv_len_slice ?_ | refine Zp pv_extract ?_ | refine Zp pv_not ?_ | refine Zp pv_index ?_ | refine Zr rv_loadW ?_ | refine Zr rv_loadS ?_ | refine Zp pv_pickT ?_ | refine Zp pv_pickF ?_ | refine Zp pv_max ?_ | refine Zp pv_min ?_ | refine Zp pv_eqnil ?_ | refine Zp pv_nenil ?_ | refine Zp pv_conv_int ?_ | refine Zp pv_build ?_ | refine Zp pv_eqb ?_ | refine Zp pv_neb ?_ | refine Zp pv_bits ?_ | refine Zp pv_shr12 ?_ | refine Zp pv_shl12 ?_ | refine Zp pv_quo ?_ | refine Zp pv_rem ?_ | refine Zp pv_neg ?_ | refine Zp pv_sliceH ?_ | refine Zp pv_build0 ?_ | refine Zp pv_makeFunc ?_ | refine Zp pv_indexArr ?_ | refine Zp pv_sliceArr ?_ | refine Zp pv_sliceL ?_ | refine XO_gU (hk := ?_) | refine Zp pv_nil_fn ?_ | refine X_seq ?_ | refine X_region ?_ | refine X_block ?_ | refine X_skip ?_ | refine X_exit ?_ | refine X_ret ?_ | refine XO_nil ?_ | refine XE_code ?_ | refine XE_block ?_ | refine XE_code_exit ?_ | refine XE_block_exit ?_ | refine XE_code_ret ?_ | refine XE_block_ret ?_ | refine XE_pred_ret ?_ | refine XE_pred_exit ?_ | refine XE_block_other rfl ?_))
    refine X_cond rfl (fun h => by cases h) (fun _ => ?_)
    repeat (first | refine ZT ?_ | refine ZF ?_ | refine Zp pv_move ?_ | refine Zp pv_assign ?_ | refine Zp pv_nil_ptr ?_ | refine Zp pv_cmp ?_ | refine Zp pv_arith ?_ | refine Zp pv_field ?_ | refine Zr rv_load ?_ | refine Zp pv_len_slice ?_ | refine Zp pv_extract ?_ | refine Zp pv_not ?_ | refine Zp pv_index ?_ | refine Zr rv_loadW ?_ | refine Zr rv_loadS ?_ | refine Zp pv_pickT ?_ | refine Zp pv_pickF ?_ | refine Zp pv_max ?_ | refine Zp pv_min ?_ | refine Zp pv_eqnil ?_ | refine Zp pv_nenil ?_ | refine Zp pv_conv_int ?_ | refine Zp pv_build ?_ | refine Zp pv_eqb ?_ | refine Zp pv_neb ?_ | refine Zp pv_bits ?_ | refine Zp pv_shr12 ?_ | refine Zp pv_shl12 ?_ | refine Zp pv_quo ?_ | refine Zp pv_rem ?_ | refine Zp pv_neg ?_ | refine Zp pv_sliceH ?_ | refine Zp pv_build0 ?_ | refine Zp pv_makeFunc ?_ | refine Zp pv_indexArr ?_ | refine Zp pv_sliceArr ?_ | refine Zp pv_sliceL ?_ | refine XO_gU (hk := ?_) | refine Zp pv_nil_fn ?_ | refine X_seq ?_ | refine X_region ?_ | refine X_block ?_ | refine X_skip ?_ | refine X_exit ?_ | refine X_ret ?_ | refine XO_nil ?_ | refine XE_code ?_ | refine XE_block ?_ | refine XE_code_exit ?_ | refine XE_block_exit ?_ | refine XE_code_ret ?_ | refine XE_block_ret ?_ | refine XE_pred_ret ?_ | refine XE_pred_exit ?_ | refine XE_block_other rfl ?_)
    refine XO_call (done_spec b fr.length ys.length c c' P t a a' hl) (hk := ?_)
    rintro _ _ ⟨rfl, rfl⟩
    repeat (first | refine ZT ?_ | refine ZF ?_ | refine Zp pv_move ?_ | refine Zp pv_assign ?_ | refine Zp pv_nil_ptr ?_ | refine Zp pv_cmp ?_ | refine Zp pv_arith ?_ | refine Zp pv_field ?_ | refine Zr rv_load ?_ | refine Zp pv_len_slice ?_ | refine Zp pv_extract ?_ | refine Zp pv_not ?_ | refine Zp pv_index ?_ | refine Zr rv_loadW ?_ | refine Zr rv_loadS ?_ | refine Zp pv_pickT ?_ | refine Zp pv_pickF ?_ | refine Zp pv_max ?_ | refine Zp pv_min ?_ | refine Zp pv_eqnil ?_ | refine Zp pv_nenil ?_ | refine Zp pv_conv_int ?_ | refine Zp pv_build ?_ | refine Zp pv_eqb ?_ | refine Zp pv_neb ?_ | refine Zp pv_bits ?_ | refine Zp pv_shr12 ?_ | refine Zp pv_shl12 ?_ | refine Zp pv_quo ?_ | refine Zp pv_rem ?_ | refine Zp pv_neg ?_ | refine Zp pv_sliceH ?_ | refine Zp pv_build0 ?_ | refine Zp pv_makeFunc ?_ | refine Zp pv_indexArr ?_ | refine Zp pv_sliceArr ?_ | refine Zp pv_sliceL ?_ | refine XO_gU (hk := ?_) | refine Zp pv_nil_fn ?_ | refine X_seq ?_ | refine X_region ?_ | refine X_block ?_ | refine X_skip ?_ | refine X_exit ?_ | refine X_ret ?_ | refine XO_nil ?_ | refine XE_code ?_ | refine XE_block ?_ | refine XE_code_exit ?_ | refine XE_block_exit ?_ | refine XE_code_ret ?_ | refine XE_block_ret ?_ | refine XE_pred_ret ?_ | refine XE_pred_exit ?_ | refine XE_block_other rfl ?_)
    refine XE_ret (.inl rfl) (tells_tmps rfl rfl) ⟨_, ⟨rfl, rfl⟩, ?_⟩
    (try simp only [List.cons_append, List.nil_append])
    refine ent_fold (by repeat (first | exact FindAll.nil | exact Find.here | apply Find.there | apply FindAll.cons)) Pg.fold ?_
    ((try simp only [List.cons_append, List.nil_append]); repeat (first | exact ent_refl | refine ent_take (by repeat (first | exact Find.here | apply Find.there)) ?_ | refine ent_drop ?_))
theorem pruns_spec (b : Nat) (P t : Int) (fr : List (Int × Int)) (hl : fr.length ≤ 1048576) : Spec Try.prog 33 [.pointer (some ⟨b, 0, none⟩)] [Pg b P fr t] (fun v L => ∃ a c, v = .slice a fr.length c ∧ L = [Pg b P fr t, Sl eRun a c fr]) := by
  refine Spec.intro (IsEnt.out) Try.func33 rfl Try.ntmps33 (by simp) (fun w0 F => ?_)
  simp only [envOf, List.zipIdx, List.map, List.cons_append, List.nil_append, Nat.zero_add, Nat.reduceAdd]
  repeat (first | refine Zp pv_move ?_ | refine Zp pv_assign ?_ | refine Zp pv_eqnil ?_ | refine X_seq ?_ | refine X_region ?_ | refine XO_nil ?_ | refine XE_code ?_)
  refine X_cond rfl (fun h => by cases h) (fun _ => ?_)
  refine X_open .here Pg.open ?_
  rintro ⟨a, c⟩ -
  dsimp only [List.cons_append, List.nil_append]
  repeat (first | refine Zp pv_move ?_ | refine Zp pv_nil_ptr ?_ | refine Zp pv_field ?_ | refine Zr rv_load ?_ | refine X_seq ?_ | refine X_region ?_ | refine X_skip ?_ | refine XE_code ?_)
  refine XO_call (clone_spec (Sl eRun a c fr) a c fr.length fr rfl Sl.view hl) (hk := ?_)
  rintro _ _ ⟨a', c', rfl, rfl⟩
  repeat (first | refine Zp pv_assign ?_ | refine X_ret ?_ | refine XO_nil ?_ | refine XE_code ?_)
  refine XE_ret (.inl rfl) (tells_tmps rfl rfl) ⟨_, ⟨a', c', rfl, rfl⟩, ?_⟩
  (try simp only [List.cons_append, List.nil_append])
  refine ent_fold (by repeat (first | exact FindAll.nil | exact Find.here | apply Find.there | apply FindAll.cons)) Pg.fold ?_
  ((try simp only [List.cons_append, List.nil_append]); repeat (first | exact ent_refl | refine ent_take (by repeat (first | exact Find.here | apply Find.there)) ?_ | refine ent_drop ?_))
theorem pfree_spec (b : Nat) (P t : Int) (fr : List (Int × Int)) (hl : fr.length ≤ 1048576) (hB : Bd fr) : Spec Try.prog 30 [.pointer (some ⟨b, 0, none⟩)] [Pg b P fr t] (fun v L => v = .int .i64 (totI fr) ∧ L = [Pg b P fr t]) := by
  refine Spec.intro (IsEnt.out) Try.func30 rfl Try.ntmps30 (by simp) (fun w0 F => ?_)
  simp only [envOf, List.zipIdx, List.map, List.cons_append, List.nil_append, Nat.zero_add, Nat.reduceAdd]
  repeat (first | refine Zp pv_move ?_ | refine Zp pv_assign ?_ | refine X_seq ?_ | refine X_region ?_ | refine XO_nil ?_ | refine XE_code ?_)
  refine XO_call (pruns_spec b P t fr hl) (hk := ?_)
  rintro _ _ ⟨a', c', rfl, rfl⟩
  repeat (fail)
  refine XO_call (total_spec (Sl eRun a' c' fr) a' c' fr Sl.view hl hB) (hk := ?_)
  rintro _ _ ⟨rfl, rfl⟩
  repeat (first | refine Zp pv_assign ?_ | refine X_ret ?_ | refine XO_nil ?_ | refine XE_code ?_)
  refine XE_ret (.inl rfl) (tells_tmps rfl rfl) ⟨_, ⟨rfl, rfl⟩, by ((try simp only [List.cons_append, List.nil_append]); repeat (first | exact ent_refl | refine ent_take (by repeat (first | exact Find.here | apply Find.there)) ?_ | refine ent_drop ?_))⟩
end Go.Proofs.Yteobjankkcdaoaa.Sep
