import Derived.Test.YtamecmklcnohjaaGreatBn4
import Derived.Test.YtamecmklcnohjaaGreatBn2
import Derived.Test.YtamecmklcnohjaaGreatBn3
/- What the laws share: a separation logic over the model, and what the program's functions do, by it. Part 5 of 14: SepQ Runs RunsB RunsC RunsD Free Pagerun. -/
namespace Go.Proofs.YtamecmklcnohjaaGreat.Sep
open Go.RowKit
set_option linter.unusedSimpArgs false
set_option linter.unusedVariables false
/-! elements of slices, with what is known of them among the hypotheses -/
section
variable {P : Program} {w0 : World} {e : Env} {L R : List HP} {ty : TypeId} {α : Type} {E' : E α}
theorem rv_vA {T : TypeId} {x : Operand} {A : HP} {b o oo i f : Nat} {xs : List α} {x' : α} {v : Value} {dd : TypeDesc} [hu : TU P T dd] (hx : ev e x = some (.pointer (some ⟨b, oo, none⟩)) := by rfl) (hg : aggD dd = false := by rfl) (hV : View A E' (some ⟨b, o, none⟩) xs := by assumption) (hget : xs[i]? = some x' := by assumption)
    (ho : oo = o + i * E'.sz + f := by rfl) (hv : (E'.cells x')[f]? = some v := by rfl) (hf : Find L A R := by repeat (first | exact Find.here | apply Find.there)) : RV P w0 (.load T x) ty e L v := by
  subst ho; exact rv_velfG i f x' hV hf hx hg rfl hv hget
theorem rv_vA0 {T : TypeId} {x : Operand} {A : HP} {b o oo i : Nat} {xs : List α} {x' : α} {v : Value} {dd : TypeDesc} [hu : TU P T dd] (hx : ev e x = some (.pointer (some ⟨b, oo, none⟩)) := by rfl) (hg : aggD dd = false := by rfl) (hV : View A E' (some ⟨b, o, none⟩) xs := by assumption) (hget : xs[i]? = some x' := by assumption)
    (ho : oo = o + i * E'.sz := by rfl) (hv : (E'.cells x')[0]? = some v := by rfl) (hf : Find L A R := by repeat (first | exact Find.here | apply Find.there)) : RV P w0 (.load T x) ty e L v := by
  subst ho; exact rv_velfG i 0 x' hV hf hx hg rfl hv hget
theorem rv_veA {T : TypeId} {x : Operand} {A : HP} {b o oo i : Nat} {xs : List α} {x' : α} {dd : TypeDesc} {z : Value} {s' by' : Nat} [hu : TU P T dd] [hi : TI P T z s' by'] (hx : ev e x = some (.pointer (some ⟨b, oo, none⟩)) := by rfl) (hV : View A E' (some ⟨b, o, none⟩) xs := by assumption) (hg : aggD dd = E'.agg := by rfl) (hget : xs[i]? = some x' := by assumption)
    (ho : oo = o + i * E'.sz := by rfl) (hs' : s' = E'.sz := by rfl) (hf : Find L A R := by repeat (first | exact Find.here | apply Find.there)) : RV P w0 (.load T x) ty e L (E'.val x') := by
  subst ho; exact rv_velG i x' hV hf hx hg rfl hs' hget
theorem rv_sA {T : TypeId} {x : Operand} {b o oo i f c : Nat} {xs : List α} {x' : α} {v : Value} {dd : TypeDesc} [hu : TU P T dd] (hx : ev e x = some (.pointer (some ⟨b, oo, none⟩)) := by rfl) (hg : aggD dd = false := by rfl) (hf : Find L (Sl E' (some ⟨b, o, none⟩) c xs) R := by repeat (first | exact Find.here | apply Find.there)) (hget : xs[i]? = some x' := by assumption)
    (ho : oo = o + i * E'.sz + f := by rfl) (hv : (E'.cells x')[f]? = some v := by rfl) : RV P w0 (.load T x) ty e L v := by
  subst ho; exact rv_elfG i f x' hf hx hg rfl hv hget
theorem rv_sA0 {T : TypeId} {x : Operand} {b o oo i c : Nat} {xs : List α} {x' : α} {v : Value} {dd : TypeDesc} [hu : TU P T dd] (hx : ev e x = some (.pointer (some ⟨b, oo, none⟩)) := by rfl) (hg : aggD dd = false := by rfl) (hf : Find L (Sl E' (some ⟨b, o, none⟩) c xs) R := by repeat (first | exact Find.here | apply Find.there)) (hget : xs[i]? = some x' := by assumption)
    (ho : oo = o + i * E'.sz := by rfl) (hv : (E'.cells x')[0]? = some v := by rfl) : RV P w0 (.load T x) ty e L v := by
  subst ho; exact rv_elfG i 0 x' hf hx hg rfl hv hget
theorem rv_seA {T : TypeId} {x : Operand} {b o oo i c : Nat} {xs : List α} {x' : α} {dd : TypeDesc} {z : Value} {s' by' : Nat} [hu : TU P T dd] [hi : TI P T z s' by'] (hx : ev e x = some (.pointer (some ⟨b, oo, none⟩)) := by rfl) (hf : Find L (Sl E' (some ⟨b, o, none⟩) c xs) R := by repeat (first | exact Find.here | apply Find.there)) (hg : aggD dd = E'.agg := by rfl) (hget : xs[i]? = some x' := by assumption)
    (ho : oo = o + i * E'.sz := by rfl) (hs' : s' = E'.sz := by rfl) : RV P w0 (.load T x) ty e L (E'.val x') := by
  subst ho; exact rv_elG i x' hf hx hg rfl hs' hget
end
theorem pv_extractL {P : Program} {e : Env} {ty : TypeId} {x : Operand} {i : Nat} {vs : List Value} {v : Value} (hx : ev e x = some (.tuple vs.toArray) := by rfl) (hv : vs[i]? = some v := by rfl) : PV P (.extract x i) ty e (v) := pv_extract hx (by simpa using hv)
/-! one step, whatever it is: the lists of rules stand in the defaults of these theorems, and not in each proof -/
section
variable {P : Program} {w0 : World} {n : Nat} {Q : Exit → Act → World → Prop} {k : List KI} {e : Env} {L : List HP} {all ops : Array Oper} {rest : List Oper} {op : Op} {ty : TypeId} {pos : String} {aft : Array Edge} {d i : Nat} {D : Pend} {vl : List Nat} {v : Value}
theorem Zq (hk : XO ⟨P, w0, n, Q⟩ all k rest ((d, v) :: e) L)
    (h : PV P op ty e v := by first | exact pv_move | exact pv_assign | exact pv_field | exact pv_nil_ptr | exact pv_cmp | exact pv_arith | exact pv_extractL | exact pv_extract | exact pv_len_slice | exact pv_index | exact pv_not | exact pv_pickT | exact pv_pickF | exact pv_conv_int | exact pv_build | exact pv_eqb | exact pv_neb | exact pv_eqnil | exact pv_nenil | exact pv_max | exact pv_min | exact pv_bits | exact pv_shr12 | exact pv_shl12 | exact pv_quo | exact pv_rem | exact pv_neg | exact pv_sliceH | exact pv_build0 | exact pv_makeFunc | exact pv_indexArr | exact pv_sliceArr | exact pv_sliceL | exact pv_nil_fn) (hd : d < n := by exact Nat.le_of_ble_eq_true rfl) : XO ⟨P, w0, n, Q⟩ all k (⟨some d, op, ty, pos, aft, none⟩ :: rest) e L := XO_pv h hd hk
theorem Zs (hk : XO ⟨P, w0, n, Q⟩ all k rest ((d, v) :: e) L)
    (h : RV P w0 op ty e L v := by first | exact rv_load | exact rv_loadW | exact rv_loadS | exact rv_vA | exact rv_vA0 | exact rv_sA | exact rv_sA0 | exact rv_veA | exact rv_seA) (hd : d < n := by exact Nat.le_of_ble_eq_true rfl) : XO ⟨P, w0, n, Q⟩ all k (⟨some d, op, ty, pos, aft, none⟩ :: rest) e L := XO_rv h hd hk
theorem Zc {g g' : Prop} (h : g') (s : g' → g := by first | exact XO_nil | exact X_seq | exact X_region | exact X_block | exact X_skip | exact X_exit | exact X_ret | exact XE_code | exact XE_block | exact XE_code_exit | exact XE_block_exit | exact XE_code_ret | exact XE_block_ret | exact XE_pred_ret | exact XE_pred_exit | exact XE_block_other rfl) : g := s h
theorem Dq {g : Option (Nat × Bool)} (h : XD ⟨P, w0, n, Q⟩ ops k ((i, v, true) :: D) (i :: vl) ((d, v) :: e) L)
    (hv : PV P op ty (restr e (Oper.looksAt ops ⟨some d, op, ty, pos, aft, g⟩)) v := by first | exact pv_move | exact pv_assign | exact pv_field | exact pv_nil_ptr | exact pv_cmp | exact pv_arith | exact pv_extractL | exact pv_extract | exact pv_len_slice | exact pv_index | exact pv_not | exact pv_pickT | exact pv_pickF | exact pv_conv_int | exact pv_build | exact pv_eqb | exact pv_neb | exact pv_eqnil | exact pv_nenil | exact pv_max | exact pv_min | exact pv_bits | exact pv_shr12 | exact pv_shl12 | exact pv_quo | exact pv_rem | exact pv_neg | exact pv_sliceH | exact pv_build0 | exact pv_makeFunc | exact pv_indexArr | exact pv_sliceArr | exact pv_sliceL) (hg : GOK ops e g := by first | exact True.intro | exact ⟨_, rfl, rfl⟩)
    (hl : (Oper.looksAt ops ⟨some d, op, ty, pos, aft, g⟩).contains d = false := by kernel_rfl) (hdis : (D.all fun p => match ops[p.1]? with | some oj => !(oj.looksAt ops).contains d | none => true) = true := by kernel_rfl) (hdn : d < n := by exact Nat.le_of_ble_eq_true rfl) : XDi ⟨P, w0, n, Q⟩ ops k D vl e L i ⟨some d, op, ty, pos, aft, g⟩ := Dp hv h hg hl hdis hdn
theorem Ds {g : Option (Nat × Bool)} (h : XD ⟨P, w0, n, Q⟩ ops k ((i, v, false) :: D) (i :: vl) ((d, v) :: e) L)
    (hv : RV P w0 op ty (restr e (Oper.looksAt ops ⟨some d, op, ty, pos, aft, g⟩)) L v := by first | exact rv_load | exact rv_loadW | exact rv_loadS | exact rv_vA | exact rv_vA0 | exact rv_sA | exact rv_sA0 | exact rv_veA | exact rv_seA) (hg : GOK ops e g := by first | exact True.intro | exact ⟨_, rfl, rfl⟩)
    (hl : (Oper.looksAt ops ⟨some d, op, ty, pos, aft, g⟩).contains d = false := by kernel_rfl) (hdis : (D.all fun p => match ops[p.1]? with | some oj => !(oj.looksAt ops).contains d | none => true) = true := by kernel_rfl) (hdn : d < n := by exact Nat.le_of_ble_eq_true rfl) : XDi ⟨P, w0, n, Q⟩ ops k D vl e L i ⟨some d, op, ty, pos, aft, g⟩ := Dr hv h hg hl hdis hdn
theorem keeps_takeQ {f : Nat × Value × Bool → Bool} {j : Nat} {K : Pend} {b : Bool} {g : Option (Nat × Bool)} (ho : ops[j]? = some ⟨some d, op, ty, pos, aft, g⟩ := by rfl) (hv : RV P w0 op ty (restr e (Oper.looksAt ops ⟨some d, op, ty, pos, aft, g⟩)) L v := by first | exact rv_load | exact rv_loadW | exact rv_loadS | exact rv_vA | exact rv_vA0 | exact rv_sA | exact rv_sA0 | exact rv_veA | exact rv_seA) (hg : GOK ops e g := by first | exact True.intro | exact ⟨_, rfl, rfl⟩) (hb : b = false := by rfl) (h : Keeps ⟨P, w0, n, Q⟩ ops e L (List.filter f K)) :
    Keeps ⟨P, w0, n, Q⟩ ops e L (List.filter f ((j, v, b) :: K)) := keeps_takeA ho hv hg hb h
end
end Go.Proofs.YtamecmklcnohjaaGreat.Sep
namespace Go.Proofs.YtamecmklcnohjaaGreat.Sep
open Go.RowKit
set_option linter.unusedSimpArgs false
set_option linter.unusedVariables false
set_option maxHeartbeats 8000000
attribute [local irreducible] X XE XO XD XDi XDa PV RV DV pt base Spec Sl Mp Keeps

/-! ### lists of runs -/
def eRun : E (Int × Int) := ⟨2, true, fun p => [.int .i64 p.1, .int .i64 p.2], fun _ => rfl, fun _ _ h => by simp at h; rcases h with rfl | rfl <;> rfl, by decide, fun h => by cases h⟩
/-- Runs that lie within the pages that may be. -/
def Bd (xs : List (Int × Int)) : Prop := ∀ r ∈ xs, 0 ≤ r.1 ∧ 0 ≤ r.2 ∧ r.1 + r.2 ≤ 1048576
def less (xs : List (Int × Int)) (i : Nat) : Option Nat → Bool
  | none => true
  | some j => decide ((xs.getD i (0, 0)).2 < (xs.getD j (0, 0)).2)
def bestU (xs : List (Int × Int)) (n : Int) : Nat → Option Nat
  | 0 => none
  | i + 1 => if 0 < n ∧ n ≤ (xs.getD i (0, 0)).2 ∧ less xs i (bestU xs n i) = true then some i else bestU xs n i
def optI : Option Nat → Int
  | none => -1
  | some i => i
theorem bestU_lt {xs : List (Int × Int)} {n : Int} : ∀ {i j : Nat}, bestU xs n i = some j → j < i
  | 0, j, h => by cases h
  | i + 1, j, h => by
    unfold bestU at h
    split at h
    · cases h; omega
    · have := bestU_lt h; omega
theorem end_spec (p n : Int) (h1 : 0 ≤ p) (h2 : 0 ≤ n) (h3 : p + n ≤ 4611686018427387904) : Spec Tryz.prog 170 [.agg #[.int .i64 p, .int .i64 n]] [] (fun v L => v = .int .i64 (p + n) ∧ L = []) := by
  refine Spec.intro (IsEnt.out) Tryz.func170 rfl Tryz.ntmps170 (by simp) (fun w0 F => ?_)
  simp only [envOf, List.zipIdx, List.map, List.cons_append, List.nil_append, Nat.zero_add, Nat.reduceAdd]
  repeat (first | refine Zq ?_ | refine Zs ?_ | refine ZT ?_ | refine ZF ?_ | refine Zc ?_ | refine XO_gU (hk := ?_))
  refine XO_dv dv_box (hk := ?_)
  rintro _ _ ⟨b1, rfl, rfl⟩
  repeat (first | refine Zq ?_ | refine Zs ?_ | refine ZT ?_ | refine ZF ?_ | refine Zc ?_ | refine XO_gU (hk := ?_))
  refine XE_ret (.inl rfl) (tells_tmps rfl rfl) ⟨_, ⟨rfl, rfl⟩, by ((try simp only [List.cons_append, List.nil_append]); repeat (first | exact ent_refl | refine ent_take (by repeat (first | exact Find.here | apply Find.there)) ?_ | refine ent_drop ?_))⟩
theorem best_spec (A : HP) (a : Option Addr) (c : Nat) (xs : List (Int × Int)) (n : Int) (hV : View A eRun a xs) (hl : xs.length ≤ 4611686018427387904) :
    Spec Tryz.prog 189 [.slice a xs.length c, .int .i64 n] [A] (fun v L => v = .int .i64 (optI (bestU xs n xs.length)) ∧ L = [A]) := by
  refine Spec.intro (IsEnt.out) Tryz.func189 rfl Tryz.ntmps189 (by simp) (fun w0 F => ?_)
  simp only [envOf, List.zipIdx, List.map, List.cons_append, List.nil_append, Nat.zero_add, Nat.reduceAdd]
  repeat (first | refine Zq ?_ | refine Zs ?_ | refine ZT ?_ | refine ZF ?_ | refine Zc ?_ | refine XO_gU (hk := ?_))
  refine X_loop (ι := Nat) (fun k => k ≤ xs.length) (fun k => [(0, .slice a xs.length c), (1, .int .i64 n), (8, .slice a xs.length c), (9, .int .i64 (xs.length : Int)), (10, .int .i64 k), (5, .int .i64 (optI (bestU xs n k)))]) (fun _ => A :: F) (fun k => xs.length - k) 0 (Nat.zero_le _) ?_ (by ((try simp only [List.cons_append, List.nil_append]); repeat (first | exact ent_refl | refine ent_take (by repeat (first | exact Find.here | apply Find.there)) ?_ | refine ent_drop ?_))) ?_
  · (repeat (first | exact Env.sub_nil _ | refine Env.sub_cons rfl ?_))
  intro k hk
  dsimp only at hk ⊢
  repeat (first | refine Zq ?_ | refine Zs ?_ | refine ZT ?_ | refine ZF ?_ | refine Zc ?_ | refine XO_gU (hk := ?_))
  refine X_cond rfl (fun hc => ?_) (fun hc => ?_) <;> simp only [decide_eq_true_eq, decide_eq_false_iff_not] at hc
  · have hkl : k < xs.length := by omega
    refine X_view .here hV (by omega) ?_
    rintro b o rfl
    repeat (first | refine Zq ?_ | refine Zs ?_ | refine ZT ?_ | refine ZF ?_ | refine Zc ?_ | refine XO_gU (hk := ?_))
    refine XO_rv (rv_vel (i := k) (hV := hV)) (hk := ?_)
    repeat (first | refine Zq ?_ | refine Zs ?_ | refine ZT ?_ | refine ZF ?_ | refine Zc ?_ | refine XO_gU (hk := ?_))
    refine XO_dv dv_alloc (hk := ?_)
    rintro _ _ ⟨cb, rfl, rfl⟩
    repeat (first | refine Zq ?_ | refine Zs ?_ | refine ZT ?_ | refine ZF ?_ | refine Zc ?_ | refine XO_gU (hk := ?_))
    refine XO_dv0 dv_storeW (hk := ?_)
    rintro _ _ rfl
    repeat (first | refine Zq ?_ | refine Zs ?_ | refine ZT ?_ | refine ZF ?_ | refine Zc ?_ | refine XO_gU (hk := ?_))
    have hgk : xs.getD k (0, 0) = xs[k] := by simp [List.getD, hkl]
    repeat (first | refine XD_pick (h := ?_) | refine Dq ?_ | refine Ds ?_ | refine XDi_gF (h := ?_) | refine XDi_gU (h := ?_) | refine X_draws (h := ?_))
    refine XDi_either (hT := fun h => ?_) (hF := fun h => ?_) <;> simp only [decide_eq_true_eq, decide_eq_false_iff_not] at h
    · repeat (first | refine XD_pick (h := ?_) | refine Dq ?_ | refine Ds ?_ | refine XDi_gF (h := ?_) | refine XDi_gU (h := ?_) | refine X_draws (h := ?_))
      refine XDi_either (hT := fun h2 => ?_) (hF := fun h2 => ?_) <;> simp only [decide_eq_true_eq, decide_eq_false_iff_not] at h2
      · cases hb : bestU xs n k with
        | none =>
          have hb1 : bestU xs n (k + 1) = some k := by unfold bestU; rw [if_pos ⟨h, by rw [hgk]; exact h2, by rw [hb]; rfl⟩]
          repeat (first | refine XD_pick (h := ?_) | refine Dq ?_ | refine Ds ?_ | refine XDi_gF (h := ?_) | refine XDi_gU (h := ?_) | refine X_draws (h := ?_))
          refine XD_end (h := ?_)
          repeat (first | refine Zq ?_ | refine Zs ?_ | refine ZT ?_ | refine ZF ?_ | refine Zc ?_ | refine XO_gU (hk := ?_))
          refine X_cond rfl (fun _ => ?_) (fun h => by cases h)
          repeat (first | refine Zq ?_ | refine Zs ?_ | refine ZT ?_ | refine ZF ?_ | refine Zc ?_ | refine XO_gU (hk := ?_))
          refine X_round (k + 1) (by show k + 1 ≤ _; omega) (by show xs.length - (k + 1) < xs.length - k; omega) (by rw [hb1]; (repeat (first | exact Env.sub_nil _ | refine Env.sub_cons rfl ?_))) (by ((try simp only [List.cons_append, List.nil_append]); repeat (first | exact ent_refl | refine ent_take (by repeat (first | exact Find.here | apply Find.there)) ?_ | refine ent_drop ?_)))
        | some j =>
          have hj := bestU_lt hb
          have hjl : j < xs.length := by omega
          have hgj : xs.getD j (0, 0) = xs[j] := by simp [List.getD, hjl]
          repeat (first | refine XD_pick (h := ?_) | refine Dq ?_ | refine Ds ?_ | refine XDi_gF (h := ?_) | refine XDi_gU (h := ?_) | refine X_draws (h := ?_))
          refine XDi_known false (hb := decide_eq_false (by show ¬ (j : Int) < 0; omega)) (hT := ?_)
          repeat (first | refine XD_pick (h := ?_) | refine Dq ?_ | refine Ds ?_ | refine XDi_gF (h := ?_) | refine XDi_gU (h := ?_) | refine X_draws (h := ?_))
          refine XDi_pvA (pv_index (iv := j)) (h := ?_)
          repeat (first | refine XD_pick (h := ?_) | refine Dq ?_ | refine Ds ?_ | refine XDi_gF (h := ?_) | refine XDi_gU (h := ?_) | refine X_draws (h := ?_))
          refine XDi_rvA (rv_velf (i := j) (f := 1) (hV := hV)) (h := ?_)
          repeat (first | refine XD_pick (h := ?_) | refine Dq ?_ | refine Ds ?_ | refine XDi_gF (h := ?_) | refine XDi_gU (h := ?_) | refine X_draws (h := ?_))
          refine XD_end (h := ?_)
          repeat (first | refine Zq ?_ | refine Zs ?_ | refine ZT ?_ | refine ZF ?_ | refine Zc ?_ | refine XO_gU (hk := ?_))
          refine X_cond rfl (fun h3 => ?_) (fun h3 => ?_) <;> simp only [decide_eq_true_eq, decide_eq_false_iff_not] at h3
          · have hb1 : bestU xs n (k + 1) = some k := by unfold bestU; rw [if_pos ⟨h, by rw [hgk]; exact h2, by rw [hb]; show decide _ = true; rw [hgk, hgj]; exact decide_eq_true h3⟩]
            repeat (first | refine Zq ?_ | refine Zs ?_ | refine ZT ?_ | refine ZF ?_ | refine Zc ?_ | refine XO_gU (hk := ?_))
            refine X_round (k + 1) (by show k + 1 ≤ _; omega) (by show xs.length - (k + 1) < xs.length - k; omega) (by rw [hb1]; (repeat (first | exact Env.sub_nil _ | refine Env.sub_cons rfl ?_))) (by ((try simp only [List.cons_append, List.nil_append]); repeat (first | exact ent_refl | refine ent_take (by repeat (first | exact Find.here | apply Find.there)) ?_ | refine ent_drop ?_)))
          · have hb1 : bestU xs n (k + 1) = some j := by rw [bestU, if_neg (fun h' => h3 (by have := h'.2.2; rw [hb] at this; have this : decide ((xs.getD k (0, 0)).2 < (xs.getD j (0, 0)).2) = true := this; rw [hgk, hgj] at this; exact of_decide_eq_true this)), hb]
            repeat (first | refine Zq ?_ | refine Zs ?_ | refine ZT ?_ | refine ZF ?_ | refine Zc ?_ | refine XO_gU (hk := ?_))
            refine X_round (k + 1) (by show k + 1 ≤ _; omega) (by show xs.length - (k + 1) < xs.length - k; omega) (by rw [hb1]; (repeat (first | exact Env.sub_nil _ | refine Env.sub_cons rfl ?_))) (by ((try simp only [List.cons_append, List.nil_append]); repeat (first | exact ent_refl | refine ent_take (by repeat (first | exact Find.here | apply Find.there)) ?_ | refine ent_drop ?_)))
      · have hb1 : bestU xs n (k + 1) = bestU xs n k := by rw [bestU, if_neg (fun h' => h2 (by rw [← hgk]; exact h'.2.1))]
        repeat (first | refine XD_pick (h := ?_) | refine Dq ?_ | refine Ds ?_ | refine XDi_gF (h := ?_) | refine XDi_gU (h := ?_) | refine X_draws (h := ?_))
        refine XD_end (h := ?_)
        repeat (first | refine Zq ?_ | refine Zs ?_ | refine ZT ?_ | refine ZF ?_ | refine Zc ?_ | refine XO_gU (hk := ?_))
        refine X_cond rfl (fun h => by cases h) (fun _ => ?_)
        repeat (first | refine Zq ?_ | refine Zs ?_ | refine ZT ?_ | refine ZF ?_ | refine Zc ?_ | refine XO_gU (hk := ?_))
        refine X_round (k + 1) (by show k + 1 ≤ _; omega) (by show xs.length - (k + 1) < xs.length - k; omega) (by rw [hb1]; (repeat (first | exact Env.sub_nil _ | refine Env.sub_cons rfl ?_))) (by ((try simp only [List.cons_append, List.nil_append]); repeat (first | exact ent_refl | refine ent_take (by repeat (first | exact Find.here | apply Find.there)) ?_ | refine ent_drop ?_)))
    · have hb1 : bestU xs n (k + 1) = bestU xs n k := by rw [bestU, if_neg (fun h' => h h'.1)]
      repeat (first | refine XD_pick (h := ?_) | refine Dq ?_ | refine Ds ?_ | refine XDi_gF (h := ?_) | refine XDi_gU (h := ?_) | refine X_draws (h := ?_))
      refine XD_end (h := ?_)
      repeat (first | refine Zq ?_ | refine Zs ?_ | refine ZT ?_ | refine ZF ?_ | refine Zc ?_ | refine XO_gU (hk := ?_))
      refine X_cond rfl (fun h => by cases h) (fun _ => ?_)
      repeat (first | refine Zq ?_ | refine Zs ?_ | refine ZT ?_ | refine ZF ?_ | refine Zc ?_ | refine XO_gU (hk := ?_))
      refine X_round (k + 1) (by show k + 1 ≤ _; omega) (by show xs.length - (k + 1) < xs.length - k; omega) (by rw [hb1]; (repeat (first | exact Env.sub_nil _ | refine Env.sub_cons rfl ?_))) (by ((try simp only [List.cons_append, List.nil_append]); repeat (first | exact ent_refl | refine ent_take (by repeat (first | exact Find.here | apply Find.there)) ?_ | refine ent_drop ?_)))
  · obtain rfl : k = xs.length := by omega
    repeat (first | refine Zq ?_ | refine Zs ?_ | refine ZT ?_ | refine ZF ?_ | refine Zc ?_ | refine XO_gU (hk := ?_))
    refine XE_ret (.inl rfl) (tells_tmps rfl rfl) ⟨_, ⟨rfl, rfl⟩, by ((try simp only [List.cons_append, List.nil_append]); repeat (first | exact ent_refl | refine ent_take (by repeat (first | exact Find.here | apply Find.there)) ?_ | refine ent_drop ?_))⟩
/-- The place of the first run that doesn't end ahead of a page. -/
def afterI (xs : List (Int × Int)) (p : Int) : Nat := xs.findIdx (fun r => decide (p ≤ r.1 + r.2))
theorem after_spec (A : HP) (a : Option Addr) (c : Nat) (xs : List (Int × Int)) (p : Int) (hV : View A eRun a xs) (hl : xs.length ≤ 4611686018427387904) (hB : Bd xs) :
    Spec Tryz.prog 169 [.slice a xs.length c, .int .i64 p] [A] (fun v L => v = .int .i64 (afterI xs p : Int) ∧ L = [A]) := by
  refine Spec.intro (IsEnt.out) Tryz.func169 rfl Tryz.ntmps169 (by simp) (fun w0 F => ?_)
  simp only [envOf, List.zipIdx, List.map, List.cons_append, List.nil_append, Nat.zero_add, Nat.reduceAdd]
  repeat (first | refine Zq ?_ | refine Zs ?_ | refine ZT ?_ | refine ZF ?_ | refine Zc ?_ | refine XO_gU (hk := ?_))
  refine X_loop (ι := Nat) (fun k => k ≤ xs.length ∧ ∀ j (hj : j < xs.length), j < k → xs[j].1 + xs[j].2 < p) (fun k => [(0, .slice a xs.length c), (1, .int .i64 p), (7, .slice a xs.length c), (8, .int .i64 (xs.length : Int)), (9, .int .i64 k)]) (fun _ => A :: F) (fun k => xs.length - k) 0 ⟨Nat.zero_le _, fun _ _ h => by omega⟩ ?_ (by ((try simp only [List.cons_append, List.nil_append]); repeat (first | exact ent_refl | refine ent_take (by repeat (first | exact Find.here | apply Find.there)) ?_ | refine ent_drop ?_))) ?_
  · (repeat (first | exact Env.sub_nil _ | refine Env.sub_cons rfl ?_))
  rintro k ⟨hk, hall⟩
  dsimp only at hk hall ⊢
  repeat (first | refine Zq ?_ | refine Zs ?_ | refine ZT ?_ | refine ZF ?_ | refine Zc ?_ | refine XO_gU (hk := ?_))
  refine X_cond rfl (fun hc => ?_) (fun hc => ?_) <;> simp only [decide_eq_true_eq, decide_eq_false_iff_not] at hc
  · have hkl : k < xs.length := by omega
    refine X_view .here hV (by omega) ?_
    rintro b o rfl
    obtain ⟨g1, g2, g3⟩ := hB xs[k] (List.getElem_mem hkl)
    repeat (first | refine Zq ?_ | refine Zs ?_ | refine ZT ?_ | refine ZF ?_ | refine Zc ?_ | refine XO_gU (hk := ?_))
    refine XO_rv (rv_vel (i := k) (hV := hV)) (hk := ?_)
    repeat (first | refine Zq ?_ | refine Zs ?_ | refine ZT ?_ | refine ZF ?_ | refine Zc ?_ | refine XO_gU (hk := ?_))
    refine XO_dv dv_alloc (hk := ?_)
    rintro _ _ ⟨cb, rfl, rfl⟩
    repeat (first | refine Zq ?_ | refine Zs ?_ | refine ZT ?_ | refine ZF ?_ | refine Zc ?_ | refine XO_gU (hk := ?_))
    refine XO_dv0 dv_storeW (hk := ?_)
    rintro _ _ rfl
    repeat (first | refine Zq ?_ | refine Zs ?_ | refine ZT ?_ | refine ZF ?_ | refine Zc ?_ | refine XO_gU (hk := ?_))
    refine XO_call (end_spec xs[k].1 xs[k].2 g1 g2 (by omega)) (hk := ?_)
    rintro _ _ ⟨rfl, rfl⟩
    repeat (first | refine Zq ?_ | refine Zs ?_ | refine ZT ?_ | refine ZF ?_ | refine Zc ?_ | refine XO_gU (hk := ?_))
    refine X_cond rfl (fun h3 => ?_) (fun h3 => ?_) <;> simp only [decide_eq_true_eq, decide_eq_false_iff_not] at h3
    · have he : afterI xs p = k := by
        unfold afterI
        refine (List.findIdx_eq hkl).2 ⟨by simpa using h3, fun j hj => ?_⟩
        have := hall j (by omega) hj
        simp; omega
      repeat (first | refine Zq ?_ | refine Zs ?_ | refine ZT ?_ | refine ZF ?_ | refine Zc ?_ | refine XO_gU (hk := ?_))
      refine XE_ret (.inl rfl) (tells_tmps rfl rfl) ⟨_, ⟨?_, rfl⟩, by ((try simp only [List.cons_append, List.nil_append]); repeat (first | exact ent_refl | refine ent_take (by repeat (first | exact Find.here | apply Find.there)) ?_ | refine ent_drop ?_))⟩
      rw [he]; rfl
    · repeat (first | refine Zq ?_ | refine Zs ?_ | refine ZT ?_ | refine ZF ?_ | refine Zc ?_ | refine XO_gU (hk := ?_))
      refine X_round (k + 1) ⟨by omega, fun j hj hlt => ?_⟩ (by show xs.length - (k + 1) < xs.length - k; omega) (by (repeat (first | exact Env.sub_nil _ | refine Env.sub_cons rfl ?_))) (by ((try simp only [List.cons_append, List.nil_append]); repeat (first | exact ent_refl | refine ent_take (by repeat (first | exact Find.here | apply Find.there)) ?_ | refine ent_drop ?_)))
      rcases Nat.lt_or_ge j k with h | h
      · exact hall j hj h
      · obtain rfl : j = k := by omega
        omega
  · obtain rfl : k = xs.length := by omega
    have he : afterI xs p = xs.length := by
      unfold afterI
      rw [List.findIdx_eq_length]
      intro x hx
      obtain ⟨j, hj, rfl⟩ := List.getElem_of_mem hx
      have := hall j hj hj
      simp; omega
    repeat (first | refine Zq ?_ | refine Zs ?_ | refine ZT ?_ | refine ZF ?_ | refine Zc ?_ | refine XO_gU (hk := ?_))
    rw [← he]
    refine XE_ret (.inl rfl) (tells_tmps rfl rfl) ⟨_, ⟨rfl, rfl⟩, by ((try simp only [List.cons_append, List.nil_append]); repeat (first | exact ent_refl | refine ent_take (by repeat (first | exact Find.here | apply Find.there)) ?_ | refine ent_drop ?_))⟩
def totI (xs : List (Int × Int)) : Int := (xs.map (·.2)).sum
theorem total_spec (A : HP) (a : Option Addr) (c : Nat) (xs : List (Int × Int)) (hV : View A eRun a xs) (hl : xs.length ≤ 1048576) (hB : Bd xs) :
    Spec Tryz.prog 134 [.slice a xs.length c] [A] (fun v L => v = .int .i64 (totI xs) ∧ L = [A]) := by
  refine Spec.intro (IsEnt.out) Tryz.func134 rfl Tryz.ntmps134 (by simp) (fun w0 F => ?_)
  simp only [envOf, List.zipIdx, List.map, List.cons_append, List.nil_append, Nat.zero_add, Nat.reduceAdd]
  repeat (first | refine Zq ?_ | refine Zs ?_ | refine ZT ?_ | refine ZF ?_ | refine Zc ?_ | refine XO_gU (hk := ?_))
  refine X_loop (ι := Nat) (fun k => k ≤ xs.length) (fun k => [(0, .slice a xs.length c), (6, .slice a xs.length c), (7, .int .i64 (xs.length : Int)), (8, .int .i64 k), (3, .int .i64 (totI (xs.take k)))]) (fun _ => A :: F) (fun k => xs.length - k) 0 (Nat.zero_le _) ?_ (by ((try simp only [List.cons_append, List.nil_append]); repeat (first | exact ent_refl | refine ent_take (by repeat (first | exact Find.here | apply Find.there)) ?_ | refine ent_drop ?_))) ?_
  · (repeat (first | exact Env.sub_nil _ | refine Env.sub_cons rfl ?_))
  intro k hk
  dsimp only at hk ⊢
  repeat (first | refine Zq ?_ | refine Zs ?_ | refine ZT ?_ | refine ZF ?_ | refine Zc ?_ | refine XO_gU (hk := ?_))
  refine X_cond rfl (fun hc => ?_) (fun hc => ?_) <;> simp only [decide_eq_true_eq, decide_eq_false_iff_not] at hc
  · have hkl : k < xs.length := by omega
    refine X_view .here hV (by omega) ?_
    rintro b o rfl
    obtain ⟨g1, g2, g3⟩ := hB xs[k] (List.getElem_mem hkl)
    have hs : totI (xs.take (k + 1)) = totI (xs.take k) + xs[k].2 := by
      unfold totI
      rw [List.take_succ_eq_append_getElem hkl, List.map_append, List.sum_append]; simp
    have hb : ∀ l : List (Int × Int), (∀ r ∈ l, 0 ≤ r.1 ∧ 0 ≤ r.2 ∧ r.1 + r.2 ≤ 1048576) → 0 ≤ totI l ∧ totI l ≤ 1048576 * l.length := by
      intro l
      induction l with
      | nil => intro _; simp [totI]
      | cons r l ih =>
        intro h
        have h1 := h r (by simp)
        have h2 := ih (fun q hq => h q (by simp [hq]))
        have : totI (r :: l) = r.2 + totI l := by simp [totI]
        rw [this]; simp; omega
    have hb1 := hb (xs.take k) (fun r hr => hB r (List.mem_of_mem_take hr))
    have hlk : ((xs.take k).length : Int) ≤ 1048576 := by simp; omega
    repeat (first | refine Zq ?_ | refine Zs ?_ | refine ZT ?_ | refine ZF ?_ | refine Zc ?_ | refine XO_gU (hk := ?_))
    refine XO_rv (rv_vel (i := k) (hV := hV)) (hk := ?_)
    repeat (first | refine Zq ?_ | refine Zs ?_ | refine ZT ?_ | refine ZF ?_ | refine Zc ?_ | refine XO_gU (hk := ?_))
    refine XO_dv dv_alloc (hk := ?_)
    rintro _ _ ⟨cb, rfl, rfl⟩
    repeat (first | refine Zq ?_ | refine Zs ?_ | refine ZT ?_ | refine ZF ?_ | refine Zc ?_ | refine XO_gU (hk := ?_))
    refine XO_dv0 dv_storeW (hk := ?_)
    rintro _ _ rfl
    repeat (first | refine Zq ?_ | refine Zs ?_ | refine ZT ?_ | refine ZF ?_ | refine Zc ?_ | refine XO_gU (hk := ?_))
    refine X_round (k + 1) (by show k + 1 ≤ _; omega) (by show xs.length - (k + 1) < xs.length - k; omega) (by rw [hs]; (repeat (first | exact Env.sub_nil _ | refine Env.sub_cons rfl ?_))) (by ((try simp only [List.cons_append, List.nil_append]); repeat (first | exact ent_refl | refine ent_take (by repeat (first | exact Find.here | apply Find.there)) ?_ | refine ent_drop ?_)))
  · obtain rfl : k = xs.length := by omega
    rw [List.take_length]
    repeat (first | refine Zq ?_ | refine Zs ?_ | refine ZT ?_ | refine ZF ?_ | refine Zc ?_ | refine XO_gU (hk := ?_))
    refine XE_ret (.inl rfl) (tells_tmps rfl rfl) ⟨_, ⟨rfl, rfl⟩, by ((try simp only [List.cons_append, List.nil_append]); repeat (first | exact ent_refl | refine ent_take (by repeat (first | exact Find.here | apply Find.there)) ?_ | refine ent_drop ?_))⟩
end Go.Proofs.YtamecmklcnohjaaGreat.Sep
namespace Go.Proofs.YtamecmklcnohjaaGreat.Sep
open Go.RowKit
set_option linter.unusedSimpArgs false
set_option linter.unusedVariables false
set_option maxHeartbeats 8000000
attribute [local irreducible] X XE XO XD XDi XDa PV RV DV pt base Spec Sl Mp Keeps

/-- Whether a run has one of some pages. -/
def hasB (p n : Int) (r : Int × Int) : Bool := decide (0 < n ∧ (p < 0 ∧ r.1 < p + n ∨ 0 ≤ p ∧ r.1 - p < n) ∧ p < r.1 + r.2)
theorem has1_spec (b1 b2 : Nat) (p n : Int) (r : Int × Int) (h1 : 0 ≤ p) (h2 : p ≤ 1048576) (g1 : 0 ≤ r.1) (g2 : 0 ≤ r.2) (g3 : r.1 + r.2 ≤ 1048576) : Spec Tryz.prog 193 [eRun.val r, .pointer (some ⟨b1, 0, none⟩), .pointer (some ⟨b2, 0, none⟩)] [pt b1 (.cells [.int .i64 p].toArray 3 (0, 0)), pt b2 (.cells [.int .i64 n].toArray 3 (0, 0))]
    (fun v L => v = .bool (hasB p n r) ∧ L = [pt b1 (.cells [.int .i64 p].toArray 3 (0, 0)), pt b2 (.cells [.int .i64 n].toArray 3 (0, 0))]) := by
  refine Spec.intro (IsEnt.out) Tryz.func193 rfl Tryz.ntmps193 (by simp) (fun w0 F => ?_)
  simp only [envOf, List.zipIdx, List.map, List.cons_append, List.nil_append, Nat.zero_add, Nat.reduceAdd]
  repeat (first | refine Zq ?_ | refine Zs ?_ | refine ZT ?_ | refine ZF ?_ | refine Zc ?_ | refine XO_gU (hk := ?_))
  refine XO_dv (dv_box (row := eRun.cells r)) (hk := ?_)
  rintro _ _ ⟨b3, rfl, rfl⟩
  repeat (first | refine Zq ?_ | refine Zs ?_ | refine ZT ?_ | refine ZF ?_ | refine Zc ?_ | refine XO_gU (hk := ?_))
  refine XO_known false (hb := decide_eq_false (by omega)) (hk := ?_)
  repeat (first | refine Zq ?_ | refine Zs ?_ | refine ZT ?_ | refine ZF ?_ | refine Zc ?_ | refine XO_gU (hk := ?_))
  refine XO_known true (hb := decide_eq_true (by omega)) (hk := ?_)
  repeat (first | refine Zq ?_ | refine Zs ?_ | refine ZT ?_ | refine ZF ?_ | refine Zc ?_ | refine XO_gU (hk := ?_))
  have hd1 : (0 ≤ p) := h1
  repeat (first | refine XD_pick (h := ?_) | refine Dq ?_ | refine Ds ?_ | refine XDi_gF (h := ?_) | refine XDi_gU (h := ?_) | refine X_draws (h := ?_))
  refine XDi_either (hT := fun h => ?_) (hF := fun h => ?_) <;> simp only [decide_eq_true_eq, decide_eq_false_iff_not] at h
  · repeat (first | refine XD_pick (h := ?_) | refine Dq ?_ | refine Ds ?_ | refine XDi_gF (h := ?_) | refine XDi_gU (h := ?_) | refine X_draws (h := ?_))
    refine XDi_either (hT := fun h4 => ?_) (hF := fun h4 => ?_) <;> simp only [decide_eq_true_eq, decide_eq_false_iff_not] at h4
    · repeat (first | refine XD_pick (h := ?_) | refine Dq ?_ | refine Ds ?_ | refine XDi_gF (h := ?_) | refine XDi_gU (h := ?_) | refine X_draws (h := ?_))
      refine XD_one (h := ?_)
      refine XDa_dvA (dv_call (end_spec r.1 r.2 g1 g2 (by omega))) (hk := ?_)
      (rintro _ _ ⟨_, ⟨rfl, rfl⟩, rfl⟩; refine ⟨by (repeat (first | exact keeps_nil | exact keeps_fnil | refine keeps_skip (h := ?_) | refine keeps_takeQ (h := ?_))), ?_⟩)
      repeat (first | refine XD_pick (h := ?_) | refine Dq ?_ | refine Ds ?_ | refine XDi_gF (h := ?_) | refine XDi_gU (h := ?_) | refine X_draws (h := ?_))
      (refine XD_one (h := ?_); refine XDa_dvA (dv_of_rv (rv_of_pv pv_assign)) (hk := ?_); rintro _ _ ⟨rfl, rfl⟩; refine ⟨by (repeat (first | exact keeps_nil | exact keeps_fnil | refine keeps_skip (h := ?_) | refine keeps_takeQ (h := ?_))), ?_⟩)
      (refine XD_end (h := ?_); repeat (first | refine Zq ?_ | refine Zs ?_ | refine ZT ?_ | refine ZF ?_ | refine Zc ?_ | refine XO_gU (hk := ?_)))
      refine XE_ret (.inl rfl) (tells_tmps rfl rfl) ⟨_, ⟨?_, rfl⟩, by ((try simp only [List.cons_append, List.nil_append]); repeat (first | exact ent_refl | refine ent_take (by repeat (first | exact Find.here | apply Find.there)) ?_ | refine ent_drop ?_))⟩
      show Value.bool _ = _
      congr 1
      unfold hasB
      rw [decide_eq_decide]
      exact ⟨fun h' => ⟨h, .inr ⟨h1, h4⟩, h'⟩, fun h' => h'.2.2⟩
    · repeat (first | refine XD_pick (h := ?_) | refine Dq ?_ | refine Ds ?_ | refine XDi_gF (h := ?_) | refine XDi_gU (h := ?_) | refine X_draws (h := ?_))
      (refine XD_head (h := ?_); first | refine XDi_gF (h := ?_) | refine XDi_gU (h := ?_))
      repeat (first | refine XD_pick (h := ?_) | refine Dq ?_ | refine Ds ?_ | refine XDi_gF (h := ?_) | refine XDi_gU (h := ?_) | refine X_draws (h := ?_))
      (refine XD_one (h := ?_); refine XDa_dvA (dv_of_rv (rv_of_pv pv_assign)) (hk := ?_); rintro _ _ ⟨rfl, rfl⟩; refine ⟨by (repeat (first | exact keeps_nil | exact keeps_fnil | refine keeps_skip (h := ?_) | refine keeps_takeQ (h := ?_))), ?_⟩)
      (refine XD_end (h := ?_); repeat (first | refine Zq ?_ | refine Zs ?_ | refine ZT ?_ | refine ZF ?_ | refine Zc ?_ | refine XO_gU (hk := ?_)))
      refine XE_ret (.inl rfl) (tells_tmps rfl rfl) ⟨_, ⟨?_, rfl⟩, by ((try simp only [List.cons_append, List.nil_append]); repeat (first | exact ent_refl | refine ent_take (by repeat (first | exact Find.here | apply Find.there)) ?_ | refine ent_drop ?_))⟩
      show Value.bool _ = _
      congr 1
      unfold hasB
      rw [eq_comm, decide_eq_false_iff_not]
      rintro ⟨_, h', _⟩
      omega
  · repeat (first | refine XD_pick (h := ?_) | refine Dq ?_ | refine Ds ?_ | refine XDi_gF (h := ?_) | refine XDi_gU (h := ?_) | refine X_draws (h := ?_))
    (refine XD_head (h := ?_); first | refine XDi_gF (h := ?_) | refine XDi_gU (h := ?_))
    repeat (first | refine XD_pick (h := ?_) | refine Dq ?_ | refine Ds ?_ | refine XDi_gF (h := ?_) | refine XDi_gU (h := ?_) | refine X_draws (h := ?_))
    (refine XD_one (h := ?_); refine XDa_dvA (dv_of_rv (rv_of_pv pv_assign)) (hk := ?_); rintro _ _ ⟨rfl, rfl⟩; refine ⟨by (repeat (first | exact keeps_nil | exact keeps_fnil | refine keeps_skip (h := ?_) | refine keeps_takeQ (h := ?_))), ?_⟩)
    (refine XD_end (h := ?_); repeat (first | refine Zq ?_ | refine Zs ?_ | refine ZT ?_ | refine ZF ?_ | refine Zc ?_ | refine XO_gU (hk := ?_)))
    refine XE_ret (.inl rfl) (tells_tmps rfl rfl) ⟨_, ⟨?_, rfl⟩, by ((try simp only [List.cons_append, List.nil_append]); repeat (first | exact ent_refl | refine ent_take (by repeat (first | exact Find.here | apply Find.there)) ?_ | refine ent_drop ?_))⟩
    show Value.bool _ = _
    congr 1
    unfold hasB
    rw [eq_comm, decide_eq_false_iff_not]
    exact fun h' => h h'.1
theorem index_spec (A B1 B2 : HP) (a : Option Addr) (c : Nat) (xs : List (Int × Int)) (fn : FuncId) (c1 c2 : Value) (q : Int × Int → Bool) (hV : View A eRun a xs) (hl : xs.length ≤ 4611686018427387904)
    (hq : ∀ r ∈ xs, Spec Tryz.prog fn [eRun.val r, c1, c2] [B1, B2] (fun v L => v = .bool (q r) ∧ L = [B1, B2])) :
    Spec Tryz.prog 199 [.slice a xs.length c, .func (.func fn) #[] #[c1, c2]] [A, B1, B2] (fun v L => v = .int .i64 (optI (xs.findIdx? q)) ∧ L = [A, B1, B2]) := by
  refine Spec.intro (IsEnt.out) Tryz.func199 rfl Tryz.ntmps199 (by simp) (fun w0 F => ?_)
  simp only [envOf, List.zipIdx, List.map, List.cons_append, List.nil_append, Nat.zero_add, Nat.reduceAdd]
  repeat (first | refine Zq ?_ | refine Zs ?_ | refine ZT ?_ | refine ZF ?_ | refine Zc ?_ | refine XO_gU (hk := ?_))
  refine X_loop (ι := Nat) (fun k => k ≤ xs.length ∧ ∀ j (hj : j < xs.length), j < k → q xs[j] = false) (fun k => [(0, .slice a xs.length c), (1, .func (.func fn) #[] #[c1, c2]), (6, .slice a xs.length c), (7, .int .i64 (xs.length : Int)), (8, .int .i64 k)]) (fun _ => A :: B1 :: B2 :: F) (fun k => xs.length - k) 0 ⟨Nat.zero_le _, fun _ _ h => by omega⟩ ?_ (by ((try simp only [List.cons_append, List.nil_append]); repeat (first | exact ent_refl | refine ent_take (by repeat (first | exact Find.here | apply Find.there)) ?_ | refine ent_drop ?_))) ?_
  · (repeat (first | exact Env.sub_nil _ | refine Env.sub_cons rfl ?_))
  rintro k ⟨hk, hall⟩
  dsimp only at hk hall ⊢
  repeat (first | refine Zq ?_ | refine Zs ?_ | refine ZT ?_ | refine ZF ?_ | refine Zc ?_ | refine XO_gU (hk := ?_))
  refine X_cond rfl (fun hc => ?_) (fun hc => ?_) <;> simp only [decide_eq_true_eq, decide_eq_false_iff_not] at hc
  · have hkl : k < xs.length := by omega
    refine X_view .here hV (by omega) ?_
    rintro b o rfl
    repeat (first | refine Zq ?_ | refine Zs ?_ | refine ZT ?_ | refine ZF ?_ | refine Zc ?_ | refine XO_gU (hk := ?_))
    refine XO_rv (rv_vel (i := k) (hV := hV)) (hk := ?_)
    repeat (first | refine Zq ?_ | refine Zs ?_ | refine ZT ?_ | refine ZF ?_ | refine Zc ?_ | refine XO_gU (hk := ?_))
    refine XO_call (hq xs[k] (List.getElem_mem hkl)) (hk := ?_)
    rintro _ _ ⟨rfl, rfl⟩
    repeat (first | refine Zq ?_ | refine Zs ?_ | refine ZT ?_ | refine ZF ?_ | refine Zc ?_ | refine XO_gU (hk := ?_))
    refine X_cond rfl (fun h3 => ?_) (fun h3 => ?_)
    · have he : xs.findIdx? q = some k := by
        rw [List.findIdx?_eq_some_iff_getElem]
        exact ⟨hkl, by simpa using h3, fun j hj => by simp [hall j (by omega) hj]⟩
      repeat (first | refine Zq ?_ | refine Zs ?_ | refine ZT ?_ | refine ZF ?_ | refine Zc ?_ | refine XO_gU (hk := ?_))
      refine XE_ret (.inl rfl) (tells_tmps rfl rfl) ⟨_, ⟨?_, rfl⟩, by ((try simp only [List.cons_append, List.nil_append]); repeat (first | exact ent_refl | refine ent_take (by repeat (first | exact Find.here | apply Find.there)) ?_ | refine ent_drop ?_))⟩
      rw [he]; rfl
    · repeat (first | refine Zq ?_ | refine Zs ?_ | refine ZT ?_ | refine ZF ?_ | refine Zc ?_ | refine XO_gU (hk := ?_))
      refine X_round (k + 1) ⟨by omega, fun j hj hlt => ?_⟩ (by show xs.length - (k + 1) < xs.length - k; omega) (by (repeat (first | exact Env.sub_nil _ | refine Env.sub_cons rfl ?_))) (by ((try simp only [List.cons_append, List.nil_append]); repeat (first | exact ent_refl | refine ent_take (by repeat (first | exact Find.here | apply Find.there)) ?_ | refine ent_drop ?_)))
      rcases Nat.lt_or_ge j k with h | h
      · exact hall j hj h
      · obtain rfl : j = k := by omega
        exact h3
  · obtain rfl : k = xs.length := by omega
    have he : xs.findIdx? q = none := by
      rw [List.findIdx?_eq_none_iff]
      intro x hx
      obtain ⟨j, hj, rfl⟩ := List.getElem_of_mem hx
      exact hall j hj hj
    repeat (first | refine Zq ?_ | refine Zs ?_ | refine ZT ?_ | refine ZF ?_ | refine Zc ?_ | refine XO_gU (hk := ?_))
    refine XE_ret (.inl rfl) (tells_tmps rfl rfl) ⟨_, ⟨?_, rfl⟩, by ((try simp only [List.cons_append, List.nil_append]); repeat (first | exact ent_refl | refine ent_take (by repeat (first | exact Find.here | apply Find.there)) ?_ | refine ent_drop ?_))⟩
    rw [he]; rfl
theorem contains_spec (A B1 B2 : HP) (a : Option Addr) (c : Nat) (xs : List (Int × Int)) (fn : FuncId) (c1 c2 : Value) (q : Int × Int → Bool) (hV : View A eRun a xs) (hl : xs.length ≤ 4611686018427387904)
    (hq : ∀ r ∈ xs, Spec Tryz.prog fn [eRun.val r, c1, c2] [B1, B2] (fun v L => v = .bool (q r) ∧ L = [B1, B2])) :
    Spec Tryz.prog 192 [.slice a xs.length c, .func (.func fn) #[] #[c1, c2]] [A, B1, B2] (fun v L => v = .bool (xs.any q) ∧ L = [A, B1, B2]) := by
  refine Spec.intro (IsEnt.out) Tryz.func192 rfl Tryz.ntmps192 (by simp) (fun w0 F => ?_)
  simp only [envOf, List.zipIdx, List.map, List.cons_append, List.nil_append, Nat.zero_add, Nat.reduceAdd]
  repeat (first | refine Zq ?_ | refine Zs ?_ | refine ZT ?_ | refine ZF ?_ | refine Zc ?_ | refine XO_gU (hk := ?_))
  refine XO_call (index_spec A B1 B2 a c xs fn c1 c2 q hV hl hq) (hk := ?_)
  rintro _ _ ⟨rfl, rfl⟩
  repeat (first | refine Zq ?_ | refine Zs ?_ | refine ZT ?_ | refine ZF ?_ | refine Zc ?_ | refine XO_gU (hk := ?_))
  refine XE_ret (.inl rfl) (tells_tmps rfl rfl) ⟨_, ⟨?_, rfl⟩, by ((try simp only [List.cons_append, List.nil_append]); repeat (first | exact ent_refl | refine ent_take (by repeat (first | exact Find.here | apply Find.there)) ?_ | refine ent_drop ?_))⟩
  show Value.bool _ = _
  congr 1
  cases hi : xs.findIdx? q with
  | none =>
    rw [List.findIdx?_eq_none_iff] at hi
    have : xs.any q = false := by rw [List.any_eq_false]; intro x hx; simp [hi x hx]
    rw [this]; rfl
  | some k =>
    rw [List.findIdx?_eq_some_iff_getElem] at hi
    obtain ⟨hk, h, _⟩ := hi
    have : xs.any q = true := by rw [List.any_eq_true]; exact ⟨_, List.getElem_mem hk, h⟩
    rw [this]
    exact decide_eq_true (by show (0 : Int) ≤ (k : Int); omega)
theorem has_spec (A : HP) (a : Option Addr) (c : Nat) (xs : List (Int × Int)) (p n : Int) (hV : View A eRun a xs) (hl : xs.length ≤ 4611686018427387904) (h1 : 0 ≤ p) (h2 : p ≤ 1048576) (hB : Bd xs) :
    Spec Tryz.prog 168 [.slice a xs.length c, .int .i64 p, .int .i64 n] [A] (fun v L => v = .bool (xs.any (hasB p n)) ∧ L = [A]) := by
  refine Spec.intro (IsEnt.out) Tryz.func168 rfl Tryz.ntmps168 (by simp) (fun w0 F => ?_)
  simp only [envOf, List.zipIdx, List.map, List.cons_append, List.nil_append, Nat.zero_add, Nat.reduceAdd]
  repeat (first | refine Zq ?_ | refine Zs ?_ | refine ZT ?_ | refine ZF ?_ | refine Zc ?_ | refine XO_gU (hk := ?_))
  refine XO_dv dv_box1 (hk := ?_)
  rintro _ _ ⟨b1, rfl, rfl⟩
  repeat (first | refine Zq ?_ | refine Zs ?_ | refine ZT ?_ | refine ZF ?_ | refine Zc ?_ | refine XO_gU (hk := ?_))
  refine XO_dv dv_box1 (hk := ?_)
  rintro _ _ ⟨b2, rfl, rfl⟩
  repeat (first | refine Zq ?_ | refine Zs ?_ | refine ZT ?_ | refine ZF ?_ | refine Zc ?_ | refine XO_gU (hk := ?_))
  refine XO_call (contains_spec A _ _ a c xs _ _ _ (hasB p n) hV hl (fun r hr => has1_spec b1 b2 p n r h1 h2 (hB r hr).1 (hB r hr).2.1 (hB r hr).2.2)) (hk := ?_)
  rintro _ _ ⟨rfl, rfl⟩
  repeat (first | refine Zq ?_ | refine Zs ?_ | refine ZT ?_ | refine ZF ?_ | refine Zc ?_ | refine XO_gU (hk := ?_))
  refine XE_ret (.inl rfl) (tells_tmps rfl rfl) ⟨_, ⟨rfl, rfl⟩, by ((try simp only [List.cons_append, List.nil_append]); repeat (first | exact ent_refl | refine ent_take (by repeat (first | exact Find.here | apply Find.there)) ?_ | refine ent_drop ?_))⟩
end Go.Proofs.YtamecmklcnohjaaGreat.Sep
namespace Go.Proofs.YtamecmklcnohjaaGreat.Sep
open Go.RowKit
set_option linter.unusedSimpArgs false
set_option linter.unusedVariables false
set_option maxHeartbeats 8000000
attribute [local irreducible] X XE XO XD XDi XDa PV RV DV pt base Spec Sl Mp Keeps

instance teq_run : TEq Tryz.prog 97 [.i64, .i64] := ⟨_, Tryz.underlying97, by kernel_rfl, by kernel_rfl, ⟨by decide, rfl, Tryz.underlying3, by decide, rfl, Tryz.underlying3, trivial⟩⟩
theorem delete_spec (b o c i m : Nat) (xs : List (Int × Int)) (hm : m = xs.length) (hi : i < xs.length) (hl : xs.length ≤ 4611686018427387904) :
    Spec Tryz.prog 190 [.slice (some ⟨b, o, none⟩) m c, .int .i64 i, .int .i64 (i + 1 : Int)] [Sl eRun (some ⟨b, o, none⟩) c xs]
      (fun v L => v = .slice (some ⟨b, o, none⟩) (xs.eraseIdx i).length c ∧ L = [Sl eRun (some ⟨b, o, none⟩) c (xs.eraseIdx i)]) := by
  subst hm
  refine Spec.intro (IsEnt.out) Tryz.func190 rfl Tryz.ntmps190 (by simp) (fun w0 F => ?_)
  simp only [envOf, List.zipIdx, List.map, List.cons_append, List.nil_append, Nat.zero_add, Nat.reduceAdd]
  refine X_fact (A := Sl eRun (some ⟨b, o, none⟩) c xs) .here Sl.cap (fun hc => ?_)
  have hel : (xs.eraseIdx i) = xs.take i ++ xs.drop (i + 1) := List.eraseIdx_eq_take_drop_succ ..
  have hen : (xs.take i ++ xs.drop (i + 1)).length = i + (xs.length - (i + 1)) := by simp; omega
  repeat (first | refine Zq ?_ | refine Zs ?_ | refine ZT ?_ | refine ZF ?_ | refine Zc ?_ | refine XO_gU (hk := ?_))
  refine XO_pv pv_sliceLHM (hk := ?_)
  repeat (first | refine Zq ?_ | refine Zs ?_ | refine ZT ?_ | refine ZF ?_ | refine Zc ?_ | refine XO_gU (hk := ?_))
  refine X_cond rfl (fun h => ?_) (fun h => ?_)
  · exfalso; simp at h; omega
  repeat (first | refine Zq ?_ | refine Zs ?_ | refine ZT ?_ | refine ZF ?_ | refine Zc ?_ | refine XO_gU (hk := ?_))
  repeat (first | refine XD_pick (h := ?_) | refine Dq ?_ | refine Ds ?_ | refine XDi_gF (h := ?_) | refine XDi_gU (h := ?_) | refine X_draws (h := ?_))
  refine XD_one (h := ?_)
  refine XDa_dvA (dv_appendSelf (E' := eRun) (i := i) (j := i + 1) (xs := xs)) (hk := ?_)
  rintro _ _ ⟨rfl, rfl⟩
  refine ⟨by (repeat (first | exact keeps_nil | exact keeps_fnil | refine keeps_skip (h := ?_) | refine keeps_takeQ (h := ?_))), ?_⟩
  repeat (first | refine XD_pick (h := ?_) | refine Dq ?_ | refine Ds ?_ | refine XDi_gF (h := ?_) | refine XDi_gU (h := ?_) | refine X_draws (h := ?_))
  (refine XD_one (h := ?_); refine XDa_dvA (dv_of_rv (rv_of_pv pv_assign)) (hk := ?_); rintro _ _ ⟨rfl, rfl⟩; refine ⟨by (repeat (first | exact keeps_nil | exact keeps_fnil | refine keeps_skip (h := ?_) | refine keeps_takeQ (h := ?_))), ?_⟩)
  (refine XD_end (h := ?_); repeat (first | refine Zq ?_ | refine Zs ?_ | refine ZT ?_ | refine ZF ?_ | refine Zc ?_ | refine XO_gU (hk := ?_)))
  have hlx : (xs.eraseIdx i).length = i + (xs.length - (i + 1)) := by rw [hel]; exact hen
  rw [← hel, ← hlx]
  refine XO_pv (pv_sliceLH (h1 := by omega) (h2 := by omega)) (hk := ?_)
  repeat (first | refine Zq ?_ | refine Zs ?_ | refine ZT ?_ | refine ZF ?_ | refine Zc ?_ | refine XO_gU (hk := ?_))
  refine XO_dv0 (dv_clear (xs := xs.eraseIdx i) (hm := by omega)) (hk := ?_)
  rintro _ _ rfl
  repeat (first | refine Zq ?_ | refine Zs ?_ | refine ZT ?_ | refine ZF ?_ | refine Zc ?_ | refine XO_gU (hk := ?_))
  refine XE_ret (.inl rfl) (tells_tmps rfl rfl) ⟨_, ⟨rfl, rfl⟩, by ((try simp only [List.cons_append, List.nil_append]); repeat (first | exact ent_refl | refine ent_take (by repeat (first | exact Find.here | apply Find.there)) ?_ | refine ent_drop ?_))⟩
/-- So many pages are taken: the first one, and what is left. -/
def takeAt (xs : List (Int × Int)) (n : Int) (i : Nat) : Int × List (Int × Int) :=
  ((xs.getD i (0, 0)).1, if (xs.getD i (0, 0)).2 = n then xs.eraseIdx i else xs.set i ((xs.getD i (0, 0)).1 + n, (xs.getD i (0, 0)).2 - n))
def takeI (xs : List (Int × Int)) (n : Int) : Option (Int × List (Int × Int)) := (bestU xs n xs.length).map (takeAt xs n)
def takeV (A : HP) : Option (Int × List (Int × Int)) → Value → List HP → Prop
  | none, v, L => v = .tuple #[.int .i64 0, .slice none 0 0, .bool false] ∧ L = [A]
  | some (p, ys), v, L => ∃ b c, v = .tuple #[.int .i64 p, .slice (some ⟨b, 0, none⟩) ys.length c, .bool true] ∧ L = [A, Sl eRun (some ⟨b, 0, none⟩) c ys]
theorem bestU_ge {xs : List (Int × Int)} {n : Int} : ∀ {i j : Nat}, bestU xs n i = some j → 0 < n ∧ n ≤ (xs.getD j (0, 0)).2
  | 0, j, h => by cases h
  | i + 1, j, h => by
    unfold bestU at h
    split at h
    · rename_i h1; cases h; exact ⟨h1.1, h1.2.1⟩
    · exact bestU_ge h
theorem take_spec (A : HP) (a : Option Addr) (c : Nat) (xs : List (Int × Int)) (n : Int) (hV : View A eRun a xs) (hl : xs.length ≤ 1048576) (hB : Bd xs) :
    Spec Tryz.prog 166 [.slice a xs.length c, .int .i64 n] [A] (takeV A (takeI xs n)) := by
  refine Spec.intro (IsEnt.out) Tryz.func166 rfl Tryz.ntmps166 (by simp) (fun w0 F => ?_)
  simp only [envOf, List.zipIdx, List.map, List.cons_append, List.nil_append, Nat.zero_add, Nat.reduceAdd]
  repeat (first | refine Zq ?_ | refine Zs ?_ | refine ZT ?_ | refine ZF ?_ | refine Zc ?_ | refine XO_gU (hk := ?_))
  refine XO_call (best_spec A a c xs n hV (by omega)) (hk := ?_)
  rintro _ _ ⟨rfl, rfl⟩
  repeat (first | refine Zq ?_ | refine Zs ?_ | refine ZT ?_ | refine ZF ?_ | refine Zc ?_ | refine XO_gU (hk := ?_))
  cases hb : bestU xs n xs.length with
  | none =>
    have ht : takeI xs n = none := by unfold takeI; rw [hb]; rfl
    rw [ht]
    refine X_cond rfl (fun h => ?_) (fun h => ?_)
    · repeat (first | refine Zq ?_ | refine Zs ?_ | refine ZT ?_ | refine ZF ?_ | refine Zc ?_ | refine XO_gU (hk := ?_))
      refine XE_ret (.inl rfl) (tells_tmps rfl rfl) ⟨_, ⟨rfl, rfl⟩, by ((try simp only [List.cons_append, List.nil_append]); repeat (first | exact ent_refl | refine ent_take (by repeat (first | exact Find.here | apply Find.there)) ?_ | refine ent_drop ?_))⟩
    · cases h
  | some i =>
    have ht : takeI xs n = some (takeAt xs n i) := by unfold takeI; rw [hb]; rfl
    rw [ht]
    have hi := bestU_lt hb
    obtain ⟨hn0, hn1⟩ := bestU_ge hb
    have hgi : xs.getD i (0, 0) = xs[i] := by simp [List.getD, hi]
    rw [hgi] at hn1
    obtain ⟨g1, g2, g3⟩ := hB xs[i] (List.getElem_mem hi)
    simp only [optI]
    refine X_cond rfl (fun h => ?_) (fun h => ?_)
    · exfalso
      have : (i : Int) < 0 := of_decide_eq_true h
      omega
    refine X_view .here hV (by omega) ?_
    rintro b o rfl
    repeat (first | refine Zq ?_ | refine Zs ?_ | refine ZT ?_ | refine ZF ?_ | refine Zc ?_ | refine XO_gU (hk := ?_))
    refine XO_dv (dv_makeSlice (E' := eRun) (0, 0)) (hk := ?_)
    rintro _ _ ⟨nb, rfl, rfl⟩
    repeat (first | refine Zq ?_ | refine Zs ?_ | refine ZT ?_ | refine ZF ?_ | refine Zc ?_ | refine XO_gU (hk := ?_))
    simp only [Int.toNat_natCast]
    obtain ⟨zs, hz, hzl⟩ : ∃ zs, zs = List.replicate xs.length ((0, 0) : Int × Int) ∧ zs.length = xs.length := ⟨_, rfl, by simp⟩
    rw [← hz]
    refine XO_dv (dv_copy (E' := eRun) (ys := xs) (xs := zs) (A := A) (hx := by rw [hzl]; rfl) (hv := hV) (hn := by rw [hzl]; simp)) (hk := ?_)
    rintro _ _ ⟨rfl, rfl⟩
    rw [show xs ++ zs.drop xs.length = xs from by rw [List.drop_of_length_le (by omega), List.append_nil]]
    repeat (first | refine Zq ?_ | refine Zs ?_ | refine ZT ?_ | refine ZF ?_ | refine Zc ?_ | refine XO_gU (hk := ?_))
    refine XO_rv (rv_velf (i := i) (f := 0) (hV := hV)) (hk := ?_)
    repeat (first | refine Zq ?_ | refine Zs ?_ | refine ZT ?_ | refine ZF ?_ | refine Zc ?_ | refine XO_gU (hk := ?_))
    refine XO_rv (rv_velf (i := i) (f := 1) (hV := hV)) (hk := ?_)
    repeat (first | refine Zq ?_ | refine Zs ?_ | refine ZT ?_ | refine ZF ?_ | refine Zc ?_ | refine XO_gU (hk := ?_))
    refine XO_dv0 (dv_putElW (E' := eRun) (i := i) (x' := (xs[i].1 + n, xs[i].2 - n))) (hk := ?_)
    rintro _ _ rfl
    repeat (first | refine Zq ?_ | refine Zs ?_ | refine ZT ?_ | refine ZF ?_ | refine Zc ?_ | refine XO_gU (hk := ?_))
    repeat (first | refine XD_pick (h := ?_) | refine Dq ?_ | refine Ds ?_ | refine XDi_gF (h := ?_) | refine XDi_gU (h := ?_) | refine X_draws (h := ?_))
    refine XDi_rvA (rv_el (E' := eRun) (i := i) (hl := by simp; omega)) (h := ?_)
    simp only [List.getElem_set_self]
    repeat (first | refine XD_pick (h := ?_) | refine Dq ?_ | refine Ds ?_ | refine XDi_gF (h := ?_) | refine XDi_gU (h := ?_) | refine X_draws (h := ?_))
    refine XDi_rvA (rv_vel (i := i) (hV := hV)) (h := ?_)
    repeat (first | refine XD_pick (h := ?_) | refine Dq ?_ | refine Ds ?_ | refine XDi_gF (h := ?_) | refine XDi_gU (h := ?_) | refine X_draws (h := ?_))
    refine XD_one (h := ?_)
    refine XDa_dvA (dv_call (end_spec xs[i].1 xs[i].2 g1 g2 (by omega))) (hk := ?_)
    rintro _ _ ⟨_, ⟨rfl, rfl⟩, rfl⟩
    refine ⟨?_, ?_⟩
    · repeat (first | exact keeps_fnil | refine keeps_skip (h := ?_) | refine keeps_takeA (hv := by first | exact rv_velG (i := i) (x' := xs[i]) (hV := hV) (hget := by simp [hi]) | exact rv_elG (i := i) (x' := (xs[i].1 + n, xs[i].2 - n)) (hget := by simp [hi])) (h := ?_))
    repeat (first | refine XD_pick (h := ?_) | refine Dq ?_ | refine Ds ?_ | refine XDi_gF (h := ?_) | refine XDi_gU (h := ?_) | refine X_draws (h := ?_))
    refine XDi_pvA (pv_buildG [.int .i64 (xs[i].1 + xs[i].2), .int .i64 0]) (h := ?_)
    repeat (first | refine XD_pick (h := ?_) | refine Dq ?_ | refine Ds ?_ | refine XDi_gF (h := ?_) | refine XDi_gU (h := ?_) | refine X_draws (h := ?_))
    refine XDi_pvA (pv_eqRec [xs[i].1 + n, xs[i].2 - n] [xs[i].1 + xs[i].2, 0]) (h := ?_)
    repeat (first | refine XD_pick (h := ?_) | refine Dq ?_ | refine Ds ?_ | refine XDi_gF (h := ?_) | refine XDi_gU (h := ?_) | refine X_draws (h := ?_))
    (refine XD_end (h := ?_); repeat (first | refine Zq ?_ | refine Zs ?_ | refine ZT ?_ | refine ZF ?_ | refine Zc ?_ | refine XO_gU (hk := ?_)))
    refine X_cond rfl (fun h => ?_) (fun h => ?_) <;> simp only [decide_eq_true_eq, decide_eq_false_iff_not] at h
    · have hq : xs[i].2 = n := by simp at h; omega
      have hta : takeAt xs n i = (xs[i].1, xs.eraseIdx i) := by unfold takeAt; rw [hgi, if_pos hq]
      have hse : (xs.set i (xs[i].1 + n, xs[i].2 - n)).eraseIdx i = xs.eraseIdx i := by
        exact List.eraseIdx_set_eq
      rw [hta]
      have hsl : (xs.set i (xs[i].1 + n, xs[i].2 - n)).length = xs.length := by simp
      repeat (first | refine Zq ?_ | refine Zs ?_ | refine ZT ?_ | refine ZF ?_ | refine Zc ?_ | refine XO_gU (hk := ?_))
      refine XO_call (delete_spec nb 0 xs.length i xs.length (xs.set i (xs[i].1 + n, xs[i].2 - n)) (by simp) (by omega) (by omega)) (hk := ?_)
      rintro _ _ ⟨rfl, rfl⟩
      rw [hse]
      repeat (first | refine Zq ?_ | refine Zs ?_ | refine ZT ?_ | refine ZF ?_ | refine Zc ?_ | refine XO_gU (hk := ?_))
      refine XE_ret (.inl rfl) (tells_tmps rfl rfl) ⟨_, ⟨nb, xs.length, rfl, rfl⟩, by ((try simp only [List.cons_append, List.nil_append]); repeat (first | exact ent_refl | refine ent_take (by repeat (first | exact Find.here | apply Find.there)) ?_ | refine ent_drop ?_))⟩
    · have hq : ¬ xs[i].2 = n := fun h' => h (by simp [h'])
      have hta : takeAt xs n i = (xs[i].1, xs.set i (xs[i].1 + n, xs[i].2 - n)) := by unfold takeAt; rw [hgi, if_neg hq]
      rw [hta]
      have hsl : (xs.set i (xs[i].1 + n, xs[i].2 - n)).length = xs.length := by simp
      repeat (first | refine Zq ?_ | refine Zs ?_ | refine ZT ?_ | refine ZF ?_ | refine Zc ?_ | refine XO_gU (hk := ?_))
      refine XE_ret (.inl rfl) (tells_tmps rfl rfl) ⟨_, ⟨nb, xs.length, by rw [hsl]; rfl, rfl⟩, by ((try simp only [List.cons_append, List.nil_append]); repeat (first | exact ent_refl | refine ent_take (by repeat (first | exact Find.here | apply Find.there)) ?_ | refine ent_drop ?_))⟩
end Go.Proofs.YtamecmklcnohjaaGreat.Sep
namespace Go.Proofs.YtamecmklcnohjaaGreat.Sep
open Go.RowKit
set_option linter.unusedSimpArgs false
set_option linter.unusedVariables false
set_option maxHeartbeats 8000000
attribute [local irreducible] X XE XO XD XDi XDa PV RV DV pt base Spec Sl Mp Keeps

/-- A run is put together with those that it meets. -/
def mergeI : Int × Int → List (Int × Int) → (Int × Int) × List (Int × Int)
  | r, [] => (r, [])
  | r, x :: xs => if x.1 ≤ r.1 + r.2 then mergeI (min x.1 r.1, x.2 + r.2) xs else (r, x :: xs)
def giveL (xs : List (Int × Int)) (page n : Int) : List (Int × Int) :=
  xs.take (afterI xs page) ++ (mergeI (page, n) (xs.drop (afterI xs page))).1 :: (mergeI (page, n) (xs.drop (afterI xs page))).2
def giveI (xs : List (Int × Int)) (pages page n : Int) : Option (List (Int × Int)) :=
  if page < 0 ∨ n < 1 ∨ pages < n ∨ pages - n < page ∨ xs.any (hasB page n) = true then none else some (giveL xs page n)
def giveV (A : HP) : Option (List (Int × Int)) → Value → List HP → Prop
  | none, v, L => v = .tuple #[.slice none 0 0, .bool false] ∧ L = [A]
  | some ys, v, L => ∃ a c, v = .tuple #[.slice a ys.length c, .bool true] ∧ L = [A, Sl eRun a c ys]
theorem give_spec (A : HP) (a : Option Addr) (c : Nat) (xs : List (Int × Int)) (pages page n : Int) (hV : View A eRun a xs) (hc : xs.length ≤ c) (hl : xs.length ≤ 1048576) (hB : Bd xs) (p0 : 0 ≤ pages) (p1 : pages ≤ 1048576) (n0 : -9223372036854775808 ≤ n) (n1 : n ≤ 9223372036854775807) (q0 : -9223372036854775808 ≤ page) (q1 : page ≤ 9223372036854775807) :
    Spec Tryz.prog 132 [.slice a xs.length c, .int .i64 pages, .int .i64 page, .int .i64 n] [A] (giveV A (giveI xs pages page n)) := by
  refine Spec.intro (IsEnt.out) Tryz.func132 rfl Tryz.ntmps132 (by simp) (fun w0 F => ?_)
  simp only [envOf, List.zipIdx, List.map, List.cons_append, List.nil_append, Nat.zero_add, Nat.reduceAdd]
  repeat (first | refine Zq ?_ | refine Zs ?_ | refine ZT ?_ | refine ZF ?_ | refine Zc ?_ | refine XO_gU (hk := ?_))
  by_cases hbad : page < 0 ∨ n < 1 ∨ pages < n ∨ pages - n < page
  · have hg : giveI xs pages page n = none := by
      unfold giveI
      rw [if_pos]
      rcases hbad with h | h | h | h
      · exact .inl h
      · exact .inr (.inl h)
      · exact .inr (.inr (.inl h))
      · exact .inr (.inr (.inr (.inl h)))
    rw [hg]
    refine XO_either (hT := fun h => ?_) (hF := fun h => ?_) <;> simp only [decide_eq_true_eq, decide_eq_false_iff_not] at h
    · repeat (first | refine Zq ?_ | refine Zs ?_ | refine ZT ?_ | refine ZF ?_ | refine Zc ?_ | refine XO_gU (hk := ?_))
      refine X_cond rfl (fun _ => ?_) (fun h => by cases h)
      repeat (first | refine Zq ?_ | refine Zs ?_ | refine ZT ?_ | refine ZF ?_ | refine Zc ?_ | refine XO_gU (hk := ?_))
      refine XE_ret (.inl rfl) (tells_tmps rfl rfl) ⟨_, ⟨rfl, rfl⟩, by ((try simp only [List.cons_append, List.nil_append]); repeat (first | exact ent_refl | refine ent_take (by repeat (first | exact Find.here | apply Find.there)) ?_ | refine ent_drop ?_))⟩
    repeat (first | refine Zq ?_ | refine Zs ?_ | refine ZT ?_ | refine ZF ?_ | refine Zc ?_ | refine XO_gU (hk := ?_))
    refine XO_either (hT := fun h => ?_) (hF := fun h => ?_) <;> simp only [decide_eq_true_eq, decide_eq_false_iff_not] at h
    · repeat (first | refine Zq ?_ | refine Zs ?_ | refine ZT ?_ | refine ZF ?_ | refine Zc ?_ | refine XO_gU (hk := ?_))
      refine X_cond rfl (fun _ => ?_) (fun h => by cases h)
      repeat (first | refine Zq ?_ | refine Zs ?_ | refine ZT ?_ | refine ZF ?_ | refine Zc ?_ | refine XO_gU (hk := ?_))
      refine XE_ret (.inl rfl) (tells_tmps rfl rfl) ⟨_, ⟨rfl, rfl⟩, by ((try simp only [List.cons_append, List.nil_append]); repeat (first | exact ent_refl | refine ent_take (by repeat (first | exact Find.here | apply Find.there)) ?_ | refine ent_drop ?_))⟩
    repeat (first | refine Zq ?_ | refine Zs ?_ | refine ZT ?_ | refine ZF ?_ | refine Zc ?_ | refine XO_gU (hk := ?_))
    refine XO_either (hT := fun h => ?_) (hF := fun h => ?_) <;> simp only [decide_eq_true_eq, decide_eq_false_iff_not] at h
    · repeat (first | refine Zq ?_ | refine Zs ?_ | refine ZT ?_ | refine ZF ?_ | refine Zc ?_ | refine XO_gU (hk := ?_))
      refine X_cond rfl (fun _ => ?_) (fun h => by cases h)
      repeat (first | refine Zq ?_ | refine Zs ?_ | refine ZT ?_ | refine ZF ?_ | refine Zc ?_ | refine XO_gU (hk := ?_))
      refine XE_ret (.inl rfl) (tells_tmps rfl rfl) ⟨_, ⟨rfl, rfl⟩, by ((try simp only [List.cons_append, List.nil_append]); repeat (first | exact ent_refl | refine ent_take (by repeat (first | exact Find.here | apply Find.there)) ?_ | refine ent_drop ?_))⟩
    repeat (first | refine Zq ?_ | refine Zs ?_ | refine ZT ?_ | refine ZF ?_ | refine Zc ?_ | refine XO_gU (hk := ?_))
    refine XO_known true (hb := decide_eq_true (by omega)) (hk := ?_)
    repeat (first | refine Zq ?_ | refine Zs ?_ | refine ZT ?_ | refine ZF ?_ | refine Zc ?_ | refine XO_gU (hk := ?_))
    refine X_cond rfl (fun _ => ?_) (fun h => by cases h)
    repeat (first | refine Zq ?_ | refine Zs ?_ | refine ZT ?_ | refine ZF ?_ | refine Zc ?_ | refine XO_gU (hk := ?_))
    refine XE_ret (.inl rfl) (tells_tmps rfl rfl) ⟨_, ⟨rfl, rfl⟩, by ((try simp only [List.cons_append, List.nil_append]); repeat (first | exact ent_refl | refine ent_take (by repeat (first | exact Find.here | apply Find.there)) ?_ | refine ent_drop ?_))⟩
  refine XO_known false (hb := decide_eq_false (by omega)) (hk := ?_)
  repeat (first | refine Zq ?_ | refine Zs ?_ | refine ZT ?_ | refine ZF ?_ | refine Zc ?_ | refine XO_gU (hk := ?_))
  refine XO_known false (hb := decide_eq_false (by omega)) (hk := ?_)
  repeat (first | refine Zq ?_ | refine Zs ?_ | refine ZT ?_ | refine ZF ?_ | refine Zc ?_ | refine XO_gU (hk := ?_))
  refine XO_known false (hb := decide_eq_false (by omega)) (hk := ?_)
  repeat (first | refine Zq ?_ | refine Zs ?_ | refine ZT ?_ | refine ZF ?_ | refine Zc ?_ | refine XO_gU (hk := ?_))
  refine XO_known false (hb := decide_eq_false (by omega)) (hk := ?_)
  repeat (first | refine Zq ?_ | refine Zs ?_ | refine ZT ?_ | refine ZF ?_ | refine Zc ?_ | refine XO_gU (hk := ?_))
  refine XO_call (has_spec A a c xs page n hV (by omega) (by omega) (by omega) hB) (hk := ?_)
  rintro _ _ ⟨rfl, rfl⟩
  repeat (first | refine Zq ?_ | refine Zs ?_ | refine ZT ?_ | refine ZF ?_ | refine Zc ?_ | refine XO_gU (hk := ?_))
  refine X_cond rfl (fun h => ?_) (fun h => ?_)
  · have hg : giveI xs pages page n = none := by
      unfold giveI
      rw [if_pos (.inr (.inr (.inr (.inr h))))]
    rw [hg]
    repeat (first | refine Zq ?_ | refine Zs ?_ | refine ZT ?_ | refine ZF ?_ | refine Zc ?_ | refine XO_gU (hk := ?_))
    refine XE_ret (.inl rfl) (tells_tmps rfl rfl) ⟨_, ⟨rfl, rfl⟩, by ((try simp only [List.cons_append, List.nil_append]); repeat (first | exact ent_refl | refine ent_take (by repeat (first | exact Find.here | apply Find.there)) ?_ | refine ent_drop ?_))⟩
  have hg : giveI xs pages page n = some (giveL xs page n) := by
    unfold giveI
    rw [if_neg]
    rintro (h' | h' | h' | h' | h') <;> first | omega | (rw [h] at h'; cases h')
  rw [hg]
  have hai : afterI xs page ≤ xs.length := List.findIdx_le_length
  repeat (first | refine Zq ?_ | refine Zs ?_ | refine ZT ?_ | refine ZF ?_ | refine Zc ?_ | refine XO_gU (hk := ?_))
  refine XO_call (after_spec A a c xs page hV (by omega) hB) (hk := ?_)
  rintro _ _ ⟨rfl, rfl⟩
  unfold giveL
  generalize afterI xs page = i0 at hai ⊢
  repeat (first | refine Zq ?_ | refine Zs ?_ | refine ZT ?_ | refine ZF ?_ | refine Zc ?_ | refine XO_gU (hk := ?_))
  refine XO_conv (fun _ => SL_nilSl eRun) ?_
  refine XO_dv (dv_append (E' := eRun) (xs := []) (ys := xs.take i0) (A := A) (a := none) (a2 := a) (c := 0) (c2 := c) (hy := by rw [List.length_take, Nat.min_eq_left hai]; rfl) (hv := View.take i0 hV) (hb := by simp; omega)) (hk := ?_)
  rintro _ _ ⟨a1, c1, rfl, rfl⟩
  rw [List.nil_append]
  repeat (first | refine Zq ?_ | refine Zs ?_ | refine ZT ?_ | refine ZF ?_ | refine Zc ?_ | refine XO_gU (hk := ?_))
  (refine XO_dv dv_alloc (hk := ?_); rintro _ _ ⟨cb, rfl, rfl⟩; (repeat (first | refine Zq ?_ | refine Zs ?_ | refine ZT ?_ | refine ZF ?_ | refine Zc ?_ | refine XO_gU (hk := ?_))); refine XO_dv0 dv_storeW (hk := ?_); rintro _ _ rfl; (repeat (first | refine Zq ?_ | refine Zs ?_ | refine ZT ?_ | refine ZF ?_ | refine Zc ?_ | refine XO_gU (hk := ?_))))
  refine X_loop (ι := Nat × Int × Int) (fun q => i0 ≤ q.1 ∧ q.1 ≤ xs.length ∧ mergeI (page, n) (xs.drop i0) = mergeI q.2 (xs.drop q.1) ∧ 0 ≤ q.2.1 ∧ q.2.1 ≤ 1048576 ∧ 0 ≤ q.2.2 ∧ q.2.2 ≤ 1048576 * (q.1 + 1 : Int))
    (fun q => [(0, .slice a xs.length c), (10, .int .i64 (q.1 : Int)), (12, .pointer (some ⟨cb, 0, none⟩)), (11, .slice a1 (xs.take i0).length c1)])
    (fun q => pt cb (.cells [.int .i64 q.2.1, .int .i64 q.2.2].toArray 97 (0, 0)) :: Sl eRun a1 c1 (xs.take i0) :: A :: F) (fun q => xs.length - q.1) (i0, (page, n)) ⟨Nat.le_refl _, hai, rfl, by show 0 ≤ page; omega, by show page ≤ _; omega, by show 0 ≤ n; omega, by show n ≤ 1048576 * ((i0 : Int) + 1); omega⟩ ?_ (by ((try simp only [List.cons_append, List.nil_append]); repeat (first | exact ent_refl | refine ent_take (by repeat (first | exact Find.here | apply Find.there)) ?_ | refine ent_drop ?_))) ?_
  · (repeat (first | exact Env.sub_nil _ | refine Env.sub_cons rfl ?_))
  rintro ⟨i, r1, r2⟩ ⟨hi0, hil, hm, hr0, hr1, hr2, hr3⟩
  dsimp only at hi0 hil hm hr0 hr1 hr2 hr3 ⊢
  repeat (first | refine Zq ?_ | refine Zs ?_ | refine ZT ?_ | refine ZF ?_ | refine Zc ?_ | refine XO_gU (hk := ?_))
  repeat (first | refine XD_pick (h := ?_) | refine Dq ?_ | refine Ds ?_ | refine XDi_gF (h := ?_) | refine XDi_gU (h := ?_) | refine X_draws (h := ?_))
  refine XDi_either (hT := fun h => ?_) (hF := fun h => ?_) <;> simp only [decide_eq_true_eq, decide_eq_false_iff_not] at h
  · have hlt : i < xs.length := by omega
    obtain ⟨g1, g2, g3⟩ := hB xs[i] (List.getElem_mem hlt)
    have hdr : xs.drop i = xs[i] :: xs.drop (i + 1) := List.drop_eq_getElem_cons hlt
    refine XDi_view hV (by omega) ?_
    rintro b o rfl
    repeat (first | refine XD_pick (h := ?_) | refine Dq ?_ | refine Ds ?_ | refine XDi_gF (h := ?_) | refine XDi_gU (h := ?_) | refine X_draws (h := ?_))
    refine XDi_rvA (rv_velf (i := i) (f := 0) (hV := hV)) (h := ?_)
    repeat (first | refine XD_pick (h := ?_) | refine Dq ?_ | refine Ds ?_ | refine XDi_gF (h := ?_) | refine XDi_gU (h := ?_) | refine X_draws (h := ?_))
    refine XD_one (h := ?_)
    refine XDa_dvA (dv_call (end_spec r1 r2 hr0 hr2 (by omega))) (hk := ?_)
    rintro _ _ ⟨_, ⟨rfl, rfl⟩, rfl⟩
    refine ⟨?_, ?_⟩
    · repeat (first | exact keeps_fnil | refine keeps_skip (h := ?_) | refine keeps_takeA (hv := by first | exact rv_load | exact rv_loadW | exact rv_velf (i := i) (f := 0) (hV := hV)) (h := ?_))
    repeat (first | refine XD_pick (h := ?_) | refine Dq ?_ | refine Ds ?_ | refine XDi_gF (h := ?_) | refine XDi_gU (h := ?_) | refine X_draws (h := ?_))
    (refine XD_end (h := ?_); repeat (first | refine Zq ?_ | refine Zs ?_ | refine ZT ?_ | refine ZF ?_ | refine Zc ?_ | refine XO_gU (hk := ?_)))
    refine X_cond rfl (fun h2 => ?_) (fun h2 => ?_) <;> simp only [decide_eq_true_eq, decide_eq_false_iff_not] at h2
    · have hm2 : mergeI (r1, r2) (xs.drop i) = mergeI (min xs[i].1 r1, xs[i].2 + r2) (xs.drop (i + 1)) := by
        rw [hdr, mergeI, if_pos h2]
      repeat (first | refine Zq ?_ | refine Zs ?_ | refine ZT ?_ | refine ZF ?_ | refine Zc ?_ | refine XO_gU (hk := ?_))
      repeat (first | refine XD_pick (h := ?_) | refine Dq ?_ | refine Ds ?_ | refine XDi_gF (h := ?_) | refine XDi_gU (h := ?_) | refine X_draws (h := ?_))
      refine XDi_rvA (rv_velf (i := i) (f := 0) (hV := hV)) (h := ?_)
      repeat (first | refine XD_pick (h := ?_) | refine Dq ?_ | refine Ds ?_ | refine XDi_gF (h := ?_) | refine XDi_gU (h := ?_) | refine X_draws (h := ?_))
      refine XDi_rvA (rv_velf (i := i) (f := 1) (hV := hV)) (h := ?_)
      repeat (first | refine XD_pick (h := ?_) | refine Dq ?_ | refine Ds ?_ | refine XDi_gF (h := ?_) | refine XDi_gU (h := ?_) | refine X_draws (h := ?_))
      refine XD_one (h := ?_)
      refine XDa_dvk0 dv_storeW (K := _) (hk := ?_)
      rintro _ _ rfl
      refine ⟨by (repeat (first | exact keeps_nil | exact keeps_fnil | refine keeps_skip (h := ?_) | refine keeps_takeQ (h := ?_))), ?_⟩
      (refine XD_end (h := ?_); repeat (first | refine Zq ?_ | refine Zs ?_ | refine ZT ?_ | refine ZF ?_ | refine Zc ?_ | refine XO_gU (hk := ?_)))
      refine X_round (i + 1, (min xs[i].1 r1, xs[i].2 + r2)) ⟨by show i0 ≤ i + 1; omega, by show i + 1 ≤ _; omega, by show _ = mergeI _ _; rw [hm, hm2], by show 0 ≤ min _ _; omega, by show min _ _ ≤ _; omega, by show 0 ≤ _ + _; omega, by show _ + _ ≤ 1048576 * (((i + 1 : Nat) : Int) + 1); push_cast; omega⟩ (by show xs.length - (i + 1) < xs.length - i; omega) (by (repeat (first | exact Env.sub_nil _ | refine Env.sub_cons rfl ?_))) (by ((try simp only [List.cons_append, List.nil_append]); repeat (first | exact ent_refl | refine ent_take (by repeat (first | exact Find.here | apply Find.there)) ?_ | refine ent_drop ?_)))
    · have hm2 : mergeI (r1, r2) (xs.drop i) = ((r1, r2), xs.drop i) := by
        rw [hdr, mergeI, if_neg h2]
      rw [hm, hm2]
      dsimp only
      repeat (first | refine Zq ?_ | refine Zs ?_ | refine ZT ?_ | refine ZF ?_ | refine Zc ?_ | refine XO_gU (hk := ?_))
      repeat (first | refine XD_pick (h := ?_) | refine Dq ?_ | refine Ds ?_ | refine XDi_gF (h := ?_) | refine XDi_gU (h := ?_) | refine X_draws (h := ?_))
      refine XD_one (h := ?_)
      refine XDa_dvA (dv_lit (E' := eRun) [(r1, r2)]) (hk := ?_)
      rintro _ _ ⟨lb, rfl, rfl⟩
      refine ⟨by (repeat (first | exact keeps_nil | exact keeps_fnil | refine keeps_skip (h := ?_) | refine keeps_takeQ (h := ?_))), ?_⟩
      repeat (first | refine XD_pick (h := ?_) | refine Dq ?_ | refine Ds ?_ | refine XDi_gF (h := ?_) | refine XDi_gU (h := ?_) | refine X_draws (h := ?_))
      refine XD_one (h := ?_)
      refine XDa_dvA (dv_append (E' := eRun) (xs := xs.take i0) (ys := [(r1, r2)]) (A := Sl eRun (some ⟨lb, 0, none⟩) 1 [(r1, r2)]) (a := a1) (a2 := some ⟨lb, 0, none⟩) (c := c1) (c2 := 1) (hv := Sl.view) (hb := by simp; omega)) (hk := ?_)
      rintro _ _ ⟨a2, c2, rfl, rfl⟩
      refine ⟨by (repeat (first | exact keeps_nil | exact keeps_fnil | refine keeps_skip (h := ?_) | refine keeps_takeQ (h := ?_))), ?_⟩
      repeat (first | refine XD_pick (h := ?_) | refine Dq ?_ | refine Ds ?_ | refine XDi_gF (h := ?_) | refine XDi_gU (h := ?_) | refine X_draws (h := ?_))
      refine XD_one (h := ?_)
      refine XDa_dvA (dv_append (E' := eRun) (xs := xs.take i0 ++ [(r1, r2)]) (ys := xs.drop i) (A := A) (a := a2) (c := c2) (c2 := c - i) (hy := by rw [List.length_drop]; rfl) (hv := View.drop i rfl hc hV) (hb := by simp; omega)) (hk := ?_)
      rintro _ _ ⟨a3, c3, rfl, rfl⟩
      refine ⟨by (repeat (first | exact keeps_nil | exact keeps_fnil | refine keeps_skip (h := ?_) | refine keeps_takeQ (h := ?_))), ?_⟩
      rw [show xs.take i0 ++ [(r1, r2)] ++ xs.drop i = xs.take i0 ++ (r1, r2) :: xs.drop i from by simp]
      repeat (first | refine XD_pick (h := ?_) | refine Dq ?_ | refine Ds ?_ | refine XDi_gF (h := ?_) | refine XDi_gU (h := ?_) | refine X_draws (h := ?_))
      (refine XD_one (h := ?_); refine XDa_dvA (dv_of_rv (rv_of_pv pv_assign)) (hk := ?_); rintro _ _ ⟨rfl, rfl⟩; refine ⟨by (repeat (first | exact keeps_nil | exact keeps_fnil | refine keeps_skip (h := ?_) | refine keeps_takeQ (h := ?_))), ?_⟩)
      (refine XD_one (h := ?_); refine XDa_dvA (dv_of_rv (rv_of_pv pv_assign)) (hk := ?_); rintro _ _ ⟨rfl, rfl⟩; refine ⟨by (repeat (first | exact keeps_nil | exact keeps_fnil | refine keeps_skip (h := ?_) | refine keeps_takeQ (h := ?_))), ?_⟩)
      (refine XD_end (h := ?_); repeat (first | refine Zq ?_ | refine Zs ?_ | refine ZT ?_ | refine ZF ?_ | refine Zc ?_ | refine XO_gU (hk := ?_)))
      refine XE_ret (.inl rfl) (tells_tmps rfl rfl) ⟨_, ⟨a3, c3, rfl, rfl⟩, by ((try simp only [List.cons_append, List.nil_append]); repeat (first | exact ent_refl | refine ent_take (by repeat (first | exact Find.here | apply Find.there)) ?_ | refine ent_drop ?_))⟩
  · obtain rfl : i = xs.length := by omega
    have hm2 : mergeI (r1, r2) (xs.drop xs.length) = ((r1, r2), xs.drop xs.length) := by
      rw [List.drop_length, mergeI]
    repeat (first | refine XD_pick (h := ?_) | refine Dq ?_ | refine Ds ?_ | refine XDi_gF (h := ?_) | refine XDi_gU (h := ?_) | refine X_draws (h := ?_))
    (refine XD_head (h := ?_); first | refine XDi_gF (h := ?_) | refine XDi_gU (h := ?_))
    repeat (first | refine XD_pick (h := ?_) | refine Dq ?_ | refine Ds ?_ | refine XDi_gF (h := ?_) | refine XDi_gU (h := ?_) | refine X_draws (h := ?_))
    (refine XD_end (h := ?_); repeat (first | refine Zq ?_ | refine Zs ?_ | refine ZT ?_ | refine ZF ?_ | refine Zc ?_ | refine XO_gU (hk := ?_)))
    refine X_cond rfl (fun h => by cases h) (fun _ => ?_)
    rw [hm, hm2]
    dsimp only
    repeat (first | refine Zq ?_ | refine Zs ?_ | refine ZT ?_ | refine ZF ?_ | refine Zc ?_ | refine XO_gU (hk := ?_))
    repeat (first | refine XD_pick (h := ?_) | refine Dq ?_ | refine Ds ?_ | refine XDi_gF (h := ?_) | refine XDi_gU (h := ?_) | refine X_draws (h := ?_))
    refine XD_one (h := ?_)
    refine XDa_dvA (dv_lit (E' := eRun) [(r1, r2)]) (hk := ?_)
    rintro _ _ ⟨lb, rfl, rfl⟩
    refine ⟨by (repeat (first | exact keeps_nil | exact keeps_fnil | refine keeps_skip (h := ?_) | refine keeps_takeQ (h := ?_))), ?_⟩
    repeat (first | refine XD_pick (h := ?_) | refine Dq ?_ | refine Ds ?_ | refine XDi_gF (h := ?_) | refine XDi_gU (h := ?_) | refine X_draws (h := ?_))
    refine XD_one (h := ?_)
    refine XDa_dvA (dv_append (E' := eRun) (xs := xs.take i0) (ys := [(r1, r2)]) (A := Sl eRun (some ⟨lb, 0, none⟩) 1 [(r1, r2)]) (a := a1) (a2 := some ⟨lb, 0, none⟩) (c := c1) (c2 := 1) (hv := Sl.view) (hb := by simp; omega)) (hk := ?_)
    rintro _ _ ⟨a2, c2, rfl, rfl⟩
    refine ⟨by (repeat (first | exact keeps_nil | exact keeps_fnil | refine keeps_skip (h := ?_) | refine keeps_takeQ (h := ?_))), ?_⟩
    repeat (first | refine XD_pick (h := ?_) | refine Dq ?_ | refine Ds ?_ | refine XDi_gF (h := ?_) | refine XDi_gU (h := ?_) | refine X_draws (h := ?_))
    refine XD_one (h := ?_)
    refine XDa_dvA (dv_append (E' := eRun) (xs := xs.take i0 ++ [(r1, r2)]) (ys := xs.drop xs.length) (A := A) (a := a2) (c := c2) (c2 := c - xs.length) (hy := by rw [List.length_drop]; rfl) (hv := View.drop xs.length rfl hc hV) (hb := by simp; omega)) (hk := ?_)
    rintro _ _ ⟨a3, c3, rfl, rfl⟩
    refine ⟨by (repeat (first | exact keeps_nil | exact keeps_fnil | refine keeps_skip (h := ?_) | refine keeps_takeQ (h := ?_))), ?_⟩
    rw [show xs.take i0 ++ [(r1, r2)] ++ xs.drop xs.length = xs.take i0 ++ (r1, r2) :: xs.drop xs.length from by simp]
    repeat (first | refine XD_pick (h := ?_) | refine Dq ?_ | refine Ds ?_ | refine XDi_gF (h := ?_) | refine XDi_gU (h := ?_) | refine X_draws (h := ?_))
    (refine XD_one (h := ?_); refine XDa_dvA (dv_of_rv (rv_of_pv pv_assign)) (hk := ?_); rintro _ _ ⟨rfl, rfl⟩; refine ⟨by (repeat (first | exact keeps_nil | exact keeps_fnil | refine keeps_skip (h := ?_) | refine keeps_takeQ (h := ?_))), ?_⟩)
    (refine XD_one (h := ?_); refine XDa_dvA (dv_of_rv (rv_of_pv pv_assign)) (hk := ?_); rintro _ _ ⟨rfl, rfl⟩; refine ⟨by (repeat (first | exact keeps_nil | exact keeps_fnil | refine keeps_skip (h := ?_) | refine keeps_takeQ (h := ?_))), ?_⟩)
    (refine XD_end (h := ?_); repeat (first | refine Zq ?_ | refine Zs ?_ | refine ZT ?_ | refine ZF ?_ | refine Zc ?_ | refine XO_gU (hk := ?_)))
    refine XE_ret (.inl rfl) (tells_tmps rfl rfl) ⟨_, ⟨a3, c3, rfl, rfl⟩, by ((try simp only [List.cons_append, List.nil_append]); repeat (first | exact ent_refl | refine ent_take (by repeat (first | exact Find.here | apply Find.there)) ?_ | refine ent_drop ?_))⟩
end Go.Proofs.YtamecmklcnohjaaGreat.Sep
namespace Go.Proofs.YtamecmklcnohjaaGreat.Sep
open Go.RowKit
set_option linter.unusedSimpArgs false
set_option linter.unusedVariables false
/-! the plain law of free runs: they stay in order, and which pages they have -/
def RightFrom (P : Int) : Int → List (Int × Int) → Prop
  | _, [] => True
  | lo, r :: l => lo ≤ r.1 ∧ 1 ≤ r.2 ∧ r.1 + r.2 ≤ P ∧ RightFrom P (r.1 + r.2 + 1) l
def ind (x : Int) (r : Int × Int) : Int := if r.1 ≤ x ∧ x < r.1 + r.2 then 1 else 0
def cnt (x : Int) : List (Int × Int) → Int
  | [] => 0
  | r :: l => ind x r + cnt x l
theorem ind_nn (x : Int) (r : Int × Int) : 0 ≤ ind x r := by unfold ind; split <;> omega
theorem cnt_nn (x : Int) : ∀ l, 0 ≤ cnt x l
  | [] => by simp [cnt]
  | r :: l => by have := ind_nn x r; have := cnt_nn x l; simp only [cnt]; omega
theorem cnt_append (x : Int) : ∀ l l', cnt x (l ++ l') = cnt x l + cnt x l'
  | [], l' => by simp [cnt]
  | r :: l, l' => by simp only [List.cons_append, cnt, cnt_append x l l']; omega
theorem tot_cons (r : Int × Int) (l : List (Int × Int)) : totI (r :: l) = r.2 + totI l := by simp [totI]
theorem tot_append (l l' : List (Int × Int)) : totI (l ++ l') = totI l + totI l' := by simp [totI, List.sum_append]
theorem rf_mono {P lo lo' : Int} {l : List (Int × Int)} (h : lo' ≤ lo) (hr : RightFrom P lo l) : RightFrom P lo' l := by
  cases l with
  | nil => trivial
  | cons r l => obtain ⟨h1, h2, h3, h4⟩ := hr; exact ⟨by omega, h2, h3, h4⟩
theorem rf_mem {P : Int} : ∀ {l : List (Int × Int)} {lo : Int}, RightFrom P lo l → ∀ r ∈ l, lo ≤ r.1 ∧ 1 ≤ r.2 ∧ r.1 + r.2 ≤ P
  | [], _, _, r, hr => by cases hr
  | q :: l, lo, ⟨h1, h2, h3, h4⟩, r, hr => by
    rcases List.mem_cons.1 hr with rfl | hr
    · exact ⟨h1, h2, h3⟩
    · have := rf_mem h4 r hr; exact ⟨by omega, this.2⟩
theorem rf_len {P : Int} : ∀ {l : List (Int × Int)} {lo : Int}, lo ≤ P + 1 → RightFrom P lo l → (l.length : Int) ≤ P + 1 - lo
  | [], lo, h, _ => by simp; omega
  | r :: l, lo, h, ⟨h1, h2, h3, h4⟩ => by
    have := rf_len (by omega) h4
    simp; omega
theorem rf_bd {P : Int} {l : List (Int × Int)} (hP : P ≤ 1048576) (h : RightFrom P 0 l) : Bd l := fun r hr => by
  have := rf_mem h r hr; omega
theorem rf_len' {P : Int} {l : List (Int × Int)} (h0 : 0 ≤ P) (hP : P ≤ 1048576) (h : RightFrom P 0 l) : l.length ≤ 1048576 := by
  cases l with
  | nil => simp
  | cons r l =>
    obtain ⟨h1, h2, h3, h4⟩ := h
    have := rf_len (by omega) h4
    simp; omega
/-! taken -/
theorem rf_erase {P : Int} : ∀ {l : List (Int × Int)} {lo : Int} (i : Nat), RightFrom P lo l → RightFrom P lo (l.eraseIdx i)
  | [], _, _, _ => by simp [RightFrom]
  | r :: l, lo, 0, ⟨h1, h2, h3, h4⟩ => by simpa using rf_mono (by omega) h4
  | r :: l, lo, i + 1, ⟨h1, h2, h3, h4⟩ => by simpa using ⟨h1, h2, h3, rf_erase i h4⟩
theorem rf_set {P n : Int} (h0 : 1 ≤ n) : ∀ {l : List (Int × Int)} {lo : Int} (i : Nat), RightFrom P lo l → n < (l.getD i (0, 0)).2 → RightFrom P lo (l.set i ((l.getD i (0, 0)).1 + n, (l.getD i (0, 0)).2 - n))
  | [], _, _, _, _ => by simp [RightFrom]
  | r :: l, lo, 0, ⟨h1, h2, h3, h4⟩, hn => by
    simp only [List.getD_cons_zero] at hn
    simp only [List.getD_cons_zero, List.set_cons_zero, RightFrom]
    exact ⟨by omega, by omega, by omega, by rw [show r.1 + n + (r.2 - n) + 1 = r.1 + r.2 + 1 from by omega]; exact h4⟩
  | r :: l, lo, i + 1, ⟨h1, h2, h3, h4⟩, hn => by
    simp only [List.getD_cons_succ] at hn
    simp only [List.getD_cons_succ, List.set_cons_succ, RightFrom]
    exact ⟨h1, h2, h3, rf_set h0 i h4 hn⟩
theorem cnt_take {n : Int} (x : Int) (h0 : 1 ≤ n) : ∀ (l : List (Int × Int)) (i : Nat), i < l.length → n ≤ (l.getD i (0, 0)).2 →
    cnt x l = cnt x (takeAt l n i).2 + ind x ((takeAt l n i).1, n) ∧ totI l = totI (takeAt l n i).2 + n
  | [], i, h, _ => by simp at h
  | r :: l, 0, _, hn => by
    simp only [List.getD_cons_zero] at hn
    simp only [takeAt, List.getD_cons_zero]
    by_cases hq : r.2 = n
    · rw [if_pos hq]
      simp only [List.eraseIdx_cons_zero, cnt, tot_cons]
      subst hq
      exact ⟨Int.add_comm _ _, Int.add_comm _ _⟩
    · rw [if_neg hq]
      simp only [List.set_cons_zero, cnt, tot_cons]
      refine ⟨?_, by omega⟩
      unfold ind
      simp only
      repeat' split
      all_goals omega
  | r :: l, i + 1, hi, hn => by
    simp only [List.getD_cons_succ] at hn
    have ih := cnt_take x h0 l i (by simpa using hi) hn
    simp only [takeAt, List.getD_cons_succ] at ih ⊢
    by_cases hq : (l.getD i (0, 0)).2 = n
    · rw [if_pos hq] at ih ⊢
      simp only [List.eraseIdx_cons_succ, cnt, tot_cons]
      omega
    · rw [if_neg hq] at ih ⊢
      simp only [List.set_cons_succ, cnt, tot_cons]
      omega
theorem takeI_right {P n : Int} {l ys : List (Int × Int)} {p : Int} (hr : RightFrom P 0 l) (h : takeI l n = some (p, ys)) :
    RightFrom P 0 ys ∧ 1 ≤ n ∧ 0 ≤ p ∧ p + n ≤ P ∧ (∀ x, cnt x l = cnt x ys + ind x (p, n)) ∧ totI l = totI ys + n := by
  unfold takeI at h
  cases hb : bestU l n l.length with
  | none => rw [hb] at h; cases h
  | some i =>
    rw [hb, Option.map_some, Option.some.injEq] at h
    have hi := bestU_lt hb
    obtain ⟨hn0, hn1⟩ := bestU_ge hb
    have hg : l.getD i (0, 0) = l[i] := by simp [List.getD, hi]
    have hm := rf_mem hr l[i] (List.getElem_mem hi)
    have h1 : ∀ x, _ := fun x => cnt_take x (show 1 ≤ n by omega) l i hi hn1
    rw [h] at h1
    have hp : p = (l.getD i (0, 0)).1 := by rw [takeAt] at h; exact (Prod.mk.inj h).1.symm
    have hys : ys = if (l.getD i (0, 0)).2 = n then l.eraseIdx i else l.set i ((l.getD i (0, 0)).1 + n, (l.getD i (0, 0)).2 - n) := by rw [takeAt] at h; exact (Prod.mk.inj h).2.symm
    refine ⟨?_, by omega, by rw [hp, hg]; omega, by rw [hp, hg]; rw [hg] at hn1; omega, fun x => (h1 x).1, (h1 0).2⟩
    rw [hys]
    split
    · exact rf_erase i hr
    · rename_i hne
      exact rf_set (by omega) i hr (by omega)
/-! given back -/
theorem merge_stop {P : Int} {r : Int × Int} {l : List (Int × Int)} (h : RightFrom P (r.1 + r.2 + 1) l) : mergeI r l = (r, l) := by
  cases l with
  | nil => rfl
  | cons x l => rw [mergeI, if_neg (by have := h.1; omega)]
theorem merge_right {P lo : Int} {r : Int × Int} {l : List (Int × Int)} (hr2 : 1 ≤ r.2) (hrP : r.1 + r.2 ≤ P) (h : RightFrom P lo l) (hd : ∀ x ∈ l, r.1 + r.2 ≤ x.1) :
    (mergeI r l).1.1 = r.1 ∧ RightFrom P r.1 ((mergeI r l).1 :: (mergeI r l).2) ∧ (∀ x, cnt x ((mergeI r l).1 :: (mergeI r l).2) = cnt x (r :: l)) ∧ totI ((mergeI r l).1 :: (mergeI r l).2) = totI (r :: l) := by
  cases l with
  | nil => exact ⟨rfl, ⟨Int.le_refl _, hr2, hrP, trivial⟩, fun _ => rfl, rfl⟩
  | cons y t =>
    obtain ⟨h1, h2, h3, h4⟩ := h
    have hy := hd y (by simp)
    by_cases hc : y.1 ≤ r.1 + r.2
    · have hm : mergeI r (y :: t) = ((r.1, y.2 + r.2), t) := by
        rw [mergeI, if_pos hc, show min y.1 r.1 = r.1 from by omega]
        exact merge_stop (P := P) (rf_mono (by show r.1 + (y.2 + r.2) + 1 ≤ _; omega) h4)
      rw [hm]
      refine ⟨rfl, ⟨Int.le_refl _, by show 1 ≤ y.2 + r.2; omega, by show r.1 + (y.2 + r.2) ≤ P; omega, rf_mono (by show r.1 + (y.2 + r.2) + 1 ≤ _; omega) h4⟩, fun x => ?_, by simp only [tot_cons]; omega⟩
      simp only [cnt]
      unfold ind
      simp only
      repeat' split
      all_goals omega
    · have hm : mergeI r (y :: t) = (r, y :: t) := by rw [mergeI, if_neg hc]
      rw [hm]
      exact ⟨rfl, ⟨Int.le_refl _, hr2, hrP, ⟨by show r.1 + r.2 + 1 ≤ y.1; omega, h2, h3, h4⟩⟩, fun _ => rfl, rfl⟩
theorem giveL_nil (p n : Int) : giveL [] p n = [(p, n)] := rfl
theorem giveL_cons (x : Int × Int) (xs : List (Int × Int)) (p n : Int) : giveL (x :: xs) p n = if p ≤ x.1 + x.2 then (mergeI (p, n) (x :: xs)).1 :: (mergeI (p, n) (x :: xs)).2 else x :: giveL xs p n := by
  unfold giveL afterI
  rw [List.findIdx_cons]
  by_cases h : p ≤ x.1 + x.2
  · simp [h]
  · simp [h]
theorem give_right {P p n : Int} (hn : 1 ≤ n) (hP : p + n ≤ P) : ∀ (xs : List (Int × Int)) (lo : Int), RightFrom P lo xs → lo ≤ p → (∀ r ∈ xs, p + n ≤ r.1 ∨ r.1 + r.2 ≤ p) →
    RightFrom P lo (giveL xs p n) ∧ (∀ x, cnt x (giveL xs p n) = cnt x xs + ind x (p, n)) ∧ totI (giveL xs p n) = totI xs + n
  | [], lo, _, hlo, _ => by
    rw [giveL_nil]
    exact ⟨⟨hlo, hn, hP, trivial⟩, fun x => by simp only [cnt]; omega, by simp [totI]⟩
  | y :: t, lo, ⟨h1, h2, h3, h4⟩, hlo, hd => by
    rw [giveL_cons]
    have hy := hd y (by simp)
    by_cases hc : p ≤ y.1 + y.2
    · rw [if_pos hc]
      by_cases he : y.1 + y.2 = p
      · -- the run ahead ends where the pages begin
        have ht : ∀ z ∈ t, p + n ≤ z.1 := fun z hz => by
          have := rf_mem h4 z hz
          rcases hd z (by simp [hz]) with h | h <;> omega
        have hm : mergeI (p, n) (y :: t) = mergeI (y.1, y.2 + n) t := by
          rw [mergeI, if_pos (by show y.1 ≤ p + n; omega), show min y.1 p = y.1 from by omega]
        rw [hm]
        obtain ⟨g1, g2, g3, g4⟩ := merge_right (P := P) (r := (y.1, y.2 + n)) (l := t) (by show 1 ≤ y.2 + n; omega) (by show y.1 + (y.2 + n) ≤ P; omega) h4 (fun z hz => by show y.1 + (y.2 + n) ≤ z.1; have := ht z hz; omega)
        refine ⟨rf_mono (by show lo ≤ y.1; exact h1) g2, fun x => ?_, ?_⟩
        · rw [g3 x]
          simp only [cnt]
          unfold ind
          simp only
          repeat' split
          all_goals omega
        · rw [g4]; simp only [tot_cons]; omega
      · have ht : ∀ z ∈ y :: t, p + n ≤ z.1 := fun z hz => by
          rcases List.mem_cons.1 hz with rfl | hz
          · omega
          · have := rf_mem h4 z hz; omega
        obtain ⟨g1, g2, g3, g4⟩ := merge_right (P := P) (r := (p, n)) (l := y :: t) hn hP ⟨h1, h2, h3, h4⟩ (fun z hz => ht z hz)
        refine ⟨rf_mono hlo g2, fun x => ?_, ?_⟩
        · rw [g3 x]; simp only [cnt]; omega
        · rw [g4]; simp only [tot_cons]; omega
    · rw [if_neg hc]
      obtain ⟨g1, g2, g3⟩ := give_right hn hP t (y.1 + y.2 + 1) h4 (by omega) (fun r hr => hd r (by simp [hr]))
      exact ⟨⟨h1, h2, h3, g1⟩, fun x => by simp only [cnt, g2 x]; omega, by simp only [tot_cons, g3]; omega⟩
theorem hasB_iff {p n : Int} {r : Int × Int} (h0 : 0 ≤ p) (hn : 1 ≤ n) : hasB p n r = true ↔ r.1 < p + n ∧ p < r.1 + r.2 := by
  unfold hasB
  rw [decide_eq_true_eq]
  constructor
  · rintro ⟨_, h | h, h3⟩
    · omega
    · exact ⟨by omega, h3⟩
  · rintro ⟨h1, h2⟩; exact ⟨by omega, .inr ⟨h0, by omega⟩, h2⟩
theorem giveI_right {P p n : Int} {l ys : List (Int × Int)} (hr : RightFrom P 0 l) (h : giveI l P p n = some ys) :
    RightFrom P 0 ys ∧ (∀ x, cnt x ys = cnt x l + ind x (p, n)) ∧ totI ys = totI l + n := by
  unfold giveI at h
  split at h
  · cases h
  rename_i hb
  cases h
  refine give_right (by omega) (by omega) l 0 hr (by omega) fun r hr => ?_
  have hh : ¬ hasB p n r = true := fun hh => hb (.inr (.inr (.inr (.inr (List.any_eq_true.2 ⟨r, hr, hh⟩)))))
  rw [hasB_iff (by omega) (by omega)] at hh
  omega
theorem cnt_mem {x : Int} {r : Int × Int} : ∀ {l : List (Int × Int)}, r ∈ l → ind x r ≤ cnt x l
  | [], h => by cases h
  | q :: l, h => by
    rcases List.mem_cons.1 h with rfl | h
    · have := cnt_nn x l; simp only [cnt]; omega
    · have := cnt_mem (x := x) h; have := ind_nn x q; simp only [cnt]; omega
/-- What overlaps nothing can be given back. -/
theorem giveI_some {P p n : Int} {l : List (Int × Int)} (hr : RightFrom P 0 l) (h0 : 0 ≤ p) (hn : 1 ≤ n) (hP : p + n ≤ P) (hd : ∀ x, cnt x l + ind x (p, n) ≤ 1) : giveI l P p n = some (giveL l p n) := by
  unfold giveI
  rw [if_neg]
  rintro (h | h | h | h | h)
  · omega
  · omega
  · omega
  · omega
  · obtain ⟨r, hr1, hh⟩ := List.any_eq_true.1 h
    rw [hasB_iff h0 hn] at hh
    have hm := rf_mem hr r hr1
    have h1 := cnt_mem (x := max p r.1) hr1
    have h2 := hd (max p r.1)
    have h3 : ind (max p r.1) r = 1 := by unfold ind; rw [if_pos]; omega
    have h4 : ind (max p r.1) (p, n) = 1 := by unfold ind; rw [if_pos]; simp only; omega
    omega
/-- All pages, in one run. -/
theorem free_all {P : Int} {l : List (Int × Int)} (hP : 1 ≤ P) (hr : RightFrom P 0 l) (hc : ∀ x, 0 ≤ x → x < P → 1 ≤ cnt x l) : l = [(0, P)] := by
  have key : ∀ (l : List (Int × Int)) (lo x : Int), RightFrom P lo l → x < lo → cnt x l = 0 := by
    intro l
    induction l with
    | nil => intros; rfl
    | cons r l ih =>
      rintro lo x ⟨h1, h2, h3, h4⟩ hx
      simp only [cnt]
      rw [ih _ x h4 (by omega)]
      unfold ind
      rw [if_neg (by omega)]; rfl
  cases l with
  | nil => have := hc 0 (by omega) (by omega); simp [cnt] at this
  | cons r l =>
    obtain ⟨h1, h2, h3, h4⟩ := hr
    have hr1 : r.1 = 0 := by
      refine Decidable.byContradiction fun h => ?_
      have := hc 0 (by omega) (by omega)
      rw [key (r :: l) r.1 0 ⟨Int.le_refl _, h2, h3, h4⟩ (by omega)] at this
      omega
    have hr2 : r.1 + r.2 = P := by
      refine Decidable.byContradiction fun h => ?_
      have := hc (r.1 + r.2) (by omega) (by omega)
      simp only [cnt] at this
      rw [key l _ (r.1 + r.2) h4 (by omega)] at this
      unfold ind at this
      rw [if_neg (by omega)] at this
      omega
    cases l with
    | nil =>
      obtain ⟨a, b⟩ := r
      simp only at hr1 hr2
      subst hr1
      rw [show b = P by omega]
    | cons q l => obtain ⟨g1, g2, g3, _⟩ := h4; omega
end Go.Proofs.YtamecmklcnohjaaGreat.Sep
namespace Go.Proofs.YtamecmklcnohjaaGreat.Sep
open Go.RowKit
set_option linter.unusedSimpArgs false
set_option linter.unusedVariables false

/-- Pages that are taken and given back: how many, what is free, and what was done. -/
def Pg (b : Nat) (P : Int) (fr : List (Int × Int)) (t : Int) : HP := fun H => ∃ x : Option Addr × Nat, SL [pt b (.cells [.int .i64 P, .slice x.1 fr.length x.2, .int .i64 t].toArray 192 (0, 0)), Sl eRun x.1 x.2 fr] H
theorem Pg.open {b : Nat} {P : Int} {fr : List (Int × Int)} {t : Int} : ∀ H, Pg b P fr t H → ∃ x : Option Addr × Nat, True ∧ SL [pt b (.cells [.int .i64 P, .slice x.1 fr.length x.2, .int .i64 t].toArray 192 (0, 0)), Sl eRun x.1 x.2 fr] H := fun H ⟨x, h⟩ => ⟨x, trivial, h⟩
theorem Pg.fold {b : Nat} {P : Int} {fr : List (Int × Int)} {t : Int} {a : Option Addr} {c : Nat} : ∀ H, SL [pt b (.cells [.int .i64 P, .slice a fr.length c, .int .i64 t].toArray 192 (0, 0)), Sl eRun a c fr] H → Pg b P fr t H := fun H h => ⟨(a, c), h⟩
def tickI (t : Int) (m : Nat) : Int := IntKind.i64.wrap (t + (1 + (m : Int)))
set_option maxHeartbeats 8000000
attribute [local irreducible] X XE XO XD XDi XDa PV RV DV pt base Spec Sl Mp Keeps Pg

theorem clone_spec (A : HP) (a : Option Addr) (c m : Nat) (xs : List (Int × Int)) (hm : m = xs.length) (hV : View A eRun a xs) (hl : xs.length ≤ 1048576) :
    Spec Tryz.prog 135 [.slice a m c] [A] (fun v L => ∃ a' c', v = .slice a' xs.length c' ∧ L = [A, Sl eRun a' c' xs]) := by
  subst hm
  refine Spec.intro (IsEnt.out) Tryz.func135 rfl Tryz.ntmps135 (by simp) (fun w0 F => ?_)
  simp only [envOf, List.zipIdx, List.map, List.cons_append, List.nil_append, Nat.zero_add, Nat.reduceAdd]
  repeat (first | refine Zq ?_ | refine Zs ?_ | refine ZT ?_ | refine ZF ?_ | refine Zc ?_ | refine XO_gU (hk := ?_))
  refine XO_pv pv_eqnilS (hk := ?_)
  repeat (first | refine Zq ?_ | refine Zs ?_ | refine ZT ?_ | refine ZF ?_ | refine Zc ?_ | refine XO_gU (hk := ?_))
  cases a with
  | none =>
    refine X_cond rfl (fun _ => ?_) (fun h => by cases h)
    refine X_fact (A := A) (p := xs = []) (by (repeat (first | exact Find.here | apply Find.there))) (fun H hH => by rcases hV H hH with h | ⟨_, h, _⟩; exact h; cases h) (fun hx => ?_)
    subst hx
    repeat (first | refine Zq ?_ | refine Zs ?_ | refine ZT ?_ | refine ZF ?_ | refine Zc ?_ | refine XO_gU (hk := ?_))
    refine XE_conv (fun _ => SL_nilSl eRun) ?_
    refine XE_ret (.inl rfl) (tells_tmps rfl rfl) ⟨_, ⟨none, 0, rfl, rfl⟩, by ((try simp only [List.cons_append, List.nil_append]); repeat (first | exact ent_refl | refine ent_take (by repeat (first | exact Find.here | apply Find.there)) ?_ | refine ent_drop ?_))⟩
  | some ad =>
    refine X_cond rfl (fun h => by cases h) (fun _ => ?_)
    repeat (first | refine Zq ?_ | refine Zs ?_ | refine ZT ?_ | refine ZF ?_ | refine Zc ?_ | refine XO_gU (hk := ?_))
    refine XO_dv (dv_lit (E' := eRun) []) (hk := ?_)
    rintro _ _ ⟨lb, rfl, rfl⟩
    repeat (first | refine Zq ?_ | refine Zs ?_ | refine ZT ?_ | refine ZF ?_ | refine Zc ?_ | refine XO_gU (hk := ?_))
    refine XO_dv (dv_append (E' := eRun) (xs := []) (ys := xs) (A := A) (hv := hV) (hb := by simp; omega)) (hk := ?_)
    rintro _ _ ⟨a3, c3, rfl, rfl⟩
    rw [List.nil_append]
    repeat (first | refine Zq ?_ | refine Zs ?_ | refine ZT ?_ | refine ZF ?_ | refine Zc ?_ | refine XO_gU (hk := ?_))
    refine XE_ret (.inl rfl) (tells_tmps rfl rfl) ⟨_, ⟨a3, c3, rfl, rfl⟩, by ((try simp only [List.cons_append, List.nil_append]); repeat (first | exact ent_refl | refine ent_take (by repeat (first | exact Find.here | apply Find.there)) ?_ | refine ent_drop ?_))⟩
theorem pnew_spec (p : Int) : Spec Tryz.prog 54 [.int .i64 p] [] (fun v L => ∃ b, v = .pointer (some ⟨b, 0, none⟩) ∧ L = [Pg b (min (max p 1) 1048576) [(0, min (max p 1) 1048576)] 0]) := by
  refine Spec.intro (IsEnt.out) Tryz.func54 rfl Tryz.ntmps54 (by simp) (fun w0 F => ?_)
  simp only [envOf, List.zipIdx, List.map, List.cons_append, List.nil_append, Nat.zero_add, Nat.reduceAdd]
  repeat (first | refine Zq ?_ | refine Zs ?_ | refine ZT ?_ | refine ZF ?_ | refine Zc ?_ | refine XO_gU (hk := ?_))
  refine XO_dv (dv_lit (E' := eRun) [(0, min (max p 1) 1048576)]) (hk := ?_)
  rintro _ _ ⟨lb, rfl, rfl⟩
  repeat (first | refine Zq ?_ | refine Zs ?_ | refine ZT ?_ | refine ZF ?_ | refine Zc ?_ | refine XO_gU (hk := ?_))
  refine XO_pv (pv_buildG [.int .i64 (min (max p 1) 1048576), .slice (some ⟨lb, 0, none⟩) 1 1, .int .i64 0]) (hk := ?_)
  repeat (first | refine Zq ?_ | refine Zs ?_ | refine ZT ?_ | refine ZF ?_ | refine Zc ?_ | refine XO_gU (hk := ?_))
  refine XO_dv dv_box (hk := ?_)
  rintro _ _ ⟨b, rfl, rfl⟩
  repeat (first | refine Zq ?_ | refine Zs ?_ | refine ZT ?_ | refine ZF ?_ | refine Zc ?_ | refine XO_gU (hk := ?_))
  refine XE_ret (.inl rfl) (tells_tmps rfl rfl) ⟨_, ⟨b, rfl, rfl⟩, ?_⟩
  refine ent_fold (by repeat (first | exact FindAll.nil | exact Find.here | apply Find.there | apply FindAll.cons)) (Pg.fold (a := some ⟨lb, 0, none⟩) (c := 1)) ?_
  ((try simp only [List.cons_append, List.nil_append]); repeat (first | exact ent_refl | refine ent_take (by repeat (first | exact Find.here | apply Find.there)) ?_ | refine ent_drop ?_))
theorem done_spec (b m m' c c' : Nat) (P t : Int) (a a' : Option Addr) (hm : m ≤ 1048576) : Spec Tryz.prog 133 [.pointer (some ⟨b, 0, none⟩), .slice a' m' c'] [pt b (.cells [.int .i64 P, .slice a m c, .int .i64 t].toArray 192 (0, 0))]
    (fun v L => v = .int .i64 0 ∧ L = [pt b (.cells [.int .i64 P, .slice a' m' c', .int .i64 (tickI t m)].toArray 192 (0, 0))]) := by
  refine Spec.intro (IsEnt.out) Tryz.func133 rfl Tryz.ntmps133 (by simp) (fun w0 F => ?_)
  simp only [envOf, List.zipIdx, List.map, List.cons_append, List.nil_append, Nat.zero_add, Nat.reduceAdd]
  repeat (first | refine Zq ?_ | refine Zs ?_ | refine ZT ?_ | refine ZF ?_ | refine Zc ?_ | refine XO_gU (hk := ?_))
  repeat (first | refine XD_pick (h := ?_) | refine Dq ?_ | refine Ds ?_ | refine XDi_gF (h := ?_) | refine XDi_gU (h := ?_) | refine X_draws (h := ?_))
  refine XD_one (h := ?_)
  refine XDa_dvk0 dv_store (K := _) (hk := ?_)
  rintro _ _ rfl
  refine ⟨by (repeat (first | exact keeps_nil | exact keeps_fnil | refine keeps_skip (h := ?_) | refine keeps_takeQ (h := ?_))), ?_⟩
  (refine XD_end (h := ?_); repeat (first | refine Zq ?_ | refine Zs ?_ | refine ZT ?_ | refine ZF ?_ | refine Zc ?_ | refine XO_gU (hk := ?_)))
  refine XO_dv0 dv_store (hk := ?_)
  rintro _ _ rfl
  repeat (first | refine Zq ?_ | refine Zs ?_ | refine ZT ?_ | refine ZF ?_ | refine Zc ?_ | refine XO_gU (hk := ?_))
  refine XE_ret (.inl rfl) (tells_tmps rfl rfl) ⟨_, ⟨rfl, rfl⟩, by ((try simp only [List.cons_append, List.nil_append]); repeat (first | exact ent_refl | refine ent_take (by repeat (first | exact Find.here | apply Find.there)) ?_ | refine ent_drop ?_))⟩
def takeP (b : Nat) (P : Int) (fr : List (Int × Int)) (t n : Int) : Value → List HP → Prop :=
  if n < 1 then fun v L => v = .tuple #[.int .i64 0, .int .i64 1] ∧ L = [Pg b P fr t] else match takeI fr n with
  | none => fun v L => v = .tuple #[.int .i64 0, .int .i64 4] ∧ L = [Pg b P fr t]
  | some q => fun v L => v = .tuple #[.int .i64 q.1, .int .i64 0] ∧ L = [Pg b P q.2 (tickI t fr.length)]
theorem ptake_spec (b : Nat) (P t n : Int) (fr : List (Int × Int)) (hl : fr.length ≤ 1048576) (hB : Bd fr) : Spec Tryz.prog 128 [.pointer (some ⟨b, 0, none⟩), .int .i64 n] [Pg b P fr t] (takeP b P fr t n) := by
  refine Spec.intro (IsEnt.out) Tryz.func128 rfl Tryz.ntmps128 (by simp) (fun w0 F => ?_)
  simp only [envOf, List.zipIdx, List.map, List.cons_append, List.nil_append, Nat.zero_add, Nat.reduceAdd]
  repeat (first | refine Zq ?_ | refine Zs ?_ | refine ZT ?_ | refine ZF ?_ | refine Zc ?_ | refine XO_gU (hk := ?_))
  refine X_cond rfl (fun h => ?_) (fun h => ?_) <;> simp only [decide_eq_true_eq, decide_eq_false_iff_not] at h
  · unfold takeP
    rw [if_pos h]
    repeat (first | refine Zq ?_ | refine Zs ?_ | refine ZT ?_ | refine ZF ?_ | refine Zc ?_ | refine XO_gU (hk := ?_))
    refine XE_ret (.inl rfl) (tells_tmps rfl rfl) ⟨_, ⟨rfl, rfl⟩, by ((try simp only [List.cons_append, List.nil_append]); repeat (first | exact ent_refl | refine ent_take (by repeat (first | exact Find.here | apply Find.there)) ?_ | refine ent_drop ?_))⟩
  unfold takeP
  rw [if_neg h]
  refine X_open .here Pg.open ?_
  rintro ⟨a, c⟩ -
  dsimp only [List.cons_append, List.nil_append]
  repeat (first | refine Zq ?_ | refine Zs ?_ | refine ZT ?_ | refine ZF ?_ | refine Zc ?_ | refine XO_gU (hk := ?_))
  refine XO_call (take_spec (Sl eRun a c fr) a c fr n Sl.view hl hB) (hk := ?_)
  intro v L' hpost
  cases ht : takeI fr n with
  | none =>
    rw [ht] at hpost
    obtain ⟨rfl, rfl⟩ := hpost
    repeat (first | refine Zq ?_ | refine Zs ?_ | refine ZT ?_ | refine ZF ?_ | refine Zc ?_ | refine XO_gU (hk := ?_))
    refine X_cond rfl (fun _ => ?_) (fun h => by cases h)
    repeat (first | refine Zq ?_ | refine Zs ?_ | refine ZT ?_ | refine ZF ?_ | refine Zc ?_ | refine XO_gU (hk := ?_))
    refine XE_ret (.inl rfl) (tells_tmps rfl rfl) ⟨_, ⟨rfl, rfl⟩, ?_⟩
    (try simp only [List.cons_append, List.nil_append])
    refine ent_fold (by repeat (first | exact FindAll.nil | exact Find.here | apply Find.there | apply FindAll.cons)) Pg.fold ?_
    ((try simp only [List.cons_append, List.nil_append]); repeat (first | exact ent_refl | refine ent_take (by repeat (first | exact Find.here | apply Find.there)) ?_ | refine ent_drop ?_))
  | some q =>
    obtain ⟨p, ys⟩ := q
    rw [ht] at hpost
    obtain ⟨nb, c', rfl, rfl⟩ := hpost
    repeat (first | refine Zq ?_ | refine Zs ?_ | refine ZT ?_ | refine ZF ?_ | refine Zc ?_ | refine XO_gU (hk := ?_))
    refine X_cond rfl (fun h => by cases h) (fun _ => ?_)
    repeat (first | refine Zq ?_ | refine Zs ?_ | refine ZT ?_ | refine ZF ?_ | refine Zc ?_ | refine XO_gU (hk := ?_))
    refine XO_call (done_spec b fr.length ys.length c c' P t a (some ⟨nb, 0, none⟩) hl) (hk := ?_)
    rintro _ _ ⟨rfl, rfl⟩
    repeat (first | refine Zq ?_ | refine Zs ?_ | refine ZT ?_ | refine ZF ?_ | refine Zc ?_ | refine XO_gU (hk := ?_))
    refine XE_ret (.inl rfl) (tells_tmps rfl rfl) ⟨_, ⟨rfl, rfl⟩, ?_⟩
    (try simp only [List.cons_append, List.nil_append])
    refine ent_fold (by repeat (first | exact FindAll.nil | exact Find.here | apply Find.there | apply FindAll.cons)) Pg.fold ?_
    ((try simp only [List.cons_append, List.nil_append]); repeat (first | exact ent_refl | refine ent_take (by repeat (first | exact Find.here | apply Find.there)) ?_ | refine ent_drop ?_))
def giveP (b : Nat) (P : Int) (fr : List (Int × Int)) (t page n : Int) : Value → List HP → Prop := match giveI fr P page n with
  | none => fun v L => v = .int .i64 1 ∧ L = [Pg b P fr t]
  | some ys => fun v L => v = .int .i64 0 ∧ L = [Pg b P ys (tickI t fr.length)]
theorem pgive_spec (b : Nat) (P t page n : Int) (fr : List (Int × Int)) (hl : fr.length ≤ 1048576) (hB : Bd fr) (p0 : 0 ≤ P) (p1 : P ≤ 1048576) (n0 : -9223372036854775808 ≤ n) (n1 : n ≤ 9223372036854775807) (q0 : -9223372036854775808 ≤ page) (q1 : page ≤ 9223372036854775807) :
    Spec Tryz.prog 78 [.pointer (some ⟨b, 0, none⟩), .int .i64 page, .int .i64 n] [Pg b P fr t] (giveP b P fr t page n) := by
  refine Spec.intro (IsEnt.out) Tryz.func78 rfl Tryz.ntmps78 (by simp) (fun w0 F => ?_)
  simp only [envOf, List.zipIdx, List.map, List.cons_append, List.nil_append, Nat.zero_add, Nat.reduceAdd]
  repeat (first | refine Zq ?_ | refine Zs ?_ | refine ZT ?_ | refine ZF ?_ | refine Zc ?_ | refine XO_gU (hk := ?_))
  refine X_cond rfl (fun h => by cases h) (fun _ => ?_)
  refine X_open .here Pg.open ?_
  rintro ⟨a, c⟩ -
  dsimp only [List.cons_append, List.nil_append]
  refine X_fact (A := Sl eRun a c fr) (by (repeat (first | exact Find.here | apply Find.there))) Sl.cap (fun hc => ?_)
  repeat (first | refine Zq ?_ | refine Zs ?_ | refine ZT ?_ | refine ZF ?_ | refine Zc ?_ | refine XO_gU (hk := ?_))
  repeat (first | refine XD_pick (h := ?_) | refine Dq ?_ | refine Ds ?_ | refine XDi_gF (h := ?_) | refine XDi_gU (h := ?_) | refine X_draws (h := ?_))
  refine XD_one (h := ?_)
  refine XDa_dvA (dv_call (give_spec (Sl eRun a c fr) a c fr P page n Sl.view hc hl hB p0 p1 n0 n1 q0 q1)) (hk := ?_)
  rintro v _ ⟨L', hpost, rfl⟩
  unfold giveP
  cases ht : giveI fr P page n with
  | none =>
    rw [ht] at hpost
    obtain ⟨rfl, rfl⟩ := hpost
    refine ⟨by (repeat (first | exact keeps_nil | exact keeps_fnil | refine keeps_skip (h := ?_) | refine keeps_takeQ (h := ?_))), ?_⟩
    repeat (first | refine XD_pick (h := ?_) | refine Dq ?_ | refine Ds ?_ | refine XDi_gF (h := ?_) | refine XDi_gU (h := ?_) | refine X_draws (h := ?_))
    (refine XD_one (h := ?_); refine XDa_dvA (dv_of_rv (rv_of_pv pv_assign)) (hk := ?_); rintro _ _ ⟨rfl, rfl⟩; refine ⟨by (repeat (first | exact keeps_nil | exact keeps_fnil | refine keeps_skip (h := ?_) | refine keeps_takeQ (h := ?_))), ?_⟩)
    (refine XD_one (h := ?_); refine XDa_dvA (dv_of_rv (rv_of_pv pv_assign)) (hk := ?_); rintro _ _ ⟨rfl, rfl⟩; refine ⟨by (repeat (first | exact keeps_nil | exact keeps_fnil | refine keeps_skip (h := ?_) | refine keeps_takeQ (h := ?_))), ?_⟩)
    (refine XD_end (h := ?_); repeat (first | refine Zq ?_ | refine Zs ?_ | refine ZT ?_ | refine ZF ?_ | refine Zc ?_ | refine XO_gU (hk := ?_)))
    refine X_cond rfl (fun _ => ?_) (fun h => by cases h)
    repeat (first | refine Zq ?_ | refine Zs ?_ | refine ZT ?_ | refine ZF ?_ | refine Zc ?_ | refine XO_gU (hk := ?_))
    refine XE_ret (.inl rfl) (tells_tmps rfl rfl) ⟨_, ⟨rfl, rfl⟩, ?_⟩
    (try simp only [List.cons_append, List.nil_append])
    refine ent_fold (by repeat (first | exact FindAll.nil | exact Find.here | apply Find.there | apply FindAll.cons)) Pg.fold ?_
    ((try simp only [List.cons_append, List.nil_append]); repeat (first | exact ent_refl | refine ent_take (by repeat (first | exact Find.here | apply Find.there)) ?_ | refine ent_drop ?_))
  | some ys =>
    rw [ht] at hpost
    obtain ⟨a', c', rfl, rfl⟩ := hpost
    refine ⟨by (repeat (first | exact keeps_nil | exact keeps_fnil | refine keeps_skip (h := ?_) | refine keeps_takeQ (h := ?_))), ?_⟩
    repeat (first | refine XD_pick (h := ?_) | refine Dq ?_ | refine Ds ?_ | refine XDi_gF (h := ?_) | refine XDi_gU (h := ?_) | refine X_draws (h := ?_))
    (refine XD_one (h := ?_); refine XDa_dvA (dv_of_rv (rv_of_pv pv_assign)) (hk := ?_); rintro _ _ ⟨rfl, rfl⟩; refine ⟨by (repeat (first | exact keeps_nil | exact keeps_fnil | refine keeps_skip (h := ?_) | refine keeps_takeQ (h := ?_))), ?_⟩)
    (refine XD_one (h := ?_); refine XDa_dvA (dv_of_rv (rv_of_pv pv_assign)) (hk := ?_); rintro _ _ ⟨rfl, rfl⟩; refine ⟨by (repeat (first | exact keeps_nil | exact keeps_fnil | refine keeps_skip (h := ?_) | refine keeps_takeQ (h := ?_))), ?_⟩)
    (refine XD_end (h := ?_); repeat (first | refine Zq ?_ | refine Zs ?_ | refine ZT ?_ | refine ZF ?_ | refine Zc ?_ | refine XO_gU (hk := ?_)))
    refine X_cond rfl (fun h => by cases h) (fun _ => ?_)
    repeat (first | refine Zq ?_ | refine Zs ?_ | refine ZT ?_ | refine ZF ?_ | refine Zc ?_ | refine XO_gU (hk := ?_))
    refine XO_call (done_spec b fr.length ys.length c c' P t a a' hl) (hk := ?_)
    rintro _ _ ⟨rfl, rfl⟩
    repeat (first | refine Zq ?_ | refine Zs ?_ | refine ZT ?_ | refine ZF ?_ | refine Zc ?_ | refine XO_gU (hk := ?_))
    refine XE_ret (.inl rfl) (tells_tmps rfl rfl) ⟨_, ⟨rfl, rfl⟩, ?_⟩
    (try simp only [List.cons_append, List.nil_append])
    refine ent_fold (by repeat (first | exact FindAll.nil | exact Find.here | apply Find.there | apply FindAll.cons)) Pg.fold ?_
    ((try simp only [List.cons_append, List.nil_append]); repeat (first | exact ent_refl | refine ent_take (by repeat (first | exact Find.here | apply Find.there)) ?_ | refine ent_drop ?_))
theorem ppages_spec (b : Nat) (P t : Int) (fr : List (Int × Int)) : Spec Tryz.prog 83 [.pointer (some ⟨b, 0, none⟩)] [Pg b P fr t] (fun v L => v = .int .i64 P ∧ L = [Pg b P fr t]) := by
  refine Spec.intro (IsEnt.out) Tryz.func83 rfl Tryz.ntmps83 (by simp) (fun w0 F => ?_)
  simp only [envOf, List.zipIdx, List.map, List.cons_append, List.nil_append, Nat.zero_add, Nat.reduceAdd]
  repeat (first | refine Zq ?_ | refine Zs ?_ | refine ZT ?_ | refine ZF ?_ | refine Zc ?_ | refine XO_gU (hk := ?_))
  refine X_cond rfl (fun h => by cases h) (fun _ => ?_)
  refine X_open .here Pg.open ?_
  rintro ⟨a, c⟩ -
  dsimp only [List.cons_append, List.nil_append]
  repeat (first | refine Zq ?_ | refine Zs ?_ | refine ZT ?_ | refine ZF ?_ | refine Zc ?_ | refine XO_gU (hk := ?_))
  refine XE_ret (.inl rfl) (tells_tmps rfl rfl) ⟨_, ⟨rfl, rfl⟩, ?_⟩
  (try simp only [List.cons_append, List.nil_append])
  refine ent_fold (by repeat (first | exact FindAll.nil | exact Find.here | apply Find.there | apply FindAll.cons)) Pg.fold ?_
  ((try simp only [List.cons_append, List.nil_append]); repeat (first | exact ent_refl | refine ent_take (by repeat (first | exact Find.here | apply Find.there)) ?_ | refine ent_drop ?_))
theorem pruns_spec (b : Nat) (P t : Int) (fr : List (Int × Int)) (hl : fr.length ≤ 1048576) : Spec Tryz.prog 82 [.pointer (some ⟨b, 0, none⟩)] [Pg b P fr t] (fun v L => ∃ a c, v = .slice a fr.length c ∧ L = [Pg b P fr t, Sl eRun a c fr]) := by
  refine Spec.intro (IsEnt.out) Tryz.func82 rfl Tryz.ntmps82 (by simp) (fun w0 F => ?_)
  simp only [envOf, List.zipIdx, List.map, List.cons_append, List.nil_append, Nat.zero_add, Nat.reduceAdd]
  repeat (first | refine Zq ?_ | refine Zs ?_ | refine ZT ?_ | refine ZF ?_ | refine Zc ?_ | refine XO_gU (hk := ?_))
  refine X_cond rfl (fun h => by cases h) (fun _ => ?_)
  refine X_open .here Pg.open ?_
  rintro ⟨a, c⟩ -
  dsimp only [List.cons_append, List.nil_append]
  repeat (first | refine Zq ?_ | refine Zs ?_ | refine ZT ?_ | refine ZF ?_ | refine Zc ?_ | refine XO_gU (hk := ?_))
  refine XO_call (clone_spec (Sl eRun a c fr) a c fr.length fr rfl Sl.view hl) (hk := ?_)
  rintro _ _ ⟨a', c', rfl, rfl⟩
  repeat (first | refine Zq ?_ | refine Zs ?_ | refine ZT ?_ | refine ZF ?_ | refine Zc ?_ | refine XO_gU (hk := ?_))
  refine XE_ret (.inl rfl) (tells_tmps rfl rfl) ⟨_, ⟨a', c', rfl, rfl⟩, ?_⟩
  (try simp only [List.cons_append, List.nil_append])
  refine ent_fold (by repeat (first | exact FindAll.nil | exact Find.here | apply Find.there | apply FindAll.cons)) Pg.fold ?_
  ((try simp only [List.cons_append, List.nil_append]); repeat (first | exact ent_refl | refine ent_take (by repeat (first | exact Find.here | apply Find.there)) ?_ | refine ent_drop ?_))
theorem pfree_spec (b : Nat) (P t : Int) (fr : List (Int × Int)) (hl : fr.length ≤ 1048576) (hB : Bd fr) : Spec Tryz.prog 81 [.pointer (some ⟨b, 0, none⟩)] [Pg b P fr t] (fun v L => v = .int .i64 (totI fr) ∧ L = [Pg b P fr t]) := by
  refine Spec.intro (IsEnt.out) Tryz.func81 rfl Tryz.ntmps81 (by simp) (fun w0 F => ?_)
  simp only [envOf, List.zipIdx, List.map, List.cons_append, List.nil_append, Nat.zero_add, Nat.reduceAdd]
  repeat (first | refine Zq ?_ | refine Zs ?_ | refine ZT ?_ | refine ZF ?_ | refine Zc ?_ | refine XO_gU (hk := ?_))
  refine XO_call (pruns_spec b P t fr hl) (hk := ?_)
  rintro _ _ ⟨a', c', rfl, rfl⟩
  repeat (first | refine Zq ?_ | refine Zs ?_ | refine ZT ?_ | refine ZF ?_ | refine Zc ?_ | refine XO_gU (hk := ?_))
  refine XO_call (total_spec (Sl eRun a' c' fr) a' c' fr Sl.view hl hB) (hk := ?_)
  rintro _ _ ⟨rfl, rfl⟩
  repeat (first | refine Zq ?_ | refine Zs ?_ | refine ZT ?_ | refine ZF ?_ | refine Zc ?_ | refine XO_gU (hk := ?_))
  refine XE_ret (.inl rfl) (tells_tmps rfl rfl) ⟨_, ⟨rfl, rfl⟩, by ((try simp only [List.cons_append, List.nil_append]); repeat (first | exact ent_refl | refine ent_take (by repeat (first | exact Find.here | apply Find.there)) ?_ | refine ent_drop ?_))⟩
end Go.Proofs.YtamecmklcnohjaaGreat.Sep
