import Derived.Test.YteobjankkcdaoaaRuns
namespace Go.Proofs.Yteobjankkcdaoaa.Sep
open Go.RowKit
set_option linter.unusedSimpArgs false
set_option linter.unusedVariables false
set_option maxHeartbeats 8000000
attribute [local irreducible] X XE XO XD XDi XDa PV RV DV pt base Spec Sl Mp Keeps

/-- Whether a run has one of some pages. -/
def hasB (p n : Int) (r : Int × Int) : Bool := decide (0 < n ∧ (p < 0 ∧ r.1 < p + n ∨ 0 ≤ p ∧ r.1 - p < n) ∧ p < r.1 + r.2)
theorem has1_spec (b1 b2 : Nat) (p n : Int) (r : Int × Int) (h1 : 0 ≤ p) (h2 : p ≤ 1048576) (g1 : 0 ≤ r.1) (g2 : 0 ≤ r.2) (g3 : r.1 + r.2 ≤ 1048576) : Spec Try.prog 73 [eRun.val r, .pointer (some ⟨b1, 0, none⟩), .pointer (some ⟨b2, 0, none⟩)] [pt b1 (.cells [.int .i64 p].toArray 3 (0, 0)), pt b2 (.cells [.int .i64 n].toArray 3 (0, 0))]
    (fun v L => v = .bool (hasB p n r) ∧ L = [pt b1 (.cells [.int .i64 p].toArray 3 (0, 0)), pt b2 (.cells [.int .i64 n].toArray 3 (0, 0))]) := by
  refine Spec.intro (IsEnt.out) Try.func73 rfl Try.ntmps73 (by simp) (fun w0 F => ?_)
  simp only [envOf, List.zipIdx, List.map, List.cons_append, List.nil_append, Nat.zero_add, Nat.reduceAdd]
  repeat (first | refine X_seq ?_ | refine X_region ?_)
  refine XO_dv (dv_box (row := eRun.cells r)) (hk := ?_)
  rintro _ _ ⟨b3, rfl, rfl⟩
  repeat (first | refine Zp pv_move ?_ | refine Zp pv_assign ?_ | refine Zp pv_cmp ?_ | refine Zr rv_load ?_ | refine X_seq ?_ | refine X_region ?_ | refine XO_nil ?_ | refine XE_code ?_)
  refine XO_known false (hb := decide_eq_false (by omega)) (hk := ?_)
  repeat (first | refine ZT ?_ | refine ZF ?_ | refine Zp pv_move ?_ | refine Zp pv_cmp ?_ | refine Zr rv_load ?_ | refine Zp pv_pickF ?_)
  refine XO_known true (hb := decide_eq_true (by omega)) (hk := ?_)
  repeat (first | refine ZT ?_ | refine Zp pv_assign ?_ | refine Zp pv_cmp ?_ | refine Zp pv_arith ?_ | refine Zp pv_field ?_ | refine Zr rv_load ?_ | refine Zp pv_pickT ?_ | refine Zp pv_pickF ?_ | refine X_seq ?_ | refine XO_nil ?_ | refine XE_code ?_)
  have hd1 : (0 ≤ p) := h1
  repeat (first | refine Dp pv_move ?_ | refine Dp pv_cmp ?_ | refine Dr rv_load ?_ | refine XD_pick (h := ?_) | refine X_draws (h := ?_))
  refine XDi_either (hT := fun h => ?_) (hF := fun h => ?_) <;> simp only [decide_eq_true_eq, decide_eq_false_iff_not] at h
  · repeat (first | refine Dp pv_move ?_ | refine Dp pv_pickT ?_ | refine XD_pick (h := ?_))
    refine XDi_either (hT := fun h4 => ?_) (hF := fun h4 => ?_) <;> simp only [decide_eq_true_eq, decide_eq_false_iff_not] at h4
    · repeat (first | refine Dr rv_load ?_ | refine Dr rv_loadW ?_ | refine XD_pick (h := ?_))
      refine XD_one (h := ?_)
      refine XDa_dvA (dv_call (end_spec r.1 r.2 g1 g2 (by omega))) (hk := ?_)
      (rintro _ _ ⟨_, ⟨rfl, rfl⟩, rfl⟩; refine ⟨by (repeat (first | exact keeps_nil | exact keeps_fnil | refine keeps_skip (h := ?_) | refine keeps_takeA (hv := by first | exact rv_load | exact rv_loadW | exact rv_loadS) (h := ?_))), ?_⟩)
      repeat (first | refine Dp pv_cmp ?_ | refine Dp pv_pickT ?_ | refine XD_pick (h := ?_))
      (refine XD_one (h := ?_); refine XDa_dvA (dv_of_rv (rv_of_pv pv_assign)) (hk := ?_); rintro _ _ ⟨rfl, rfl⟩; refine ⟨by (repeat (first | exact keeps_nil | exact keeps_fnil | refine keeps_skip (h := ?_) | refine keeps_takeA (hv := by first | exact rv_load | exact rv_loadW | exact rv_loadS) (h := ?_))), ?_⟩)
      (refine XD_end (h := ?_); repeat (first | refine X_ret ?_ | refine XE_code ?_))
      refine XE_ret (.inl rfl) (tells_tmps rfl rfl) ⟨_, ⟨?_, rfl⟩, by ((try simp only [List.cons_append, List.nil_append]); repeat (first | exact ent_refl | refine ent_take (by repeat (first | exact Find.here | apply Find.there)) ?_ | refine ent_drop ?_))⟩
      show Value.bool _ = _
      congr 1
      unfold hasB
      rw [decide_eq_decide]
      exact ⟨fun h' => ⟨h, .inr ⟨h1, h4⟩, h'⟩, fun h' => h'.2.2⟩
    · repeat (first | refine XDi_gF (h := ?_) | refine XD_pick (h := ?_))
      (refine XD_head (h := ?_); first | refine XDi_gF (h := ?_) | refine XDi_gU (h := ?_))
      repeat (first | refine Dp pv_pickF ?_ | refine XDi_gF (h := ?_) | refine XD_pick (h := ?_))
      (refine XD_one (h := ?_); refine XDa_dvA (dv_of_rv (rv_of_pv pv_assign)) (hk := ?_); rintro _ _ ⟨rfl, rfl⟩; refine ⟨by (repeat (first | exact keeps_nil | exact keeps_fnil | refine keeps_skip (h := ?_) | refine keeps_takeA (hv := by first | exact rv_load | exact rv_loadW | exact rv_loadS) (h := ?_))), ?_⟩)
      (refine XD_end (h := ?_); repeat (first | refine X_ret ?_ | refine XE_code ?_))
      refine XE_ret (.inl rfl) (tells_tmps rfl rfl) ⟨_, ⟨?_, rfl⟩, by ((try simp only [List.cons_append, List.nil_append]); repeat (first | exact ent_refl | refine ent_take (by repeat (first | exact Find.here | apply Find.there)) ?_ | refine ent_drop ?_))⟩
      show Value.bool _ = _
      congr 1
      unfold hasB
      rw [eq_comm, decide_eq_false_iff_not]
      rintro ⟨_, h', _⟩
      omega
  · repeat (first | refine Dp pv_move ?_ | refine Dp pv_pickF ?_ | refine XDi_gF (h := ?_) | refine XD_pick (h := ?_))
    (refine XD_head (h := ?_); first | refine XDi_gF (h := ?_) | refine XDi_gU (h := ?_))
    repeat (first | refine Dp pv_pickF ?_ | refine XDi_gF (h := ?_) | refine XD_pick (h := ?_))
    (refine XD_one (h := ?_); refine XDa_dvA (dv_of_rv (rv_of_pv pv_assign)) (hk := ?_); rintro _ _ ⟨rfl, rfl⟩; refine ⟨by (repeat (first | exact keeps_nil | exact keeps_fnil | refine keeps_skip (h := ?_) | refine keeps_takeA (hv := by first | exact rv_load | exact rv_loadW | exact rv_loadS) (h := ?_))), ?_⟩)
    (refine XD_end (h := ?_); repeat (first | refine X_ret ?_ | refine XE_code ?_))
    refine XE_ret (.inl rfl) (tells_tmps rfl rfl) ⟨_, ⟨?_, rfl⟩, by ((try simp only [List.cons_append, List.nil_append]); repeat (first | exact ent_refl | refine ent_take (by repeat (first | exact Find.here | apply Find.there)) ?_ | refine ent_drop ?_))⟩
    show Value.bool _ = _
    congr 1
    unfold hasB
    rw [eq_comm, decide_eq_false_iff_not]
    exact fun h' => h h'.1
theorem index_spec (A B1 B2 : HP) (a : Option Addr) (c : Nat) (xs : List (Int × Int)) (fn : FuncId) (c1 c2 : Value) (q : Int × Int → Bool) (hV : View A eRun a xs) (hl : xs.length ≤ 4611686018427387904)
    (hq : ∀ r ∈ xs, Spec Try.prog fn [eRun.val r, c1, c2] [B1, B2] (fun v L => v = .bool (q r) ∧ L = [B1, B2])) :
    Spec Try.prog 74 [.slice a xs.length c, .func (.func fn) #[] #[c1, c2]] [A, B1, B2] (fun v L => v = .int .i64 (optI (xs.findIdx? q)) ∧ L = [A, B1, B2]) := by
  refine Spec.intro (IsEnt.out) Try.func74 rfl Try.ntmps74 (by simp) (fun w0 F => ?_)
  simp only [envOf, List.zipIdx, List.map, List.cons_append, List.nil_append, Nat.zero_add, Nat.reduceAdd]
  repeat (first | refine Zp pv_move ?_ | refine Zp pv_assign ?_ | refine Zp pv_len_slice ?_ | refine X_seq ?_ | refine X_region ?_ | refine X_block ?_ | refine XO_nil ?_ | refine XE_code ?_)
  refine X_loop (ι := Nat) (fun k => k ≤ xs.length ∧ ∀ j (hj : j < xs.length), j < k → q xs[j] = false) (fun k => [(0, .slice a xs.length c), (1, .func (.func fn) #[] #[c1, c2]), (6, .slice a xs.length c), (7, .int .i64 (xs.length : Int)), (8, .int .i64 k)]) (fun _ => A :: B1 :: B2 :: F) (fun k => xs.length - k) 0 ⟨Nat.zero_le _, fun _ _ h => by omega⟩ ?_ (by ((try simp only [List.cons_append, List.nil_append]); repeat (first | exact ent_refl | refine ent_take (by repeat (first | exact Find.here | apply Find.there)) ?_ | refine ent_drop ?_))) ?_
  · (repeat (first | exact Env.sub_nil _ | refine Env.sub_cons rfl ?_))
  rintro k ⟨hk, hall⟩
  dsimp only at hk hall ⊢
  repeat (first | refine Zp pv_cmp ?_ | refine X_seq ?_ | refine X_region ?_ | refine XO_nil ?_ | refine XE_code ?_)
  refine X_cond rfl (fun hc => ?_) (fun hc => ?_) <;> simp only [decide_eq_true_eq, decide_eq_false_iff_not] at hc
  · have hkl : k < xs.length := by omega
    refine X_view .here hV (by omega) ?_
    rintro b o rfl
    repeat (first | refine Zp pv_move ?_ | refine Zp pv_assign ?_ | refine Zp pv_index ?_ | refine X_seq ?_ | refine X_region ?_ | refine X_block ?_ | refine X_skip ?_ | refine XO_nil ?_ | refine XE_code ?_)
    refine XO_rv (rv_vel (i := k) (hV := hV)) (hk := ?_)
    repeat (fail)
    refine XO_call (hq xs[k] (List.getElem_mem hkl)) (hk := ?_)
    rintro _ _ ⟨rfl, rfl⟩
    repeat (first | refine XO_nil ?_ | refine XE_code ?_)
    refine X_cond rfl (fun h3 => ?_) (fun h3 => ?_)
    · have he : xs.findIdx? q = some k := by
        rw [List.findIdx?_eq_some_iff_getElem]
        exact ⟨hkl, by simpa using h3, fun j hj => by simp [hall j (by omega) hj]⟩
      repeat (first | refine Zp pv_move ?_ | refine Zp pv_assign ?_ | refine X_seq ?_ | refine X_region ?_ | refine X_ret ?_ | refine XO_nil ?_ | refine XE_code ?_ | refine XE_code_ret ?_ | refine XE_block_ret ?_ | refine XE_pred_ret ?_)
      refine XE_ret (.inl rfl) (tells_tmps rfl rfl) ⟨_, ⟨?_, rfl⟩, by ((try simp only [List.cons_append, List.nil_append]); repeat (first | exact ent_refl | refine ent_take (by repeat (first | exact Find.here | apply Find.there)) ?_ | refine ent_drop ?_))⟩
      rw [he]; rfl
    · repeat (first | refine Zp pv_move ?_ | refine Zp pv_arith ?_ | refine X_region ?_ | refine X_skip ?_ | refine XO_nil ?_ | refine XE_code ?_ | refine XE_block ?_)
      refine X_round (k + 1) ⟨by omega, fun j hj hlt => ?_⟩ (by show xs.length - (k + 1) < xs.length - k; omega) (by (repeat (first | exact Env.sub_nil _ | refine Env.sub_cons rfl ?_))) (by ((try simp only [List.cons_append, List.nil_append]); repeat (first | exact ent_refl | refine ent_take (by repeat (first | exact Find.here | apply Find.there)) ?_ | refine ent_drop ?_)))
      rcases Nat.lt_or_ge j k with h | h
      · exact hall j hj h
      · obtain rfl : j = k := by omega
        exact h3
  · obtain rfl : k = xs.length := by omega
    have he : xs.findIdx? q = none := by
      rw [List.findIdx?_eq_none_iff]
      intro x hx
      obtain ⟨j, hj, rfl⟩ := List.getElem_of_mem hx
      exact hall j hj hj
    repeat (first | refine Zp pv_assign ?_ | refine X_seq ?_ | refine X_region ?_ | refine X_exit ?_ | refine X_ret ?_ | refine XO_nil ?_ | refine XE_code ?_ | refine XE_code_exit ?_ | refine XE_block_exit ?_ | refine XE_pred_exit ?_)
    refine XE_ret (.inl rfl) (tells_tmps rfl rfl) ⟨_, ⟨?_, rfl⟩, by ((try simp only [List.cons_append, List.nil_append]); repeat (first | exact ent_refl | refine ent_take (by repeat (first | exact Find.here | apply Find.there)) ?_ | refine ent_drop ?_))⟩
    rw [he]; rfl
theorem contains_spec (A B1 B2 : HP) (a : Option Addr) (c : Nat) (xs : List (Int × Int)) (fn : FuncId) (c1 c2 : Value) (q : Int × Int → Bool) (hV : View A eRun a xs) (hl : xs.length ≤ 4611686018427387904)
    (hq : ∀ r ∈ xs, Spec Try.prog fn [eRun.val r, c1, c2] [B1, B2] (fun v L => v = .bool (q r) ∧ L = [B1, B2])) :
    Spec Try.prog 72 [.slice a xs.length c, .func (.func fn) #[] #[c1, c2]] [A, B1, B2] (fun v L => v = .bool (xs.any q) ∧ L = [A, B1, B2]) := by
  refine Spec.intro (IsEnt.out) Try.func72 rfl Try.ntmps72 (by simp) (fun w0 F => ?_)
  simp only [envOf, List.zipIdx, List.map, List.cons_append, List.nil_append, Nat.zero_add, Nat.reduceAdd]
  repeat (first | refine Zp pv_move ?_ | refine Zp pv_assign ?_ | refine X_seq ?_ | refine X_region ?_ | refine XO_nil ?_ | refine XE_code ?_)
  refine XO_call (index_spec A B1 B2 a c xs fn c1 c2 q hV hl hq) (hk := ?_)
  rintro _ _ ⟨rfl, rfl⟩
  repeat (first | refine Zp pv_assign ?_ | refine Zp pv_cmp ?_ | refine X_ret ?_ | refine XO_nil ?_ | refine XE_code ?_)
  refine XE_ret (.inl rfl) (tells_tmps rfl rfl) ⟨_, ⟨?_, rfl⟩, by ((try simp only [List.cons_append, List.nil_append]); repeat (first | exact ent_refl | refine ent_take (by repeat (first | exact Find.here | apply Find.there)) ?_ | refine ent_drop ?_))⟩
  show Value.bool _ = _
  congr 1
  cases hi : xs.findIdx? q with
  | none =>
    rw [List.findIdx?_eq_none_iff] at hi
    have : xs.any q = false := by rw [List.any_eq_false]; intro x hx; simp [hi x hx]
    rw [this]; rfl
  | some k =>
    rw [List.findIdx?_eq_some_iff_getElem] at hi
    obtain ⟨hk, h, _⟩ := hi
    have : xs.any q = true := by rw [List.any_eq_true]; exact ⟨_, List.getElem_mem hk, h⟩
    rw [this]
    exact decide_eq_true (by show (0 : Int) ≤ (k : Int); omega)
theorem has_spec (A : HP) (a : Option Addr) (c : Nat) (xs : List (Int × Int)) (p n : Int) (hV : View A eRun a xs) (hl : xs.length ≤ 4611686018427387904) (h1 : 0 ≤ p) (h2 : p ≤ 1048576) (hB : Bd xs) :
    Spec Try.prog 62 [.slice a xs.length c, .int .i64 p, .int .i64 n] [A] (fun v L => v = .bool (xs.any (hasB p n)) ∧ L = [A]) := by
  refine Spec.intro (IsEnt.out) Try.func62 rfl Try.ntmps62 (by simp) (fun w0 F => ?_)
  simp only [envOf, List.zipIdx, List.map, List.cons_append, List.nil_append, Nat.zero_add, Nat.reduceAdd]
  repeat (first | refine X_seq ?_ | refine X_region ?_)
  refine XO_dv dv_box1 (hk := ?_)
  rintro _ _ ⟨b1, rfl, rfl⟩
  repeat (fail)
  refine XO_dv dv_box1 (hk := ?_)
  rintro _ _ ⟨b2, rfl, rfl⟩
  repeat (first | refine Zp pv_move ?_ | refine Zp pv_assign ?_ | refine Zp pv_makeFunc ?_ | refine X_seq ?_ | refine X_region ?_ | refine XO_nil ?_ | refine XE_code ?_)
  refine XO_call (contains_spec A _ _ a c xs _ _ _ (hasB p n) hV hl (fun r hr => has1_spec b1 b2 p n r h1 h2 (hB r hr).1 (hB r hr).2.1 (hB r hr).2.2)) (hk := ?_)
  rintro _ _ ⟨rfl, rfl⟩
  repeat (first | refine Zp pv_assign ?_ | refine X_ret ?_ | refine XO_nil ?_ | refine XE_code ?_)
  refine XE_ret (.inl rfl) (tells_tmps rfl rfl) ⟨_, ⟨rfl, rfl⟩, by ((try simp only [List.cons_append, List.nil_append]); repeat (first | exact ent_refl | refine ent_take (by repeat (first | exact Find.here | apply Find.there)) ?_ | refine ent_drop ?_))⟩
end Go.Proofs.Yteobjankkcdaoaa.Sep
