import Derived.Test.YtamecmklcnohjaaGreatBn6
import Derived.Test.YtamecmklcnohjaaGreatBn5
import Derived.Test.YtamecmklcnohjaaGreatBn4
import Derived.Laws.Slices
/- What the laws share: a separation logic over the model, and what the program's functions do, by it. Part 7 of 15: CacheB CoDef Chunk Part Keep ChunkB ChunkC ChunkD HeadD SepV HeadE. -/
namespace Go.Proofs.YtamecmklcnohjaaGreat.Sep
open Go.RowKit
set_option linter.unusedSimpArgs false
set_option linter.unusedVariables false
set_option maxHeartbeats 8000000
attribute [local irreducible] X XE XO XD XDi XDa PV RV DV pt base Spec Sl Mp Keeps Kc

theorem Kc.bound {b : Nat} {ks : Nat → List Int} : ∀ H, Kc b ks H → ∀ k, k < 7 → (ks k).length ≤ 4 := by
  intro H h
  unfold Kc at h
  obtain ⟨fl, h, _⟩ := h
  exact fun k hk => (h.2 k hk).1
theorem cpages_le (k : Nat) (h : k < 7) : 1 ≤ cpages k ∧ cpages k ≤ 64 := by
  have : k = 0 ∨ k = 1 ∨ k = 2 ∨ k = 3 ∨ k = 4 ∨ k = 5 ∨ k = 6 := by omega
  rcases this with rfl | rfl | rfl | rfl | rfl | rfl | rfl <;> decide
theorem kmul_le {n : Nat} {k : Nat} (h : k < 7) (hn : n ≤ 4) : 0 ≤ (n : Int) * cpages k ∧ (n : Int) * cpages k ≤ 256 := by
  obtain ⟨h1, h2⟩ := cpages_le k h
  refine ⟨Int.mul_nonneg (by omega) (by omega), ?_⟩
  have := Int.mul_le_mul (show (n : Int) ≤ 4 by omega) h2 (by omega) (by decide)
  omega
theorem kpages_le {ks : Nat → List Int} (hb : ∀ k, k < 7 → (ks k).length ≤ 4) : ∀ k, k ≤ 7 → 0 ≤ kpages ks k ∧ kpages ks k ≤ 256 * k
  | 0, _ => by simp [kpages]
  | k + 1, h => by
    have h1 := kpages_le hb k (by omega)
    have h2 := kmul_le (n := (ks k).length) (show k < 7 by omega) (hb k (by omega))
    simp only [kpages]
    push_cast
    omega
theorem kall_le {ks : Nat → List Int} (hb : ∀ k, k < 7 → (ks k).length ≤ 4) : ∀ k, k ≤ 7 → (kall ks k).length ≤ 4 * k
  | 0, _ => by simp [kall]
  | k + 1, h => by
    have h1 := kall_le hb k (by omega)
    have h2 := hb k (by omega)
    simp only [kall, List.length_append, List.length_map]
    omega
theorem cpagesum_spec (b : Nat) (ks : Nat → List Int) : Spec Tryz.prog 80 [.pointer (some ⟨b, 0, none⟩)] [Kc b ks] (fun v L => v = .int .i64 (kpages ks 7) ∧ L = [Kc b ks]) := by
  refine Spec.intro (IsEnt.out) Tryz.func80 rfl Tryz.ntmps80 (by simp) (fun w0 F => ?_)
  simp only [envOf, List.zipIdx, List.map, List.cons_append, List.nil_append, Nat.zero_add, Nat.reduceAdd]
  refine X_fact (A := Kc b ks) .here Kc.bound (fun hb => ?_)
  (repeat refine Z ?_)
  refine X_loop (ι := Nat) (fun k => k ≤ 7) (fun k => [(0, .pointer (some ⟨b, 0, none⟩)), (5, .int .i64 k), (3, .int .i64 (kpages ks k))]) (fun _ => Kc b ks :: F) (fun k => 7 - k) 0 (Nat.zero_le _) ?_ (by exact EN) ?_
  · exact SBs
  intro k hk
  dsimp only at hk ⊢
  (repeat refine Z ?_)
  refine X_cond rfl (fun hc => ?_) (fun hc => ?_) <;> simp only [decide_eq_true_eq, decide_eq_false_iff_not] at hc
  · have hk7 : k < 7 := by omega
    have h1 := kpages_le hb k hk
    have h2 := kmul_le (n := (ks k).length) hk7 (hb k hk7)
    (repeat refine Z ?_)
    refine XO_call (clen_spec b ks k (by omega) (by omega)) (hk := ?_)
    rintro _ _ ⟨rfl, rfl⟩
    (repeat refine Z ?_)
    refine XO_call (cpages_spec k) (hk := ?_)
    rintro _ _ ⟨rfl, rfl⟩
    simp only [Int.toNat_natCast]
    (repeat refine Z ?_)
    refine X_round (k + 1) (by show k + 1 ≤ 7; omega) (by show 7 - (k + 1) < 7 - k; omega) (by exact SBs) (by exact EN)
  · obtain rfl : k = 7 := by omega
    (repeat refine Z ?_)
    refine XE_ret (.inl rfl) (tells_tmps rfl rfl) ⟨_, ⟨rfl, rfl⟩, by exact EN⟩
theorem cclear_spec (b : Nat) (ks : Nat → List Int) : Spec Tryz.prog 79 [.pointer (some ⟨b, 0, none⟩)] [Kc b ks] (fun v L => v = .tuple #[] ∧ L = [Kc b (fun _ => [])]) := by
  refine Spec.intro (IsEnt.out) Tryz.func79 rfl Tryz.ntmps79 (by simp) (fun w0 F => ?_)
  simp only [envOf, List.zipIdx, List.map, List.cons_append, List.nil_append, Nat.zero_add, Nat.reduceAdd]
  (repeat refine Z ?_)
  refine X_cond rfl (fun _ => ?_) (fun h => by cases h)
  refine X_open .here Kc.open ?_
  rintro fl ⟨hl, hk⟩
  dsimp only [List.cons_append, List.nil_append]
  (repeat refine Z ?_)
  refine XO_dv0 (dv_putAll (E' := eI .i64) (ys := List.replicate 35 0) (hl := by simp [hl])) (hk := ?_)
  rintro _ _ rfl
  (repeat refine Z ?_)
  refine XE_ret (.inr rfl) (tells_tmps rfl rfl) ⟨_, ⟨rfl, rfl⟩, ?_⟩
  refine ent_fold (by exact FAs) (Kc.fold KcRel.none) ?_
  exact EN
theorem kc_list {fl : List Int} {ks : Nat → List Int} {k : Nat} (h : KcRel fl ks) (hk : k < 7) : ((fl.drop (k * 5)).take 4).take (ks k).length = ks k := by
  obtain ⟨hl, h⟩ := h
  obtain ⟨h1, h2, h3⟩ := h k hk
  apply List.ext_getElem?
  intro j
  rw [List.take_take, Nat.min_eq_left h1]
  by_cases hj : j < (ks k).length
  · rw [List.getElem?_take_of_lt hj, List.getElem?_drop]
    have := h3 j hj
    have hlt : k * 5 + j < fl.length := by omega
    simp only [List.getD, List.getElem?_eq_getElem hj, List.getElem?_eq_getElem hlt, Option.getD_some] at this
    rw [List.getElem?_eq_getElem hj, List.getElem?_eq_getElem hlt, this]
  · rw [List.getElem?_eq_none (by simp; omega), List.getElem?_eq_none (by omega)]
theorem call_spec (b : Nat) (ks : Nat → List Int) : Spec Tryz.prog 77 [.pointer (some ⟨b, 0, none⟩)] [Kc b ks] (fun v L => ∃ a c, v = .slice a (kall ks 7).length c ∧ L = [Kc b ks, Sl eRun a c (kall ks 7)]) := by
  refine Spec.intro (IsEnt.out) Tryz.func77 rfl Tryz.ntmps77 (by simp) (fun w0 F => ?_)
  simp only [envOf, List.zipIdx, List.map, List.cons_append, List.nil_append, Nat.zero_add, Nat.reduceAdd]
  refine X_fact (A := Kc b ks) .here Kc.bound (fun hb => ?_)
  refine X_conv (fun _ => SL_nilSl eRun) ?_
  (repeat refine Z ?_)
  refine X_loop (ι := Nat × Option Addr × Nat) (fun q => q.1 ≤ 7) (fun q => [(0, .pointer (some ⟨b, 0, none⟩)), (8, .int .i64 (q.1 : Int)), (3, .slice q.2.1 (kall ks q.1).length q.2.2)]) (fun q => Kc b ks :: Sl eRun q.2.1 q.2.2 (kall ks q.1) :: F) (fun q => 7 - q.1) (0, none, 0) (Nat.zero_le _) ?_ (by exact EN) ?_
  · exact SBs
  rintro ⟨k, a, c⟩ hk
  dsimp only at hk ⊢
  (repeat refine Z ?_)
  refine X_cond rfl (fun hc => ?_) (fun hc => ?_) <;> simp only [decide_eq_true_eq, decide_eq_false_iff_not] at hc
  · have hk7 : k < 7 := by omega
    have hbk := hb k hk7
    have hkl := kall_le hb k hk
    (repeat refine Z ?_)
    refine XO_call (clen_spec b ks k (by omega) (by omega)) (hk := ?_)
    rintro _ _ ⟨rfl, rfl⟩
    simp only [Int.toNat_natCast]
    (repeat refine Z ?_)
    refine XO_dv (dv_makeSlice (E' := eI .i64) 0) (hk := ?_)
    rintro _ _ ⟨nb, rfl, rfl⟩
    simp only [Int.toNat_natCast]
    (repeat refine Z ?_)
    refine X_join (ι := Unit) (fun _ => True) (fun _ => [(0, .pointer (some ⟨b, 0, none⟩)), (8, .int .i64 (k : Int)), (4, .int .i64 (k : Int)), (3, .slice a (kall ks k).length c), (5, .slice (some ⟨nb, 0, none⟩) (ks k).length (ks k).length)]) (fun _ => Kc b ks :: Sl eRun a c (kall ks k) :: Sl (eI .i64) (some ⟨nb, 0, none⟩) (ks k).length (ks k) :: F) ?_ ?_
    · refine X_cond rfl (fun h => ?_) (fun h => ?_) <;> simp only [decide_eq_true_eq, decide_eq_false_iff_not] at h
      · refine X_open (by exact FDs) Kc.open ?_
        rintro fl hrel
        dsimp only [List.cons_append, List.nil_append]
        have hli := kc_list hrel hk7
        have hV : View (Sl (eI .i64) (some ⟨b, 0, none⟩) 35 fl) (eI .i64) (some ⟨b, k * 5, none⟩) (ks k) := by
          rw [← hli]; exact View.take _ (View.take _ (view_at (k * 5) Sl.view))
        obtain ⟨zs, hz, hzl⟩ : ∃ zs, zs = List.replicate (ks k).length (0 : Int) ∧ zs.length = (ks k).length := ⟨_, rfl, by simp⟩
        rw [← hz]
        (repeat refine Z ?_)
        refine XO_dv (dv_copy (E' := eI .i64) (ys := ks k) (xs := zs) (m := 4) (a2 := some ⟨b, k * 5, none⟩) (A := Sl (eI .i64) (some ⟨b, 0, none⟩) 35 fl) (hx := by rw [hzl]; rfl) (hv := hV) (hn := by rw [hzl]; omega)) (hk := ?_)
        rintro _ _ ⟨rfl, rfl⟩
        rw [show ks k ++ zs.drop (ks k).length = ks k from by rw [List.drop_of_length_le (by omega), List.append_nil]]
        (repeat refine Z ?_)
        refine X_meet () trivial (by exact SBs) ?_
        (try simp only [List.cons_append, List.nil_append])
        refine ent_fold (by exact FAs) (Kc.fold hrel) ?_
        exact EN
      · have h0 : ks k = [] := List.length_eq_zero_iff.1 (by omega)
        (repeat refine Z ?_)
        refine X_meet () trivial (by exact SBs) ?_
        rw [h0]
        exact EN
    · rintro - -
      (repeat refine Z ?_)
      refine X_loop (ι := Nat × Option Addr × Nat) (fun q => q.1 ≤ (ks k).length) (fun q => [(0, .pointer (some ⟨b, 0, none⟩)), (8, .int .i64 (k : Int)), (4, .int .i64 (k : Int)), (27, .slice (some ⟨nb, 0, none⟩) (ks k).length (ks k).length), (28, .int .i64 ((ks k).length : Int)), (29, .int .i64 (q.1 : Int)), (3, .slice q.2.1 (kall ks k ++ ((ks k).take q.1).map fun p => (p, cpages k)).length q.2.2)])
        (fun q => Kc b ks :: Sl eRun q.2.1 q.2.2 (kall ks k ++ ((ks k).take q.1).map fun p => (p, cpages k)) :: Sl (eI .i64) (some ⟨nb, 0, none⟩) (ks k).length (ks k) :: F) (fun q => (ks k).length - q.1) (0, a, c) (Nat.zero_le _) ?_ ?_ ?_
      · simp only [List.take_zero, List.map_nil, List.append_nil]; exact SBs
      · simp only [List.take_zero, List.map_nil, List.append_nil]; exact EN
      rintro ⟨j, a2, c2⟩ hj
      dsimp only at hj ⊢
      (repeat refine Z ?_)
      refine X_cond rfl (fun hc2 => ?_) (fun hc2 => ?_) <;> simp only [decide_eq_true_eq, decide_eq_false_iff_not] at hc2
      · have hjl : j < (ks k).length := by omega
        (repeat refine Z ?_)
        refine XO_rv (rv_elG (E' := eI .i64) (i := j) (s := 1) (x' := (ks k)[j]) (hget := by simp [hjl])) (hk := ?_)
        (repeat refine Z ?_)
        refine XO_call (cpages_spec k) (hk := ?_)
        rintro _ _ ⟨rfl, rfl⟩
        (repeat refine Z ?_)
        refine XO_dv (dv_lit (E' := eRun) [((ks k)[j], cpages k)]) (hk := ?_)
        rintro _ _ ⟨lb, rfl, rfl⟩
        (repeat refine Z ?_)
        refine XO_dv (dv_append (E' := eRun) (xs := kall ks k ++ ((ks k).take j).map fun p => (p, cpages k)) (ys := [((ks k)[j], cpages k)]) (A := Sl eRun (some ⟨lb, 0, none⟩) 1 [((ks k)[j], cpages k)]) (a := a2) (a2 := some ⟨lb, 0, none⟩) (c := c2) (c2 := 1) (hv := Sl.view) (hb := by simp; omega)) (hk := ?_)
        rintro _ _ ⟨a3, c3, rfl, rfl⟩
        have hs : (kall ks k ++ ((ks k).take j).map fun p => (p, cpages k)) ++ [((ks k)[j], cpages k)] = kall ks k ++ ((ks k).take (j + 1)).map fun p => (p, cpages k) := by
          rw [List.take_succ_eq_append_getElem hjl, List.map_append, List.append_assoc]; rfl
        rw [hs]
        (repeat refine Z ?_)
        refine X_round (j + 1, a3, c3) (by show j + 1 ≤ _; omega) (by show (ks k).length - (j + 1) < (ks k).length - j; omega) (by exact SBs) (by exact EN)
      · obtain rfl : j = (ks k).length := by omega
        rw [List.take_length]
        (repeat refine Z ?_)
        refine X_round (k + 1, a2, c2) (by show k + 1 ≤ 7; omega) (by show 7 - (k + 1) < 7 - k; omega) (by exact SBs) (by exact EN)
  · obtain rfl : k = 7 := by omega
    (repeat refine Z ?_)
    refine XE_ret (.inl rfl) (tells_tmps rfl rfl) ⟨_, ⟨a, c, rfl, rfl⟩, by exact EN⟩
end Go.Proofs.YtamecmklcnohjaaGreat.Sep
namespace Go.Proofs.YtamecmklcnohjaaGreat.Sep
open Go.RowKit
set_option linter.unusedSimpArgs false
set_option linter.unusedVariables false
structure Co where
  P : Int
  fr : List (Int × Int)
  ks : Nat → List Int
  t : Int
structure CoOk (C : Co) : Prop where
  p1 : 1 ≤ C.P
  p2 : C.P ≤ 1048576
  right : RightFrom C.P 0 C.fr
  kept : ∀ k, k < 7 → (C.ks k).length ≤ 4 ∧ ∀ p ∈ C.ks k, 0 ≤ p ∧ p ≤ 1048576
def giveC (C : Co) (r : Int × Int) : Co := ⟨C.P, (giveI C.fr C.P r.1 r.2).getD C.fr, C.ks, if (giveI C.fr C.P r.1 r.2).isSome = true then tickI C.t C.fr.length else C.t⟩
def putC (C : Co) (r : Int × Int) : Co :=
  if cpages (cclass r.2) = r.2 ∧ 0 ≤ cclass r.2 ∧ cclass r.2 < 7 ∧ 0 ≤ r.1 ∧ (C.ks (cclass r.2).toNat).length < 4 then ⟨C.P, C.fr, upd C.ks (cclass r.2).toNat (C.ks (cclass r.2).toNat ++ [r.1]), C.t⟩ else giveC C r
def takeC (C : Co) (n : Int) : Co × Int × Int := if n < 1 then (C, 0, 1) else match takeI C.fr n with
  | none => (C, 0, 4)
  | some q => (⟨C.P, q.2, C.ks, tickI C.t C.fr.length⟩, q.1, 0)
def trimC (C : Co) : Co := ⟨C.P, ((kall C.ks 7).foldl giveC C).fr, fun _ => [], ((kall C.ks 7).foldl giveC C).t⟩
def trimN (C : Co) : Int := totI (kall C.ks 7)
def getC (C : Co) (n : Int) : Co × Int × Int :=
  if 0 ≤ cclass n ∧ cclass n < 7 ∧ 0 < (C.ks (cclass n).toNat).length then (⟨C.P, C.fr, upd C.ks (cclass n).toNat (C.ks (cclass n).toNat).dropLast, C.t⟩, (C.ks (cclass n).toNat).getD ((C.ks (cclass n).toNat).length - 1) 0, 0)
  else if (takeC C n).2.2 = 4 then (if 0 < trimN C then takeC (trimC C) n else (trimC C, (takeC C n).2)) else takeC C n
theorem giveC_ok {C : Co} (h : CoOk C) (r : Int × Int) : CoOk (giveC C r) := by
  refine ⟨h.p1, h.p2, ?_, h.kept⟩
  show RightFrom C.P 0 ((giveI C.fr C.P r.1 r.2).getD C.fr)
  cases hg : giveI C.fr C.P r.1 r.2 with
  | none => exact h.right
  | some ys => exact (giveI_right h.right hg).1
theorem fold_ok : ∀ (l : List (Int × Int)) {C : Co}, CoOk C → CoOk (l.foldl giveC C)
  | [], _, h => h
  | r :: l, _, h => fold_ok l (giveC_ok h r)
theorem fold_P : ∀ (l : List (Int × Int)) (C : Co), (l.foldl giveC C).P = C.P ∧ (l.foldl giveC C).ks = C.ks
  | [], _ => ⟨rfl, rfl⟩
  | r :: l, C => fold_P l (giveC C r)
theorem trimC_ok {C : Co} (h : CoOk C) : CoOk (trimC C) := by
  have := fold_ok (kall C.ks 7) h
  have h1 := this.right
  rw [(fold_P _ C).1] at h1
  exact ⟨h.p1, h.p2, h1, fun k hk => ⟨Nat.zero_le _, fun p hp => by cases hp⟩⟩
theorem takeC_ok {C : Co} (h : CoOk C) (n : Int) : CoOk (takeC C n).1 := by
  unfold takeC
  split
  · exact h
  · cases ht : takeI C.fr n with
    | none => exact h
    | some q =>
      obtain ⟨p, ys⟩ := q
      exact ⟨h.p1, h.p2, (takeI_right h.right ht).1, h.kept⟩
theorem upd_ok {C : Co} (h : CoOk C) {c : Nat} {l : List Int} (hl : l.length ≤ 4) (hm : ∀ p ∈ l, 0 ≤ p ∧ p ≤ 1048576) : CoOk ⟨C.P, C.fr, upd C.ks c l, C.t⟩ := by
  refine ⟨h.p1, h.p2, h.right, fun k hk => ?_⟩
  show (upd C.ks c l k).length ≤ 4 ∧ ∀ p ∈ upd C.ks c l k, _
  unfold upd
  split
  · exact ⟨hl, hm⟩
  · exact h.kept k hk
theorem putC_ok {C : Co} (h : CoOk C) {r : Int × Int} (hr : r.1 ≤ 1048576) : CoOk (putC C r) := by
  unfold putC
  split
  · rename_i hc
    refine upd_ok h (by simp; omega) fun p hp => ?_
    rcases List.mem_append.1 hp with hp | hp
    · exact (h.kept _ (by omega)).2 p hp
    · simp at hp; subst hp; exact ⟨hc.2.2.2.1, hr⟩
  · exact giveC_ok h r
theorem getC_ok {C : Co} (h : CoOk C) (n : Int) : CoOk (getC C n).1 := by
  unfold getC
  split
  · rename_i hc
    have := h.kept (cclass n).toNat (by omega)
    exact upd_ok h (by simp; omega) fun p hp => this.2 p ((List.dropLast_sublist _).mem hp)
  · split
    · split
      · exact takeC_ok (trimC_ok h) n
      · exact trimC_ok h
    · exact takeC_ok h n
theorem kall_mem {ks : Nat → List Int} : ∀ {k : Nat} {r : Int × Int}, r ∈ kall ks k → ∃ j, j < k ∧ r.1 ∈ ks j ∧ r.2 = cpages j
  | 0, r, h => by cases h
  | k + 1, r, h => by
    rcases List.mem_append.1 h with h | h
    · obtain ⟨j, h1, h2⟩ := kall_mem h; exact ⟨j, by omega, h2⟩
    · obtain ⟨p, hp, rfl⟩ := List.mem_map.1 h
      exact ⟨k, by omega, hp, rfl⟩
theorem kall_bd {C : Co} (h : CoOk C) {r : Int × Int} (hr : r ∈ kall C.ks 7) : 0 ≤ r.1 ∧ r.1 ≤ 1048576 ∧ 1 ≤ r.2 ∧ r.2 ≤ 64 := by
  obtain ⟨j, hj, h1, h2⟩ := kall_mem hr
  have h3 := (h.kept j hj).2 _ h1
  have h4 := cpages_le j hj
  rw [h2]; omega
theorem tot_le {l : List (Int × Int)} (h : ∀ r ∈ l, 1 ≤ r.2 ∧ r.2 ≤ 64) : 0 ≤ totI l ∧ totI l ≤ 64 * l.length := by
  induction l with
  | nil => simp [totI]
  | cons r l ih =>
    have h1 := h r (by simp)
    have h2 := ih fun q hq => h q (by simp [hq])
    rw [tot_cons]; simp; omega
section
attribute [local irreducible] Pg
def giveE (C : Co) (r : Int × Int) : Int := if (giveI C.fr C.P r.1 r.2).isSome = true then 0 else 1
theorem give_stepT {b : Nat} {D : Co} {r : Int × Int} {v : Value} {L : List HP} (h : giveP b D.P D.fr D.t r.1 r.2 v L) : v = .int .i64 (giveE D r) ∧ L = [Pg b (giveC D r).P (giveC D r).fr (giveC D r).t] := by
  unfold giveP at h
  unfold giveE giveC
  cases hg : giveI D.fr D.P r.1 r.2 with
  | none => rw [hg] at h; exact h
  | some ys => rw [hg] at h; exact h
theorem take_stepT {b : Nat} {n : Int} {C : Co} {v : Value} {L : List HP} (h : takeP b C.P C.fr C.t n v L) : v = .tuple #[.int .i64 (takeC C n).2.1, .int .i64 (takeC C n).2.2] ∧ L = [Pg b C.P (takeC C n).1.fr (takeC C n).1.t] := by
  unfold takeP at h
  unfold takeC
  split at h
  · rename_i hn
    rw [if_pos hn]
    exact h
  · rename_i hn
    rw [if_neg hn]
    cases ht : takeI C.fr n with
    | none => rw [ht] at h; exact h
    | some q => rw [ht] at h; exact h
theorem takeC_P (C : Co) (n : Int) : (takeC C n).1.P = C.P ∧ (takeC C n).1.ks = C.ks := by
  unfold takeC
  split
  · exact ⟨rfl, rfl⟩
  · cases takeI C.fr n <;> exact ⟨rfl, rfl⟩
theorem takeC_full {C : Co} {n : Int} (h : (takeC C n).2.2 = 4) : (takeC C n).1 = C ∧ (takeC C n).2 = (0, 4) := by
  unfold takeC at h ⊢
  split
  · rename_i hn
    rw [if_pos hn] at h; cases h
  · rename_i hn
    rw [if_neg hn] at h
    cases ht : takeI C.fr n with
    | none => exact ⟨rfl, rfl⟩
    | some q => rw [ht] at h; cases h
end
end Go.Proofs.YtamecmklcnohjaaGreat.Sep
namespace Go.Proofs.YtamecmklcnohjaaGreat.Sep
open Go.RowKit
set_option linter.unusedSimpArgs false
set_option linter.unusedVariables false
def Ck (s sb : Nat) (C : Co) : HP := fun H => ∃ x : Nat × Nat, SL [pt s (.cells [.pointer (some ⟨x.1, 0, none⟩), .pointer (some ⟨sb, 0, none⟩), .pointer (some ⟨x.2, 0, none⟩)].toArray 108 (0, 0)), Pg x.1 C.P C.fr C.t, Kc x.2 C.ks] H
theorem Ck.open {s sb : Nat} {C : Co} : ∀ H, Ck s sb C H → ∃ x : Nat × Nat, True ∧ SL [pt s (.cells [.pointer (some ⟨x.1, 0, none⟩), .pointer (some ⟨sb, 0, none⟩), .pointer (some ⟨x.2, 0, none⟩)].toArray 108 (0, 0)), Pg x.1 C.P C.fr C.t, Kc x.2 C.ks] H := fun H ⟨x, h⟩ => ⟨x, trivial, h⟩
theorem Ck.fold {s sb pb kb : Nat} {C : Co} : ∀ H, SL [pt s (.cells [.pointer (some ⟨pb, 0, none⟩), .pointer (some ⟨sb, 0, none⟩), .pointer (some ⟨kb, 0, none⟩)].toArray 108 (0, 0)), Pg pb C.P C.fr C.t, Kc kb C.ks] H → Ck s sb C H := fun H h => ⟨(pb, kb), h⟩
set_option maxHeartbeats 8000000
attribute [local irreducible] X XE XO XD XDi XDa PV RV DV pt base Spec Sl Mp Keeps Pg Kc Pgs Spc
theorem ctrim_spec (l sb : Nat) (C : Co) (h : CoOk C) : Spec Tryz.prog 23 [.pointer (some ⟨l, 0, none⟩)] [Ck l sb C] (fun v L => v = .int .i64 (trimN C) ∧ L = [Ck l sb (trimC C)]) := by
  refine Spec.intro (IsEnt.out) Tryz.func23 rfl Tryz.ntmps23 (by simp) (fun w0 F => ?_)
  simp only [envOf, List.zipIdx, List.map, List.cons_append, List.nil_append, Nat.zero_add, Nat.reduceAdd]
  (repeat refine Z ?_)
  refine X_cond rfl (fun h => by cases h) (fun _ => ?_)
  refine X_open .here Ck.open ?_
  rintro ⟨pb, kb⟩ -
  dsimp only [List.cons_append, List.nil_append]
  have hkl := kall_le (fun k hk => (h.kept k hk).1) 7 (Nat.le_refl _)
  (repeat refine Z ?_)
  refine XO_call (call_spec kb C.ks) (hk := ?_)
  rintro _ _ ⟨a, c, rfl, rfl⟩
  (repeat refine Z ?_)
  refine X_loop (ι := Nat) (fun q => q ≤ (kall C.ks 7).length) (fun q => [(0, .pointer (some ⟨l, 0, none⟩)), (12, .slice a (kall C.ks 7).length c), (13, .int .i64 ((kall C.ks 7).length : Int)), (14, .int .i64 (q : Int)), (3, .int .i64 (totI ((kall C.ks 7).take q)))])
    (fun q => pt l (.cells [.pointer (some ⟨pb, 0, none⟩), .pointer (some ⟨sb, 0, none⟩), .pointer (some ⟨kb, 0, none⟩)].toArray 108 (0, 0)) :: Pg pb (((kall C.ks 7).take q).foldl giveC C).P (((kall C.ks 7).take q).foldl giveC C).fr (((kall C.ks 7).take q).foldl giveC C).t :: Kc kb C.ks :: Sl eRun a c (kall C.ks 7) :: F) (fun q => (kall C.ks 7).length - q) 0 (Nat.zero_le _) ?_ (by exact EN) ?_
  · exact SBs
  rintro k hk
  dsimp only at hk ⊢
  (repeat refine Z ?_)
  refine X_cond rfl (fun hc => ?_) (fun hc => ?_) <;> simp only [decide_eq_true_eq, decide_eq_false_iff_not] at hc
  · have hkl2 : k < (kall C.ks 7).length := by omega
    have hD := fold_ok ((kall C.ks 7).take k) h
    have hr := kall_bd h (List.getElem_mem hkl2)
    have htk : (kall C.ks 7).take (k + 1) = (kall C.ks 7).take k ++ [(kall C.ks 7)[k]] := List.take_succ_eq_append_getElem hkl2
    have hs : totI ((kall C.ks 7).take (k + 1)) = totI ((kall C.ks 7).take k) + (kall C.ks 7)[k].2 := by
      rw [htk, tot_append]; simp [totI]
    have hb1 := tot_le (l := (kall C.ks 7).take k) (fun r hr => (kall_bd h (List.mem_of_mem_take hr)).2.2)
    have hb2 : ((kall C.ks 7).take k).length ≤ 28 := by simp; omega
    have hfo : ((kall C.ks 7).take (k + 1)).foldl giveC C = giveC (((kall C.ks 7).take k).foldl giveC C) (kall C.ks 7)[k] := by rw [htk, List.foldl_append]; rfl
    refine X_slopen (E' := eRun) (a := a) (c := c) (xs := kall C.ks 7) (by exact FDs) (by omega) ?_
    rintro b o rfl
    (repeat refine Z ?_)
    refine XO_rv (rv_elG (E' := eRun) (i := k) (x' := (kall C.ks 7)[k]) (hget := by simp [hkl2])) (hk := ?_)
    (repeat refine Z ?_)
    (refine XO_dv dv_alloc (hk := ?_); rintro _ _ ⟨cb, rfl, rfl⟩; ((repeat refine Z ?_)); refine XO_dv0 dv_storeW (hk := ?_); rintro _ _ rfl; ((repeat refine Z ?_)))
    (repeat refine ZD ?_)
    refine XD_one (h := ?_)
    refine XDa_dvA (dv_call (pgive_spec pb _ _ (kall C.ks 7)[k].1 (kall C.ks 7)[k].2 _ (rf_len' (by have := hD.p1; omega) hD.p2 hD.right) (rf_bd hD.p2 hD.right) (by have := hD.p1; omega) hD.p2 (by omega) (by omega) (by omega) (by omega))) (hk := ?_)
    rintro v _ ⟨L', hpost, rfl⟩
    obtain ⟨rfl, rfl⟩ := give_stepT hpost
    refine ⟨by exact KP, ?_⟩
    (refine XD_end (h := ?_); (repeat refine Z ?_))
    refine X_round (k + 1) (by show k + 1 ≤ _; omega) (by show (kall C.ks 7).length - (k + 1) < (kall C.ks 7).length - k; omega) (by rw [hs]; exact SBs) ?_
    rw [hfo]
    exact EN
  · obtain rfl : k = (kall C.ks 7).length := by omega
    rw [List.take_length]
    (repeat refine Z ?_)
    refine XO_call (cclear_spec kb C.ks) (hk := ?_)
    rintro _ _ ⟨rfl, rfl⟩
    (repeat refine Z ?_)
    refine XE_ret (.inl rfl) (tells_tmps rfl rfl) ⟨_, ⟨rfl, rfl⟩, ?_⟩
    (try simp only [List.cons_append, List.nil_append])
    rw [(fold_P (kall C.ks 7) C).1]
    refine ent_fold (by exact FAs) (Ck.fold (C := trimC C)) ?_
    exact EN
theorem knew_spec (p : Int) : Spec Tryz.prog 15 [.int .i64 p] [] (fun v L => ∃ s sb, v = .pointer (some ⟨s, 0, none⟩) ∧ L = [Ck s sb ⟨min (max p 1) 1048576, [(0, min (max p 1) 1048576)], fun _ => [], 0⟩, Spc sb (min (max p 1) 1048576) ⟨fun _ => 0, 0⟩]) := by
  refine Spec.intro (IsEnt.out) Tryz.func15 rfl Tryz.ntmps15 (by simp) (fun w0 F => ?_)
  simp only [envOf, List.zipIdx, List.map, List.cons_append, List.nil_append, Nat.zero_add, Nat.reduceAdd]
  (repeat refine Z ?_)
  refine XO_call (pnew_spec p) (hk := ?_)
  rintro _ _ ⟨pb, rfl, rfl⟩
  (repeat refine Z ?_)
  refine XO_call (snew_spec p) (hk := ?_)
  rintro _ _ ⟨sb, rfl, rfl⟩
  (repeat refine Z ?_)
  refine XO_call cnew_spec (hk := ?_)
  rintro _ _ ⟨kb, rfl, rfl⟩
  (repeat refine Z ?_)
  refine XO_dv dv_box (hk := ?_)
  rintro _ _ ⟨b, rfl, rfl⟩
  (repeat refine Z ?_)
  refine XE_ret (.inl rfl) (tells_tmps rfl rfl) ⟨_, ⟨b, sb, rfl, rfl⟩, ?_⟩
  (try simp only [List.cons_append, List.nil_append])
  refine ent_fold (by exact FAs) (Ck.fold (C := ⟨min (max p 1) 1048576, [(0, min (max p 1) 1048576)], fun _ => [], 0⟩)) ?_
  exact EN
theorem kspace_spec (s sb : Nat) (C : Co) : Spec Tryz.prog 46 [.pointer (some ⟨s, 0, none⟩)] [Ck s sb C] (fun v L => v = .pointer (some ⟨sb, 0, none⟩) ∧ L = [Ck s sb C]) := by
  refine Spec.intro (IsEnt.out) Tryz.func46 rfl Tryz.ntmps46 (by simp) (fun w0 F => ?_)
  simp only [envOf, List.zipIdx, List.map, List.cons_append, List.nil_append, Nat.zero_add, Nat.reduceAdd]
  (repeat refine Z ?_)
  refine X_cond rfl (fun h => by cases h) (fun _ => ?_)
  refine X_open .here Ck.open ?_
  rintro ⟨pb, kb⟩ -
  dsimp only [List.cons_append, List.nil_append]
  (repeat refine Z ?_)
  refine XE_fold (by exact FAs) (Ck.fold (C := C)) ?_
  refine XE_ret (.inl rfl) (tells_tmps rfl rfl) ⟨_, ⟨rfl, rfl⟩, by exact EN⟩
theorem kruns_spec (s sb : Nat) (C : Co) (hl : C.fr.length ≤ 1048576) : Spec Tryz.prog 52 [.pointer (some ⟨s, 0, none⟩)] [Ck s sb C] (fun v L => ∃ a c, v = .slice a C.fr.length c ∧ L = [Sl eRun a c C.fr, Ck s sb C]) := by
  refine Spec.intro (IsEnt.out) Tryz.func52 rfl Tryz.ntmps52 (by simp) (fun w0 F => ?_)
  simp only [envOf, List.zipIdx, List.map, List.cons_append, List.nil_append, Nat.zero_add, Nat.reduceAdd]
  (repeat refine Z ?_)
  refine X_cond rfl (fun h => by cases h) (fun _ => ?_)
  refine X_open .here Ck.open ?_
  rintro ⟨pb, kb⟩ -
  dsimp only [List.cons_append, List.nil_append]
  (repeat refine Z ?_)
  refine XO_call (pruns_spec pb C.P C.t C.fr hl) (hk := ?_)
  rintro _ _ ⟨a, c, rfl, rfl⟩
  (repeat refine Z ?_)
  refine XE_fold (by exact FAs) (Ck.fold (C := C)) ?_
  refine XE_ret (.inl rfl) (tells_tmps rfl rfl) ⟨_, ⟨a, c, rfl, rfl⟩, ?_⟩
  exact EN
theorem kcached_spec (s sb : Nat) (C : Co) (h : CoOk C) : Spec Tryz.prog 102 [.pointer (some ⟨s, 0, none⟩)] [Ck s sb C] (fun v L => ∃ a c, v = .slice a (kall C.ks 7).length c ∧ L = [Sl eRun a c (kall C.ks 7), Ck s sb C]) := by
  refine Spec.intro (IsEnt.out) Tryz.func102 rfl Tryz.ntmps102 (by simp) (fun w0 F => ?_)
  simp only [envOf, List.zipIdx, List.map, List.cons_append, List.nil_append, Nat.zero_add, Nat.reduceAdd]
  (repeat refine Z ?_)
  refine X_cond rfl (fun h => by cases h) (fun _ => ?_)
  refine X_open .here Ck.open ?_
  rintro ⟨pb, kb⟩ -
  dsimp only [List.cons_append, List.nil_append]
  (repeat refine Z ?_)
  refine XO_call (call_spec kb C.ks) (hk := ?_)
  rintro _ _ ⟨a, c, rfl, rfl⟩
  (repeat refine Z ?_)
  refine XE_fold (by exact FAs) (Ck.fold (C := C)) ?_
  refine XE_ret (.inl rfl) (tells_tmps rfl rfl) ⟨_, ⟨a, c, rfl, rfl⟩, ?_⟩
  exact EN
end Go.Proofs.YtamecmklcnohjaaGreat.Sep
namespace Go.Proofs.YtamecmklcnohjaaGreat.Sep
open Go.RowKit
set_option linter.unusedSimpArgs false
set_option linter.unusedVariables false
def RunOk (P : Int) (r : Int × Int) : Prop := 0 ≤ r.1 ∧ 1 ≤ r.2 ∧ r.1 + r.2 ≤ P
structure CInv (C : Co) : Prop where
  ok : CoOk C
  kv : ∀ k : Nat, k < 7 → ∀ p ∈ C.ks k, p + cpages k ≤ C.P
def cC (x : Int) (C : Co) : Int := cnt x C.fr + cnt x (kall C.ks 7)
def tC (C : Co) : Int := totI C.fr + totI (kall C.ks 7)
theorem kall_upd (g : List (Int × Int) → Int) (hg : ∀ a b, g (a ++ b) = g a + g b) (ks : Nat → List Int) (c : Nat) (l' : List Int) : ∀ n : Nat, g (kall (upd ks c l') n) + (if c < n then g ((ks c).map fun p => (p, cpages c)) else 0) = g (kall ks n) + (if c < n then g (l'.map fun p => (p, cpages c)) else 0)
  | 0 => by simp [kall]
  | n + 1 => by
    have ih := kall_upd g hg ks c l' n
    simp only [kall, hg]
    by_cases hc : c = n
    · subst hc
      have h1 : upd ks c l' c = l' := by simp [upd]
      rw [h1, if_pos (by omega), if_pos (by omega)]
      rw [if_neg (by omega), if_neg (by omega)] at ih
      omega
    · have h1 : upd ks c l' n = ks n := by simp [upd, Ne.symm hc]
      rw [h1]
      by_cases hlt : c < n
      · rw [if_pos hlt, if_pos hlt] at ih
        rw [if_pos (by omega), if_pos (by omega)]; omega
      · rw [if_neg hlt, if_neg hlt] at ih
        rw [if_neg (by omega), if_neg (by omega)]; omega
theorem cC_nn (x : Int) (C : Co) : 0 ≤ cC x C := by have := cnt_nn x C.fr; have := cnt_nn x (kall C.ks 7); unfold cC; omega
theorem give_inv {C : Co} {r : Int × Int} (h : CoOk C) (hr : RunOk C.P r) (hd : ∀ x, cnt x C.fr + ind x r ≤ 1) : (∀ x, cnt x (giveC C r).fr = cnt x C.fr + ind x r) ∧ totI (giveC C r).fr = totI C.fr + r.2 := by
  have hs := giveI_some h.right hr.1 hr.2.1 hr.2.2 hd
  have h1 := giveI_right h.right hs
  have h2 : (giveC C r).fr = giveL C.fr r.1 r.2 := by show (giveI C.fr C.P r.1 r.2).getD C.fr = _; rw [hs]; rfl
  rw [h2]
  exact ⟨h1.2.1, h1.2.2⟩
theorem put_inv {C : Co} {r : Int × Int} (h : CInv C) (hr : RunOk C.P r) (hd : ∀ x, cC x C + ind x r ≤ 1) :
    CInv (putC C r) ∧ (putC C r).P = C.P ∧ (∀ x, cC x (putC C r) = cC x C + ind x r) ∧ tC (putC C r) = tC C + r.2 := by
  have hp2 := h.ok.p2
  obtain ⟨r1, r2, r3⟩ := hr
  have hok : CoOk (putC C r) := putC_ok h.ok (by omega)
  unfold putC at hok ⊢
  split
  · rename_i hc
    rw [if_pos hc] at hok
    obtain ⟨c1, c2, c3, c4, c5⟩ := hc
    have hct : (((cclass r.2).toNat : Nat) : Int) = cclass r.2 := by omega
    generalize hcc : (cclass r.2).toNat = c at *
    have hpc : cpages (c : Int) = r.2 := by rw [hct]; exact c1
    refine ⟨⟨hok, fun k hk p hp => ?_⟩, rfl, fun x => ?_, ?_⟩
    · show p + cpages k ≤ C.P
      have hp : p ∈ upd C.ks c (C.ks c ++ [r.1]) k := hp
      unfold upd at hp
      split at hp
      · rename_i hkc
        subst hkc
        rcases List.mem_append.1 hp with hp | hp
        · exact h.kv k hk p hp
        · simp at hp; subst hp; rw [hpc]; omega
      · exact h.kv k hk p hp
    · have := kall_upd (cnt x) (cnt_append x) C.ks c (C.ks c ++ [r.1]) 7
      rw [if_pos (by omega), if_pos (by omega), List.map_append, cnt_append] at this
      simp only [List.map_cons, List.map_nil, cnt, hpc] at this
      show cnt x C.fr + cnt x (kall (upd C.ks c (C.ks c ++ [r.1])) 7) = cnt x C.fr + cnt x (kall C.ks 7) + ind x r
      rw [show ((r.1, r.2) : Int × Int) = r from rfl] at this
      omega
    · have := kall_upd totI tot_append C.ks c (C.ks c ++ [r.1]) 7
      rw [if_pos (by omega), if_pos (by omega), List.map_append, tot_append] at this
      simp only [List.map_cons, List.map_nil, tot_cons, hpc] at this
      have h0 : totI ([] : List (Int × Int)) = 0 := rfl
      show totI C.fr + totI (kall (upd C.ks c (C.ks c ++ [r.1])) 7) = totI C.fr + totI (kall C.ks 7) + r.2
      omega
  · have hg := give_inv h.ok ⟨r1, r2, r3⟩ (fun x => by have := hd x; have := cnt_nn x (kall C.ks 7); unfold cC at *; omega)
    refine ⟨⟨giveC_ok h.ok r, h.kv⟩, rfl, fun x => ?_, ?_⟩
    · show cnt x (giveC C r).fr + cnt x (kall C.ks 7) = cnt x C.fr + cnt x (kall C.ks 7) + ind x r
      rw [hg.1 x]; omega
    · show totI (giveC C r).fr + totI (kall C.ks 7) = totI C.fr + totI (kall C.ks 7) + r.2
      rw [hg.2]; omega
theorem gives_inv : ∀ (l : List (Int × Int)) {C : Co}, CoOk C → (∀ r ∈ l, RunOk C.P r) → (∀ x, cnt x C.fr + cnt x l ≤ 1) →
    (∀ x, cnt x (l.foldl giveC C).fr = cnt x C.fr + cnt x l) ∧ totI (l.foldl giveC C).fr = totI C.fr + totI l
  | [], C, h, _, _ => ⟨fun x => by simp [cnt], by simp [totI]⟩
  | r :: l, C, h, hr, hd => by
    have h1 := give_inv h (hr r (by simp)) (fun x => by have := hd x; have := cnt_nn x l; simp only [cnt] at *; omega)
    obtain ⟨g1, g2⟩ := gives_inv l (giveC_ok h r) (fun q hq => hr q (by simp [hq])) (fun x => by rw [h1.1 x]; have := hd x; simp only [cnt] at this; omega)
    refine ⟨fun x => ?_, ?_⟩
    · rw [List.foldl_cons, g1 x, h1.1 x]; simp only [cnt]; omega
    · rw [List.foldl_cons, g2, h1.2, tot_cons]; omega
theorem kall_run {C : Co} (h : CInv C) : ∀ r ∈ kall C.ks 7, RunOk C.P r := fun r hr => by
  obtain ⟨j, hj, h1, h2⟩ := kall_mem hr
  have h3 := (h.ok.kept j hj).2 _ h1
  have h4 := h.kv j hj _ h1
  have h5 := cpages_le j hj
  unfold RunOk
  rw [h2]; omega
theorem kall_nil : kall (fun _ => []) 7 = [] := rfl
theorem trim_inv {C : Co} (h : CInv C) (hd : ∀ x, cC x C ≤ 1) : CInv (trimC C) ∧ (∀ x, cC x (trimC C) = cC x C) ∧ tC (trimC C) = tC C := by
  obtain ⟨h1, h2⟩ := gives_inv (kall C.ks 7) h.ok (kall_run h) hd
  refine ⟨⟨trimC_ok h.ok, fun k hk p hp => by cases hp⟩, fun x => ?_, ?_⟩
  · show cnt x ((kall C.ks 7).foldl giveC C).fr + cnt x (kall (fun _ => []) 7) = _
    rw [h1 x, kall_nil]; simp only [cnt, cC]; omega
  · show totI ((kall C.ks 7).foldl giveC C).fr + totI (kall (fun _ => []) 7) = _
    rw [h2, kall_nil]; simp only [tC]; simp [totI]
theorem take_inv {C : Co} {n : Int} (h : CInv C) (hn : 1 ≤ n) : CInv (takeC C n).1 ∧ (takeC C n).1.P = C.P ∧
    ((takeC C n).2.2 = 0 → RunOk C.P ((takeC C n).2.1, n) ∧ (∀ x, cC x C = cC x (takeC C n).1 + ind x ((takeC C n).2.1, n)) ∧ tC C = tC (takeC C n).1 + n) ∧
    ((takeC C n).2.2 ≠ 0 → (∀ x, cC x (takeC C n).1 = cC x C) ∧ tC (takeC C n).1 = tC C) := by
  unfold takeC
  rw [if_neg (by omega)]
  cases ht : takeI C.fr n with
  | none => exact ⟨h, rfl, fun h' => absurd (show (4 : Int) = 0 from h') (by decide), fun _ => ⟨fun _ => rfl, rfl⟩⟩
  | some q =>
    obtain ⟨p, ys⟩ := q
    obtain ⟨g1, g2, g3, g4, g5, g6⟩ := takeI_right h.ok.right ht
    refine ⟨⟨⟨h.ok.p1, h.ok.p2, g1, h.ok.kept⟩, h.kv⟩, rfl, fun _ => ⟨⟨g3, hn, g4⟩, fun x => ?_, ?_⟩, fun h' => absurd rfl h'⟩
    · show cnt x C.fr + cnt x (kall C.ks 7) = cnt x ys + cnt x (kall C.ks 7) + ind x (p, n); rw [g5 x]; omega
    · show totI C.fr + totI (kall C.ks 7) = totI ys + totI (kall C.ks 7) + n; rw [g6]; omega
theorem get_inv {C : Co} {n : Int} (h : CInv C) (hd : ∀ x, cC x C ≤ 1) (hn : 1 ≤ n) (hc : 0 ≤ cclass n → cpages (cclass n) = n) : CInv (getC C n).1 ∧ (getC C n).1.P = C.P ∧
    ((getC C n).2.2 = 0 → RunOk C.P ((getC C n).2.1, n) ∧ (∀ x, cC x C = cC x (getC C n).1 + ind x ((getC C n).2.1, n)) ∧ tC C = tC (getC C n).1 + n) ∧
    ((getC C n).2.2 ≠ 0 → (∀ x, cC x (getC C n).1 = cC x C) ∧ tC (getC C n).1 = tC C) := by
  have hok := getC_ok h.ok n
  unfold getC at hok ⊢
  split
  · rename_i hk
    rw [if_pos hk] at hok
    obtain ⟨k1, k2, k3⟩ := hk
    have hcp := hc k1
    have hct : (((cclass n).toNat : Nat) : Int) = cclass n := by omega
    generalize hcc : (cclass n).toNat = c at *
    have hpc : cpages (c : Int) = n := by rw [hct]; exact hcp
    have hne : C.ks c ≠ [] := List.length_pos_iff.1 k3
    have hlast : (C.ks c).getD ((C.ks c).length - 1) 0 = (C.ks c).getLast hne := by
      rw [List.getLast_eq_getElem]
      simp only [List.getD, List.getElem?_eq_getElem (show (C.ks c).length - 1 < (C.ks c).length by omega), Option.getD_some]
    have hsplit : C.ks c = (C.ks c).dropLast ++ [(C.ks c).getLast hne] := (List.dropLast_concat_getLast hne).symm
    have hmem : (C.ks c).getLast hne ∈ C.ks c := List.getLast_mem hne
    have hv := h.kv c (by omega) _ hmem
    have hv2 := (h.ok.kept c (by omega)).2 _ hmem
    rw [hlast]
    refine ⟨⟨hok, fun k hk p hp => ?_⟩, rfl, fun _ => ⟨⟨hv2.1, hn, by rw [← hpc]; exact hv⟩, fun x => ?_, ?_⟩, fun h' => absurd rfl h'⟩
    · have hp : p ∈ upd C.ks c (C.ks c).dropLast k := hp
      unfold upd at hp
      split at hp
      · rename_i hkc
        subst hkc
        exact h.kv k hk p ((List.dropLast_sublist _).mem hp)
      · exact h.kv k hk p hp
    · have := kall_upd (cnt x) (cnt_append x) C.ks c (C.ks c).dropLast 7
      rw [if_pos (by omega), if_pos (by omega)] at this
      conv at this => lhs; rhs; rw [hsplit]
      rw [List.map_append, cnt_append] at this
      simp only [List.map_cons, List.map_nil, cnt, hpc] at this
      show cnt x C.fr + cnt x (kall C.ks 7) = cnt x C.fr + cnt x (kall (upd C.ks c (C.ks c).dropLast) 7) + ind x ((C.ks c).getLast hne, n)
      omega
    · have := kall_upd totI tot_append C.ks c (C.ks c).dropLast 7
      rw [if_pos (by omega), if_pos (by omega)] at this
      conv at this => lhs; rhs; rw [hsplit]
      rw [List.map_append, tot_append] at this
      simp only [List.map_cons, List.map_nil, tot_cons, hpc] at this
      have h0 : totI ([] : List (Int × Int)) = 0 := rfl
      show totI C.fr + totI (kall C.ks 7) = totI C.fr + totI (kall (upd C.ks c (C.ks c).dropLast) 7) + _
      omega
  · split
    · rename_i he
      split
      · obtain ⟨t1, t2, t3⟩ := trim_inv h hd
        obtain ⟨g1, g2, g3, g4⟩ := take_inv t1 hn
        refine ⟨g1, g2, fun h0 => ?_, fun h0 => ?_⟩
        · obtain ⟨a1, a2, a3⟩ := g3 h0
          exact ⟨a1, fun x => by rw [← t2 x]; exact a2 x, by rw [← t3]; exact a3⟩
        · obtain ⟨a1, a2⟩ := g4 h0
          exact ⟨fun x => by rw [a1 x, t2 x], by rw [a2, t3]⟩
      · obtain ⟨t1, t2, t3⟩ := trim_inv h hd
        exact ⟨t1, rfl, fun h0 => absurd (he.symm.trans (show (takeC C n).2.2 = 0 from h0)) (by decide), fun _ => ⟨t2, t3⟩⟩
    · exact take_inv h hn
theorem class_self {m : Int} (h1 : 1 ≤ m) (h2 : m ≤ 64) : 1 ≤ cpages (cclass m) ∧ cpages (cclass (cpages (cclass m))) = cpages (cclass m) := by
  have hc : cclass m = 0 ∨ cclass m = 1 ∨ cclass m = 2 ∨ cclass m = 3 ∨ cclass m = 4 ∨ cclass m = 5 ∨ cclass m = 6 := by
    unfold cclass
    repeat' split
    all_goals omega
  rcases hc with h | h | h | h | h | h | h <;> rw [h] <;> decide
end Go.Proofs.YtamecmklcnohjaaGreat.Sep
namespace Go.Proofs.YtamecmklcnohjaaGreat.Sep
open Go.RowKit
set_option linter.unusedSimpArgs false
set_option linter.unusedVariables false
def rnd (p : Int) : Int := max p (cpages (cclass p))
theorem rnd_ok {p : Int} (h1 : 1 ≤ p) (h2 : p ≤ 1048576) : p ≤ rnd p ∧ rnd p ≤ 1048576 ∧ (0 ≤ cclass (rnd p) → cpages (cclass (rnd p)) = rnd p) ∧ cclass (rnd p) = cclass p ∧ (64 < p → rnd p = p) ∧ (p ≤ 64 → rnd p ≤ 64 ∧ rnd p ≤ 2 * p - 1) := by
  have hc : (p ≤ 1 ∧ cclass p = 0) ∨ (p ≤ 2 ∧ 2 ≤ p ∧ cclass p = 1) ∨ (p ≤ 4 ∧ 3 ≤ p ∧ cclass p = 2) ∨ (p ≤ 8 ∧ 5 ≤ p ∧ cclass p = 3) ∨ (p ≤ 16 ∧ 9 ≤ p ∧ cclass p = 4) ∨ (p ≤ 32 ∧ 17 ≤ p ∧ cclass p = 5) ∨ (p ≤ 64 ∧ 33 ≤ p ∧ cclass p = 6) ∨ (65 ≤ p ∧ cclass p = -1) := by
    unfold cclass
    repeat' split
    all_goals omega
  have e : ∀ k n : Int, cclass p = k → cpages k = n → p ≤ n → rnd p = n := fun k n a b c => by unfold rnd; rw [a, b]; omega
  rcases hc with ⟨a, b⟩ | ⟨a, a', b⟩ | ⟨a, a', b⟩ | ⟨a, a', b⟩ | ⟨a, a', b⟩ | ⟨a, a', b⟩ | ⟨a, a', b⟩ | ⟨a, b⟩
  · rw [e 0 1 b (by decide) a, b]; refine ⟨a, by decide, by decide, by decide, by omega, by omega⟩
  · rw [e 1 2 b (by decide) a, b]; refine ⟨a, by decide, by decide, by decide, by omega, by omega⟩
  · rw [e 2 4 b (by decide) a, b]; refine ⟨a, by decide, by decide, by decide, by omega, by omega⟩
  · rw [e 3 8 b (by decide) a, b]; refine ⟨a, by decide, by decide, by decide, by omega, by omega⟩
  · rw [e 4 16 b (by decide) a, b]; refine ⟨a, by decide, by decide, by decide, by omega, by omega⟩
  · rw [e 5 32 b (by decide) a, b]; refine ⟨a, by decide, by decide, by decide, by omega, by omega⟩
  · rw [e 6 64 b (by decide) a, b]; refine ⟨a, by decide, by decide, by decide, by omega, by omega⟩
  · have : rnd p = p := by unfold rnd; rw [b, show cpages (-1) = 0 from by decide]; omega
    rw [this, b]
    refine ⟨by omega, h2, fun h => absurd h (by decide), rfl, fun _ => rfl, by omega⟩
def gr (got : List (Int × Hd)) : List (Int × Int) := got.map fun q => (q.1, q.2.pages)
theorem gr_app (a b : List (Int × Hd)) : gr (a ++ b) = gr a ++ gr b := by simp [gr]
def HdGood (h : Hd) : Prop := HdOk h ∧ 0 ≤ h.owner ∧ h.owner < 18446744073709551616 ∧ 0 ≤ h.next ∧ h.next < 18446744073709551616
structure KInv (C : Co) (m : Int → Int) (got : List (Int × Hd)) : Prop where
  ci : CInv C
  run : ∀ q ∈ got, RunOk C.P (q.1, q.2.pages)
  part : ∀ x, cC x C + cnt x (gr got) = if 0 ≤ x ∧ x < C.P then 1 else 0
  tot : tC C + totI (gr got) = C.P
  hdr : ∀ q ∈ got, rdM m (q.1 * 4096) 32 = hdB q.2 ∧ HdGood q.2
theorem part_le1 {x P : Int} : (if 0 ≤ x ∧ x < P then (1 : Int) else 0) ≤ 1 := by split <;> omega
theorem KInv.le {C : Co} {m : Int → Int} {got : List (Int × Hd)} (h : KInv C m got) (x : Int) : cC x C ≤ 1 := by
  have h1 := h.part x
  have h2 := cnt_nn x (gr got)
  have h3 := part_le1 (x := x) (P := C.P)
  omega
theorem knew (p : Int) (m : Int → Int) : KInv ⟨min (max p 1) 1048576, [(0, min (max p 1) 1048576)], fun _ => [], 0⟩ m [] := by
  have h1 : 1 ≤ min (max p 1) 1048576 := by omega
  have h2 : min (max p 1) 1048576 ≤ 1048576 := by omega
  generalize min (max p 1) 1048576 = P at h1 h2
  refine ⟨⟨⟨h1, h2, ⟨by show (0 : Int) ≤ 0; omega, h1, by show 0 + P ≤ P; omega, trivial⟩, fun k hk => ⟨Nat.zero_le _, fun p hp => (by cases hp)⟩⟩, fun k hk p hp => (by cases hp)⟩, fun q hq => (by cases hq), fun x => ?_, ?_, fun q hq => (by cases hq)⟩
  · show cnt x [(0, P)] + cnt x (kall (fun _ => []) 7) + cnt x [] = _
    rw [kall_nil]
    simp only [cnt, ind]
    by_cases hx : 0 ≤ x ∧ x < P
    · rw [if_pos hx, if_pos (by omega)]; omega
    · rw [if_neg hx, if_neg (by omega)]; omega
  · show totI [(0, P)] + totI (kall (fun _ => []) 7) + totI [] = P
    rw [kall_nil]; simp [totI]
theorem ind_self {p n : Int} (h : 1 ≤ n) : ind p (p, n) = 1 := by unfold ind; rw [if_pos]; simp; omega
theorem kget {C : Co} {m : Int → Int} {got : List (Int × Hd)} {hd : Hd} (h : KInv C m got) (hh : HdGood hd) (hc : 0 ≤ cclass hd.pages → cpages (cclass hd.pages) = hd.pages) (h0 : (getC C hd.pages).2.2 = 0) :
    KInv (getC C hd.pages).1 (wrM m ((getC C hd.pages).2.1 * 4096) (hdB hd)) (got ++ [((getC C hd.pages).2.1, hd)]) ∧ (getC C hd.pages).1.P = C.P ∧ RunOk C.P ((getC C hd.pages).2.1, hd.pages) := by
  obtain ⟨g1, g2, g3, _⟩ := get_inv h.ci h.le hh.1.1 hc
  obtain ⟨g4, g5, g6⟩ := g3 h0
  generalize getC C hd.pages = G at *
  obtain ⟨C', p, e⟩ := G
  simp only at *
  refine ⟨⟨g1, fun q hq => ?_, fun x => ?_, ?_, fun q hq => ?_⟩, g2, g4⟩
  · rw [g2]
    rcases List.mem_append.1 hq with hq | hq
    · exact h.run q hq
    · simp at hq; subst hq; exact g4
  · rw [g2, ← h.part x, g5 x, gr_app, cnt_append]
    show _ + (_ + (ind x (p, hd.pages) + 0)) = _
    omega
  · rw [g2, gr_app, tot_append]
    have := h.tot
    have e : totI (gr [(p, hd)]) = hd.pages := by simp [gr, totI]
    rw [e]
    omega
  · rcases List.mem_append.1 hq with hq | hq
    · refine ⟨?_, (h.hdr q hq).2⟩
      have hne : q.1 ≠ p := by
        intro he
        have h1 := h.part p
        have h2 := g5 p
        have h3 := ind_self (p := p) hh.1.1
        have h4 := cnt_mem (x := p) (r := (q.1, q.2.pages)) (l := gr got) (List.mem_map.2 ⟨q, hq, rfl⟩)
        rw [he, ind_self (h.hdr q hq).2.1.1] at h4
        have h5 := cC_nn p C'
        have h6 := part_le1 (x := p) (P := C.P)
        omega
      rw [rd_wr_ne (by rw [hdB_len]; omega)]
      exact (h.hdr q hq).1
    · simp at hq; subst hq
      refine ⟨?_, hh⟩
      have := rd_wr m (p * 4096) (hdB hd)
      rw [hdB_len] at this
      exact this
theorem kput {C : Co} {m : Int → Int} {l1 l2 : List (Int × Hd)} {p : Int} {hd : Hd} (h : KInv C m (l1 ++ (p, hd) :: l2)) : KInv (putC C (p, hd.pages)) (zrM m (p * 4096) 32) (l1 ++ l2) ∧ (putC C (p, hd.pages)).P = C.P := by
  have hr : RunOk C.P (p, hd.pages) := h.run (p, hd) (by simp)
  have hcn : ∀ x, cC x C + (cnt x (gr l1) + (ind x (p, hd.pages) + cnt x (gr l2))) = if 0 ≤ x ∧ x < C.P then 1 else 0 := fun x => by
    have := h.part x
    rw [gr_app, cnt_append] at this
    exact this
  obtain ⟨g1, g2, g3, g4⟩ := put_inv h.ci hr (fun x => by
    have := hcn x; have := cnt_nn x (gr l1); have := cnt_nn x (gr l2); have := part_le1 (x := x) (P := C.P); omega)
  refine ⟨⟨g1, fun q hq => ?_, fun x => ?_, ?_, fun q hq => ?_⟩, g2⟩
  · rw [g2]; exact h.run q (by rcases List.mem_append.1 hq with hq | hq <;> simp [hq])
  · rw [g2, g3 x, ← hcn x, gr_app, cnt_append]; omega
  · have := h.tot
    rw [gr_app, tot_append] at this
    rw [g2, g4, gr_app, tot_append]
    have e : totI (gr ((p, hd) :: l2)) = hd.pages + totI (gr l2) := tot_cons _ _
    simp only at *
    omega
  · have hq' : q ∈ l1 ++ (p, hd) :: l2 := by rcases List.mem_append.1 hq with hq | hq <;> simp [hq]
    refine ⟨?_, (h.hdr q hq').2⟩
    have hne : q.1 ≠ p := by
      intro he
      have h1 := hcn p
      have h3 := ind_self (p := p) (h.hdr (p, hd) (by simp)).2.1.1
      have h4 : ind p (q.1, q.2.pages) ≤ cnt p (gr l1) + cnt p (gr l2) := by
        have := cnt_mem (x := p) (r := (q.1, q.2.pages)) (l := gr (l1 ++ l2)) (List.mem_map.2 ⟨q, hq, rfl⟩)
        rwa [gr_app, cnt_append] at this
      rw [he, ind_self (h.hdr q hq').2.1.1] at h4
      have h5 := cC_nn p C
      have h6 := part_le1 (x := p) (P := C.P)
      simp only at h3
      omega
    rw [rd_zr_ne (by omega)]
    exact (h.hdr q hq').1
theorem ktrim {C : Co} {m : Int → Int} {got : List (Int × Hd)} (h : KInv C m got) : KInv (trimC C) m got := by
  obtain ⟨g1, g2, g3⟩ := trim_inv h.ci h.le
  exact ⟨g1, h.run, fun x => by rw [g2 x]; exact h.part x, by rw [g3]; exact h.tot, h.hdr⟩
theorem kdone {C : Co} {m : Int → Int} (h : KInv C m []) : (trimC C).fr = [(0, C.P)] := by
  have ht := ktrim h
  refine free_all h.ci.ok.p1 ht.ci.ok.right fun x h0 h1 => ?_
  have := ht.part x
  have h2 : cC x (trimC C) = cnt x (trimC C).fr := by
    show cnt x (trimC C).fr + cnt x (kall (fun _ => []) 7) = _
    rw [kall_nil]; simp [cnt]
  rw [h2, if_pos ⟨h0, h1⟩] at this
  simp only [gr, List.map_nil, cnt] at this
  omega
end Go.Proofs.YtamecmklcnohjaaGreat.Sep
namespace Go.Proofs.YtamecmklcnohjaaGreat.Sep
open Go.RowKit
set_option linter.unusedSimpArgs false
set_option linter.unusedVariables false
set_option maxHeartbeats 8000000
attribute [local irreducible] X XE XO XD XDi XDa PV RV DV pt base Spec Sl Mp Keeps Pg Kc Pgs Spc Ck
theorem kfree_spec (s sb : Nat) (C : Co) (h : CoOk C) : Spec Tryz.prog 28 [.pointer (some ⟨s, 0, none⟩)] [Ck s sb C] (fun v L => v = .tuple #[.int .i64 (totI C.fr), .int .i64 (C.fr.length : Int)] ∧ L = [Ck s sb C]) := by
  refine Spec.intro (IsEnt.out) Tryz.func28 rfl Tryz.ntmps28 (by simp) (fun w0 F => ?_)
  simp only [envOf, List.zipIdx, List.map, List.cons_append, List.nil_append, Nat.zero_add, Nat.reduceAdd]
  have hfl := rf_len' (by have := h.p1; omega) h.p2 h.right
  have hfb := rf_bd h.p2 h.right
  (repeat refine Z ?_)
  refine XO_call (kruns_spec s sb C hfl) (hk := ?_)
  rintro _ _ ⟨a, c, rfl, rfl⟩
  (repeat refine Z ?_)
  refine X_cond rfl (fun h => by cases h) (fun _ => ?_)
  refine X_open (A := Ck s sb C) (by exact FDs) Ck.open ?_
  rintro ⟨pb, kb⟩ -
  dsimp only [List.cons_append, List.nil_append]
  (repeat refine Z ?_)
  refine XO_call (pfree_spec pb C.P C.t C.fr hfl hfb) (hk := ?_)
  rintro _ _ ⟨rfl, rfl⟩
  (repeat refine Z ?_)
  refine XE_fold (by exact FAs) (Ck.fold (C := C)) ?_
  refine XE_ret (.inl rfl) (tells_tmps rfl rfl) ⟨_, ⟨rfl, rfl⟩, by exact EN⟩
theorem ktake_spec (s sb sc nc : Nat) (C : Co) (n : Int) (h : CoOk C) : Spec Tryz.prog 182 [.pointer (some ⟨sc, 0, none⟩), .pointer (some ⟨nc, 0, none⟩)] [Ck s sb C, pt sc (.cells [.pointer (some ⟨s, 0, none⟩)].toArray 27 (0, 0)), pt nc (.cells [.int .i64 n].toArray 3 (0, 0))]
    (fun v L => v = .tuple #[.int .i64 (takeC C n).2.1, .int .i64 n, .int .i64 (takeC C n).2.2] ∧ L = [Ck s sb (takeC C n).1, pt sc (.cells [.pointer (some ⟨s, 0, none⟩)].toArray 27 (0, 0)), pt nc (.cells [.int .i64 n].toArray 3 (0, 0))]) := by
  refine Spec.intro (IsEnt.out) Tryz.func182 rfl Tryz.ntmps182 (by simp) (fun w0 F => ?_)
  simp only [envOf, List.zipIdx, List.map, List.cons_append, List.nil_append, Nat.zero_add, Nat.reduceAdd]
  refine X_open (A := Ck s sb C) (by exact FDs) Ck.open ?_
  rintro ⟨pb, kb⟩ -
  dsimp only [List.cons_append, List.nil_append]
  (repeat refine Z ?_)
  (repeat refine ZD ?_)
  refine XD_one (h := ?_)
  refine XDa_dvA (dv_call (ptake_spec pb C.P C.t n C.fr (rf_len' (by have := h.p1; omega) h.p2 h.right) (rf_bd h.p2 h.right))) (hk := ?_)
  rintro v _ ⟨L', hpost, rfl⟩
  obtain ⟨rfl, rfl⟩ := take_stepT hpost
  refine ⟨by exact KP, ?_⟩
  have hPk := takeC_P C n
  (repeat refine ZD ?_)
  (refine XD_one (h := ?_); refine XDa_dvA (dv_of_rv (rv_of_pv pv_assign)) (hk := ?_); rintro _ _ ⟨rfl, rfl⟩; refine ⟨by exact KP, ?_⟩)
  (refine XD_one (h := ?_); refine XDa_dvA (dv_of_rv (rv_of_pv pv_assign)) (hk := ?_); rintro _ _ ⟨rfl, rfl⟩; refine ⟨by exact KP, ?_⟩)
  (refine XD_end (h := ?_); (repeat refine Z ?_))
  (repeat refine ZD ?_)
  (refine XD_one (h := ?_); refine XDa_dvA (dv_of_rv (rv_of_pv pv_assign)) (hk := ?_); rintro _ _ ⟨rfl, rfl⟩; refine ⟨by exact KP, ?_⟩)
  (refine XD_one (h := ?_); refine XDa_dvA (dv_of_rv (rv_of_pv pv_assign)) (hk := ?_); rintro _ _ ⟨rfl, rfl⟩; refine ⟨by exact KP, ?_⟩)
  (refine XD_one (h := ?_); refine XDa_dvA (dv_of_rv (rv_of_pv pv_assign)) (hk := ?_); rintro _ _ ⟨rfl, rfl⟩; refine ⟨by exact KP, ?_⟩)
  (refine XD_end (h := ?_); (repeat refine Z ?_))
  refine XE_ret (.inl rfl) (tells_tmps rfl rfl) ⟨_, ⟨rfl, rfl⟩, ?_⟩
  (try simp only [List.cons_append, List.nil_append])
  rw [← hPk.1, ← hPk.2]
  refine ent_fold (by exact FAs) (Ck.fold (C := (takeC C n).1)) ?_
  exact EN
end Go.Proofs.YtamecmklcnohjaaGreat.Sep
namespace Go.Proofs.YtamecmklcnohjaaGreat.Sep
open Go.RowKit
set_option linter.unusedSimpArgs false
set_option linter.unusedVariables false
set_option maxHeartbeats 8000000
attribute [local irreducible] X XE XO XD XDi XDa PV RV DV pt base Spec Sl Mp Keeps Pg Kc Pgs Spc Ck
theorem kpages_spec (s sb : Nat) (C : Co) (p : Int) (h : CoOk C) (h1 : 1 ≤ p) (h2 : p ≤ 1048576) : Spec Tryz.prog 158 [.pointer (some ⟨s, 0, none⟩), .int .i64 p] [Ck s sb C]
    (fun v L => v = .tuple #[.int .i64 (getC C (rnd p)).2.1, .int .i64 (rnd p), .int .i64 (getC C (rnd p)).2.2] ∧ L = [Ck s sb (getC C (rnd p)).1]) := by
  refine Spec.intro (IsEnt.out) Tryz.func158 rfl Tryz.ntmps158 (by simp) (fun w0 F => ?_)
  simp only [envOf, List.zipIdx, List.map, List.cons_append, List.nil_append, Nat.zero_add, Nat.reduceAdd]
  obtain ⟨r1, r2, r3, r4, -, -⟩ := rnd_ok h1 h2
  refine X_open (A := Ck s sb C) (by exact FDs) Ck.open ?_
  rintro ⟨pb, kb⟩ -
  dsimp only [List.cons_append, List.nil_append]
  (repeat refine Z ?_)
  refine XO_dv dv_box1 (hk := ?_)
  rintro _ _ ⟨sc, rfl, rfl⟩
  (repeat refine Z ?_)
  refine XO_call (cclass_spec p) (hk := ?_)
  rintro _ _ ⟨rfl, rfl⟩
  (repeat refine Z ?_)
  refine XO_call (cpop_spec kb C.ks (cclass p)) (hk := ?_)
  intro v L' hpost
  by_cases hc : 0 ≤ cclass p ∧ cclass p < 7 ∧ 0 < (C.ks (cclass p).toNat).length
  · have hP : cpopP kb C.ks (cclass p) = fun v L => v = .tuple #[.int .i64 ((C.ks (cclass p).toNat).getD ((C.ks (cclass p).toNat).length - 1) 0), .bool true] ∧ L = [Kc kb (upd C.ks (cclass p).toNat (C.ks (cclass p).toNat).dropLast)] := by unfold cpopP; rw [if_pos hc]
    have hg : getC C (rnd p) = (⟨C.P, C.fr, upd C.ks (cclass p).toNat (C.ks (cclass p).toNat).dropLast, C.t⟩, (C.ks (cclass p).toNat).getD ((C.ks (cclass p).toNat).length - 1) 0, 0) := by unfold getC; rw [r4, if_pos hc]
    have hcp : cpages (cclass p) = rnd p := by rw [← r4]; exact r3 (by rw [r4]; exact hc.1)
    rw [hP] at hpost
    obtain ⟨rfl, rfl⟩ := hpost
    rw [hg]
    (repeat refine Z ?_)
    refine X_cond rfl (fun _ => ?_) (fun h => by cases h)
    (repeat refine Z ?_)
    refine XO_call (cpages_spec (cclass p)) (hk := ?_)
    rintro _ _ ⟨rfl, rfl⟩
    rw [hcp]
    (repeat refine Z ?_)
    refine XE_fold (by exact FAs) (Ck.fold (C := ⟨C.P, C.fr, upd C.ks (cclass p).toNat (C.ks (cclass p).toNat).dropLast, C.t⟩)) ?_
    refine XE_ret (.inl rfl) (tells_tmps rfl rfl) ⟨_, ⟨rfl, rfl⟩, by exact EN⟩
  · have hP : cpopP kb C.ks (cclass p) = fun v L => v = .tuple #[.int .i64 0, .bool false] ∧ L = [Kc kb C.ks] := by unfold cpopP; rw [if_neg hc]
    have hg : getC C (rnd p) = if (takeC C (rnd p)).2.2 = 4 then (if 0 < trimN C then takeC (trimC C) (rnd p) else (trimC C, (takeC C (rnd p)).2)) else takeC C (rnd p) := by conv => lhs; unfold getC; rw [r4, if_neg hc]
    rw [hP] at hpost
    obtain ⟨rfl, rfl⟩ := hpost
    rw [hg]
    (repeat refine Z ?_)
    refine X_cond rfl (fun h => by cases h) (fun _ => ?_)
    (repeat refine Z ?_)
    refine XO_call (cpages_spec (cclass p)) (hk := ?_)
    rintro _ _ ⟨rfl, rfl⟩
    (repeat refine Z ?_)
    refine XO_dv (dv_alloc (row := [.int .i64 0])) (hk := ?_)
    rintro _ _ ⟨nc, rfl, rfl⟩
    refine XO_dv0 (dv_store (row' := [.int .i64 (rnd p)])) (hk := ?_)
    rintro _ _ rfl
    (repeat refine Z ?_)
    refine XO_fold (by exact FAs) (Ck.fold (C := C)) ?_
    refine XO_call (ktake_spec s sb sc nc C (rnd p) h) (hk := ?_)
    rintro _ _ ⟨rfl, rfl⟩
    (repeat refine Z ?_)
    refine XO_dv0 (dv_store (row' := [.int .i64 (rnd p)])) (hk := ?_)
    rintro _ _ rfl
    (repeat refine Z ?_)
    by_cases he : (takeC C (rnd p)).2.2 = 4
    · obtain ⟨g1, g2⟩ := takeC_full he
      have hv1 : (takeC C (rnd p)).2.1 = 0 := by rw [g2]
      rw [if_pos he]
      rw [he, hv1, g1]
      refine XO_known true (hb := rfl) (hk := ?_)
      (repeat refine Z ?_)
      refine XO_call (ctrim_spec s sb C h) (hk := ?_)
      rintro _ _ ⟨rfl, rfl⟩
      (repeat refine Z ?_)
      refine X_cond rfl (fun h3 => ?_) (fun h3 => ?_) <;> simp only [decide_eq_true_eq, decide_eq_false_iff_not] at h3
      · rw [if_pos h3]
        (repeat refine Z ?_)
        refine XO_call (ktake_spec s sb sc nc (trimC C) (rnd p) (trimC_ok h)) (hk := ?_)
        rintro _ _ ⟨rfl, rfl⟩
        (repeat refine Z ?_)
        refine XE_ret (.inl rfl) (tells_tmps rfl rfl) ⟨_, ⟨rfl, rfl⟩, by exact EN⟩
      · rw [if_neg h3, g2]
        (repeat refine Z ?_)
        (repeat refine ZD ?_)
        (refine XD_one (h := ?_); refine XDa_dvA (dv_of_rv (rv_of_pv pv_assign)) (hk := ?_); rintro _ _ ⟨rfl, rfl⟩; refine ⟨by exact KP, ?_⟩)
        (refine XD_one (h := ?_); refine XDa_dvA (dv_of_rv (rv_of_pv pv_assign)) (hk := ?_); rintro _ _ ⟨rfl, rfl⟩; refine ⟨by exact KP, ?_⟩)
        (refine XD_one (h := ?_); refine XDa_dvA (dv_of_rv (rv_of_pv pv_assign)) (hk := ?_); rintro _ _ ⟨rfl, rfl⟩; refine ⟨by exact KP, ?_⟩)
        (refine XD_end (h := ?_); (repeat refine Z ?_))
        refine XE_ret (.inl rfl) (tells_tmps rfl rfl) ⟨_, ⟨rfl, rfl⟩, by exact EN⟩
    · rw [if_neg he]
      refine XO_known false (hb := by simpa using he) (hk := ?_)
      (repeat refine Z ?_)
      refine X_cond rfl (fun h => by cases h) (fun _ => ?_)
      (repeat refine Z ?_)
      (repeat refine ZD ?_)
      (refine XD_one (h := ?_); refine XDa_dvA (dv_of_rv (rv_of_pv pv_assign)) (hk := ?_); rintro _ _ ⟨rfl, rfl⟩; refine ⟨by exact KP, ?_⟩)
      (refine XD_one (h := ?_); refine XDa_dvA (dv_of_rv (rv_of_pv pv_assign)) (hk := ?_); rintro _ _ ⟨rfl, rfl⟩; refine ⟨by exact KP, ?_⟩)
      (refine XD_one (h := ?_); refine XDa_dvA (dv_of_rv (rv_of_pv pv_assign)) (hk := ?_); rintro _ _ ⟨rfl, rfl⟩; refine ⟨by exact KP, ?_⟩)
      (refine XD_end (h := ?_); (repeat refine Z ?_))
      refine XE_ret (.inl rfl) (tells_tmps rfl rfl) ⟨_, ⟨rfl, rfl⟩, by exact EN⟩
end Go.Proofs.YtamecmklcnohjaaGreat.Sep
namespace Go.Proofs.YtamecmklcnohjaaGreat.Sep
open Go.RowKit
set_option linter.unusedSimpArgs false
set_option linter.unusedVariables false
def putCE (C : Co) (r : Int × Int) : Int :=
  if cpages (cclass r.2) = r.2 ∧ 0 ≤ cclass r.2 ∧ cclass r.2 < 7 ∧ 0 ≤ r.1 ∧ (C.ks (cclass r.2).toNat).length < 4 then 0 else giveE C r
def kputM (P : Int) (m : Mm) (page : Int) : Mm := zzM (hrM P (hrM P m page) page) (page * 4096) 32
def kputV (s sb : Nat) (C : Co) (m : Mm) (page : Int) : Value → List HP → Prop :=
  if (readI C.P m.f page).2 = 0 then fun v L => v = .int .i64 (putCE C (page, (readI C.P m.f page).1.pages)) ∧ L = [Ck s sb (putC C (page, (readI C.P m.f page).1.pages)), Spc sb C.P (kputM C.P m page)]
  else fun v L => v = .int .i64 (readI C.P m.f page).2 ∧ L = [Ck s sb C, Spc sb C.P (hrM C.P m page)]
theorem readI_ok {P : Int} {m : Int → Int} {page : Int} (h : (readI P m page).2 = 0) : HdOk (readI P m page).1 := by
  have hin := readI_in h
  unfold readI at h ⊢
  rw [if_pos hin] at h ⊢
  cases hr : hdRead (rdM m (page * 4096) 32) with
  | none => rw [hr] at h; exact absurd h (by decide)
  | some hd =>
    unfold hdRead at hr
    split at hr
    · rename_i hc
      cases hr
      exact hc.2
    · cases hr
set_option maxHeartbeats 8000000
attribute [local irreducible] X XE XO XD XDi XDa PV RV DV pt base Spec Sl Mp Keeps Pg Kc Pgs Spc Ck
theorem kput_spec (s sb : Nat) (C : Co) (m : Mm) (page : Int) (h : CoOk C) : Spec Tryz.prog 167 [.pointer (some ⟨s, 0, none⟩), .int .i64 page] [Ck s sb C, Spc sb C.P m] (kputV s sb C m page) := by
  refine Spec.intro (IsEnt.out) Tryz.func167 rfl Tryz.ntmps167 (by simp) (fun w0 F => ?_)
  simp only [envOf, List.zipIdx, List.map, List.cons_append, List.nil_append, Nat.zero_add, Nat.reduceAdd]
  have hP1 := h.p1
  have hP2 := h.p2
  (repeat refine Z ?_)
  refine XO_call (kspace_spec s sb C) (hk := ?_)
  rintro _ _ ⟨rfl, rfl⟩
  (repeat refine Z ?_)
  refine XO_call (hread_spec sb C.P m page (by omega) hP2) (hk := ?_)
  rintro _ _ ⟨rfl, rfl⟩
  (repeat refine Z ?_)
  refine XO_dv (dv_alloc (row := [.int .i64 0, .int .i64 0, .int .u64 0, .int .u64 0])) (hk := ?_)
  rintro _ _ ⟨hb, rfl, rfl⟩
  refine XO_dv0 (dv_storeW (vs := [.int .i64 (readI C.P m.f page).1.pages, .int .i64 (readI C.P m.f page).1.kind, .int .u64 (readI C.P m.f page).1.owner, .int .u64 (readI C.P m.f page).1.next])) (hk := ?_)
  rintro _ _ rfl
  (repeat refine Z ?_)
  by_cases hz : (readI C.P m.f page).2 = 0
  case neg =>
    have hv : kputV s sb C m page = fun v L => v = .int .i64 (readI C.P m.f page).2 ∧ L = [Ck s sb C, Spc sb C.P (hrM C.P m page)] := by unfold kputV; rw [if_neg hz]
    rw [hv]
    refine X_cond rfl (fun _ => ?_) (fun h => ?_)
    · (repeat refine Z ?_)
      refine XE_ret (.inl rfl) (tells_tmps rfl rfl) ⟨_, ⟨rfl, rfl⟩, by exact EN⟩
    · exact absurd (by simpa using h) hz
  have hv : kputV s sb C m page = fun v L => v = .int .i64 (putCE C (page, (readI C.P m.f page).1.pages)) ∧ L = [Ck s sb (putC C (page, (readI C.P m.f page).1.pages)), Spc sb C.P (kputM C.P m page)] := by unfold kputV; rw [if_pos hz]
  have hcl := hclear_spec sb C.P (hrM C.P m page) page (by omega) hP2
  unfold clearV at hcl
  rw [show (hrM C.P m page).f = m.f from rfl] at hcl
  rw [if_pos hz] at hcl
  obtain ⟨p0, p1⟩ := readI_in hz
  have hok := readI_ok hz
  rw [hv, hz]
  generalize (readI C.P m.f page).1 = hd at hok hcl ⊢
  obtain ⟨k1, k2, k3, k4⟩ := hok
  refine X_cond rfl (fun h => by cases h) (fun _ => ?_)
  refine X_open (A := Ck s sb C) (by exact FDs) Ck.open ?_
  rintro ⟨pb, kb⟩ -
  dsimp only [List.cons_append, List.nil_append]
  (repeat refine Z ?_)
  refine XO_call hcl (hk := ?_)
  rintro _ _ ⟨rfl, rfl⟩
  (repeat refine Z ?_)
  refine X_cond rfl (fun h => by cases h) (fun _ => ?_)
  (repeat refine Z ?_)
  refine XO_call (cclass_spec hd.pages) (hk := ?_)
  rintro _ _ ⟨rfl, rfl⟩
  (repeat refine Z ?_)
  (repeat refine ZD ?_)
  refine XD_one (h := ?_)
  refine XDa_dvA (dv_call (cpages_spec (cclass hd.pages))) (hk := ?_)
  (rintro _ _ ⟨_, ⟨rfl, rfl⟩, rfl⟩; refine ⟨by exact KP, ?_⟩)
  (repeat refine ZD ?_)
  refine XDi_either (hT := fun hq => ?hT) (hF := fun hq => ?hF)
  case hF =>
    have hne : ¬ cpages (cclass hd.pages) = hd.pages := by simpa using hq
    have hput : putC C (page, hd.pages) = giveC C (page, hd.pages) := by unfold putC; rw [if_neg (fun h' => hne h'.1)]
    have hE : putCE C (page, hd.pages) = giveE C (page, hd.pages) := by unfold putCE; rw [if_neg (fun h' => hne h'.1)]
    (repeat refine ZD ?_)
    (refine XD_head (h := ?_); first | refine XDi_gF (h := ?_) | refine XDi_gU (h := ?_))
    (repeat refine ZD ?_)
    (refine XD_end (h := ?_); (repeat refine Z ?_))
    refine X_cond rfl (fun h => by cases h) (fun _ => ?_)
    (repeat refine Z ?_)
    (repeat refine ZD ?_)
    refine XD_one (h := ?_)
    refine XDa_dvA (dv_call (pgive_spec pb C.P C.t page hd.pages C.fr (rf_len' (by have := h.p1; omega) h.p2 h.right) (rf_bd h.p2 h.right) (by have := h.p1; omega) h.p2 (by omega) (by omega) (by omega) (by omega))) (hk := ?_)
    rintro v _ ⟨L', hpost, rfl⟩
    obtain ⟨rfl, rfl⟩ := give_stepT (r := (page, hd.pages)) hpost
    refine ⟨by exact KP, ?_⟩
    (repeat refine ZD ?_)
    (refine XD_one (h := ?_); refine XDa_dvA (dv_of_rv (rv_of_pv pv_assign)) (hk := ?_); rintro _ _ ⟨rfl, rfl⟩; refine ⟨by exact KP, ?_⟩)
    (refine XD_end (h := ?_); (repeat refine Z ?_))
    rw [hput, hE]
    refine XE_ret (.inl rfl) (tells_tmps rfl rfl) ⟨_, ⟨rfl, rfl⟩, ?_⟩
    (try simp only [List.cons_append, List.nil_append])
    refine ent_fold (by exact FAs) (Ck.fold (C := giveC C (page, hd.pages))) ?_
    exact EN
  have heq : cpages (cclass hd.pages) = hd.pages := by simpa using hq
  (repeat refine ZD ?_)
  refine XD_one (h := ?_)
  refine XDa_dvA (dv_call (cpush_spec kb C.ks (cclass hd.pages) page)) (hk := ?_)
  rintro v _ ⟨L', hpost, rfl⟩
  by_cases hc : 0 ≤ cclass hd.pages ∧ cclass hd.pages < 7 ∧ 0 ≤ page ∧ (C.ks (cclass hd.pages).toNat).length < 4
  · have hP : cpushP kb C.ks (cclass hd.pages) page = fun v L => v = .bool true ∧ L = [Kc kb (upd C.ks (cclass hd.pages).toNat (C.ks (cclass hd.pages).toNat ++ [page]))] := by unfold cpushP; rw [if_pos hc]
    have hput : putC C (page, hd.pages) = ⟨C.P, C.fr, upd C.ks (cclass hd.pages).toNat (C.ks (cclass hd.pages).toNat ++ [page]), C.t⟩ := by unfold putC; rw [if_pos ⟨heq, hc⟩]
    have hE : putCE C (page, hd.pages) = 0 := by unfold putCE; rw [if_pos ⟨heq, hc⟩]
    rw [hP] at hpost
    obtain ⟨rfl, rfl⟩ := hpost
    refine ⟨by exact KP, ?_⟩
    (repeat refine ZD ?_)
    (refine XD_end (h := ?_); (repeat refine Z ?_))
    refine X_cond rfl (fun _ => ?_) (fun h => by cases h)
    (repeat refine Z ?_)
    rw [hput, hE]
    refine XE_ret (.inl rfl) (tells_tmps rfl rfl) ⟨_, ⟨rfl, rfl⟩, ?_⟩
    (try simp only [List.cons_append, List.nil_append])
    refine ent_fold (by exact FAs) (Ck.fold (C := ⟨C.P, C.fr, upd C.ks (cclass hd.pages).toNat (C.ks (cclass hd.pages).toNat ++ [page]), C.t⟩)) ?_
    exact EN
  · have hP : cpushP kb C.ks (cclass hd.pages) page = fun v L => v = .bool false ∧ L = [Kc kb C.ks] := by unfold cpushP; rw [if_neg hc]
    have hput : putC C (page, hd.pages) = giveC C (page, hd.pages) := by unfold putC; rw [if_neg (fun h' => hc h'.2)]
    have hE : putCE C (page, hd.pages) = giveE C (page, hd.pages) := by unfold putCE; rw [if_neg (fun h' => hc h'.2)]
    rw [hP] at hpost
    obtain ⟨rfl, rfl⟩ := hpost
    refine ⟨by exact KP, ?_⟩
    (repeat refine ZD ?_)
    (refine XD_end (h := ?_); (repeat refine Z ?_))
    refine X_cond rfl (fun h => by cases h) (fun _ => ?_)
    (repeat refine Z ?_)
    (repeat refine ZD ?_)
    refine XD_one (h := ?_)
    refine XDa_dvA (dv_call (pgive_spec pb C.P C.t page hd.pages C.fr (rf_len' (by have := h.p1; omega) h.p2 h.right) (rf_bd h.p2 h.right) (by have := h.p1; omega) h.p2 (by omega) (by omega) (by omega) (by omega))) (hk := ?_)
    rintro v _ ⟨L', hpost, rfl⟩
    obtain ⟨rfl, rfl⟩ := give_stepT (r := (page, hd.pages)) hpost
    refine ⟨by exact KP, ?_⟩
    (repeat refine ZD ?_)
    (refine XD_one (h := ?_); refine XDa_dvA (dv_of_rv (rv_of_pv pv_assign)) (hk := ?_); rintro _ _ ⟨rfl, rfl⟩; refine ⟨by exact KP, ?_⟩)
    (refine XD_end (h := ?_); (repeat refine Z ?_))
    rw [hput, hE]
    refine XE_ret (.inl rfl) (tells_tmps rfl rfl) ⟨_, ⟨rfl, rfl⟩, ?_⟩
    (try simp only [List.cons_append, List.nil_append])
    refine ent_fold (by exact FAs) (Ck.fold (C := giveC C (page, hd.pages))) ?_
    exact EN
end Go.Proofs.YtamecmklcnohjaaGreat.Sep
namespace Go.Proofs.YtamecmklcnohjaaGreat.Sep
open Go.RowKit
set_option linter.unusedSimpArgs false
set_option linter.unusedVariables false
def outJ (b1 b2 b3 : List Int) : Nat → List Int
  | 0 => []
  | 1 => b1
  | 2 => b1 ++ b2
  | _ => b1 ++ (b2 ++ b3)
def lenJ : Nat → Int
  | 0 => 0
  | 1 => 8
  | 2 => 16
  | _ => 32
set_option maxHeartbeats 8000000
attribute [local irreducible] X XE XO XD XDi XDa PV RV DV pt base Spec Sl Mp Keeps Pgs Spc
theorem join_spec (A A1 A2 A3 : HP) (a a1 a2 a3 : Option Addr) (c c1 c2 c3 : Nat) (b1 b2 b3 : List Int) (hV : View A eSl a [(a1, 8, c1), (a2, 8, c2), (a3, 16, c3)])
    (V1 : View A1 (eI .u8) a1 b1) (V2 : View A2 (eI .u8) a2 b2) (V3 : View A3 (eI .u8) a3 b3) (h1 : b1.length = 8) (h2 : b2.length = 8) (h3 : b3.length = 16) :
    Spec Tryz.prog 184 [.slice a 3 c] [A, A1, A2, A3] (fun v L => ∃ ob, v = .slice (some ⟨ob, 0, none⟩) 32 32 ∧ L = [Sl (eI .u8) (some ⟨ob, 0, none⟩) 32 (b1 ++ (b2 ++ b3)), A, A1, A2, A3]) := by
  refine Spec.intro (IsEnt.out) Tryz.func184 rfl Tryz.ntmps184 (by simp) (fun w0 F => ?_)
  simp only [envOf, List.zipIdx, List.map, List.cons_append, List.nil_append, Nat.zero_add, Nat.reduceAdd]
  refine X_view (A := A) (by exact FDs) hV (by simp) ?_
  rintro b o rfl
  (repeat refine Z ?_)
  refine XO_dv (dv_makeSlice (E' := eI .u8) 0) (hk := ?_)
  rintro _ _ ⟨ob, rfl, rfl⟩
  (repeat refine Z ?_)
  refine X_loop (ι := Nat) (fun i => i ≤ 3) (fun i => [(3, .slice (some ⟨ob, 0, none⟩) 32 32), (4, .int .i64 (lenJ i)), (8, .slice (some ⟨b, o, none⟩) 3 c), (9, .int .i64 3), (10, .int .i64 (i : Int))]) (fun i => Sl (eI .u8) (some ⟨ob, 0, none⟩) 32 (outJ b1 b2 b3 i ++ List.replicate (32 - (lenJ i).toNat) 0) :: A :: A1 :: A2 :: A3 :: F) (fun i => 3 - i) 0 (by decide) ?_ (by exact EN) ?_
  · exact SBs
  intro i hi
  dsimp only at hi ⊢
  rcases (show i = 0 ∨ i ≠ 0 from by omega) with rfl | hne0
  · have hl : lenJ 0 = 0 := rfl
    (repeat refine Z ?_)
    refine X_cond rfl (fun _ => ?_) (fun h => absurd h (by decide))
    (repeat refine Z ?_)
    refine XO_rv (rv_velG (E' := eSl) (s := 1) (i := 0) (x' := (a1, 8, c1)) (hV := hV) (hget := rfl)) (hk := ?_)
    refine XO_reval 13 (.slice a1 8 c1) (hv := rfl) (hk := ?_)
    (repeat refine Z ?_)
    refine XO_dv (dv_copyAt (E' := eI .u8) (i := 0) (s := 1) (o := 0) (b := ob) (c := 32) (m := 8) (m1 := 32 - 0) (a2 := a1) (xs := ([] : List Int) ++ List.replicate (32 - 0) 0) (ys := b1) (A := A1)
      (hx := by show some (Value.slice (subA (some ⟨ob, 0, none⟩) 0 32 1) (32 - 0) (32 - 0)) = _; rw [subA_lt (by decide)]) (hy := rfl) (hv := V1) (hn := by rw [h1]; rfl) (hm1 := by rw [List.length_append, List.length_replicate]; simp [h1, h2, h3])) (hk := ?_)
    rintro _ _ ⟨rfl, rfl⟩
    have e : (([] : List Int) ++ List.replicate (32 - 0) 0).take 0 ++ (b1 ++ (([] : List Int) ++ List.replicate (32 - 0) 0).drop (0 + b1.length)) = b1 ++ List.replicate (32 - 8) 0 := by
      simp [cutIn, h1]
    rw [e, h1]
    (repeat refine Z ?_)
    exact X_round 1 (by decide) (by decide) (by exact SBs) (by exact EN)
  rcases (show i = 1 ∨ i ≠ 1 from by omega) with rfl | hne1
  · have hl : lenJ 1 = 8 := rfl
    (repeat refine Z ?_)
    refine X_cond rfl (fun _ => ?_) (fun h => absurd h (by decide))
    (repeat refine Z ?_)
    refine XO_rv (rv_velG (E' := eSl) (s := 1) (i := 1) (x' := (a2, 8, c2)) (hV := hV) (hget := rfl)) (hk := ?_)
    refine XO_reval 13 (.slice a2 8 c2) (hv := rfl) (hk := ?_)
    (repeat refine Z ?_)
    refine XO_dv (dv_copyAt (E' := eI .u8) (i := 8) (s := 1) (o := 0) (b := ob) (c := 32) (m := 8) (m1 := 32 - 8) (a2 := a2) (xs := b1 ++ List.replicate (32 - 8) 0) (ys := b2) (A := A2)
      (hx := by show some (Value.slice (subA (some ⟨ob, 0, none⟩) 8 32 1) (32 - 8) (32 - 8)) = _; rw [subA_lt (by decide)]) (hy := rfl) (hv := V2) (hn := by rw [h2]; rfl) (hm1 := by rw [List.length_append, List.length_replicate]; simp [h1, h2, h3])) (hk := ?_)
    rintro _ _ ⟨rfl, rfl⟩
    have e : (b1 ++ List.replicate (32 - 8) 0).take 8 ++ (b2 ++ (b1 ++ List.replicate (32 - 8) 0).drop (8 + b2.length)) = (b1 ++ b2) ++ List.replicate (32 - 16) 0 := by
      have := cut_zeros (p := b1) (q := b2) (r := 32 - 8) (by rw [h2]; decide)
      rw [show (b1).length = 8 from by simp [h1, h2, h3], h2] at this
      simpa [cutIn, h2] using this
    rw [e, h2]
    (repeat refine Z ?_)
    exact X_round 2 (by decide) (by decide) (by exact SBs) (by exact EN)
  rcases (show i = 2 ∨ i ≠ 2 from by omega) with rfl | hne2
  · have hl : lenJ 2 = 16 := rfl
    (repeat refine Z ?_)
    refine X_cond rfl (fun _ => ?_) (fun h => absurd h (by decide))
    (repeat refine Z ?_)
    refine XO_rv (rv_velG (E' := eSl) (s := 1) (i := 2) (x' := (a3, 16, c3)) (hV := hV) (hget := rfl)) (hk := ?_)
    refine XO_reval 13 (.slice a3 16 c3) (hv := rfl) (hk := ?_)
    (repeat refine Z ?_)
    refine XO_dv (dv_copyAt (E' := eI .u8) (i := 16) (s := 1) (o := 0) (b := ob) (c := 32) (m := 16) (m1 := 32 - 16) (a2 := a3) (xs := (b1 ++ b2) ++ List.replicate (32 - 16) 0) (ys := b3) (A := A3)
      (hx := by show some (Value.slice (subA (some ⟨ob, 0, none⟩) 16 32 1) (32 - 16) (32 - 16)) = _; rw [subA_lt (by decide)]) (hy := rfl) (hv := V3) (hn := by rw [h3]; rfl) (hm1 := by rw [List.length_append, List.length_replicate]; simp [h1, h2, h3])) (hk := ?_)
    rintro _ _ ⟨rfl, rfl⟩
    have e : ((b1 ++ b2) ++ List.replicate (32 - 16) 0).take 16 ++ (b3 ++ ((b1 ++ b2) ++ List.replicate (32 - 16) 0).drop (16 + b3.length)) = (b1 ++ (b2 ++ b3)) ++ List.replicate (32 - 32) 0 := by
      have := cut_zeros (p := (b1 ++ b2)) (q := b3) (r := 32 - 16) (by rw [h3]; decide)
      rw [show ((b1 ++ b2)).length = 16 from by simp [h1, h2, h3], h3] at this
      simpa [cutIn, h3] using this
    rw [e, h3]
    (repeat refine Z ?_)
    exact X_round 3 (by decide) (by decide) (by exact SBs) (by exact EN)
  obtain rfl : i = 3 := by omega
  (repeat refine Z ?_)
  refine X_cond rfl (fun h => absurd h (by decide)) (fun _ => ?_)
  (repeat refine Z ?_)
  refine XE_ret (.inl rfl) (tells_tmps rfl rfl) ⟨_, ⟨ob, rfl, rfl⟩, ?_⟩
  rw [show outJ b1 b2 b3 3 ++ List.replicate (32 - (lenJ 3).toNat) 0 = b1 ++ (b2 ++ b3) from by simp [outJ, lenJ]]
  exact EN
end Go.Proofs.YtamecmklcnohjaaGreat.Sep
namespace Go.Proofs.YtamecmklcnohjaaGreat.Sep
open Go.RowKit
set_option linter.unusedSimpArgs false
set_option linter.unusedVariables false
set_option linter.unusedSectionVars false
section
variable {P : Program} {w0 : World} {n : Nat} {Q : Exit → Act → World → Prop} {ops : Array Oper} {k : List KI} {D : Pend} {vl : List Nat} {e : Env} {L R : List HP} {i d : Nat} {ty : TypeId} {pos : String} {aft : Array Edge} {v : Value}
def XAny (C : Cx) (ops : Array Oper) (k : List KI) (D : Pend) (vl : List Nat) (e : Env) (L : List HP) : List Nat → Prop
  | [] => True
  | i :: l => (∃ o, ops[i]? = some o ∧ XDa C ops k D vl e L i o) ∧ XAny C ops k D vl e L l
theorem xany_mem {C : Cx} : ∀ {l : List Nat}, XAny C ops k D vl e L l → ∀ x ∈ l, ∃ o, ops[x]? = some o ∧ XDa C ops k D vl e L x o
  | i :: l, h, x, hx => by
    rcases List.mem_cons.1 hx with rfl | hx
    · exact h.1
    · exact xany_mem h.2 x hx
theorem XD_any {C : Cx} (rs : List Nat) (hr : readyV ops vl = rs) (hne : rs ≠ []) (h : XAny C ops k D vl e L rs) : XD C ops k D vl e L := by
  intro G
  have hc : ∀ x ∈ readyV ops vl, vl.contains x = false := fun x hx => by simpa using (mem_readyV.1 hx).1
  refine XD_act (fun x hx => ?_) (fun h0 => absurd (hr.symm.trans h0) hne) G
  obtain ⟨o, ho, ha⟩ := xany_mem h x (by rw [← hr]; exact hx)
  exact ha G (hc x hx) ho
theorem XD_three {C : Cx} {j l : Nat} {o o' o2 : Oper} (hr : readyV ops vl = [i, j, l] := by rfl) (ho : ops[i]? = some o := by rfl) (ho' : ops[j]? = some o' := by rfl) (ho2 : ops[l]? = some o2 := by rfl) (h : XDa C ops k D vl e L i o) (h' : XDa C ops k D vl e L j o') (h2 : XDa C ops k D vl e L l o2) : XD C ops k D vl e L :=
  XD_any _ hr (by simp) ⟨⟨_, ho, h⟩, ⟨_, ho', h'⟩, ⟨_, ho2, h2⟩, trivial⟩
theorem XD_four {C : Cx} {j l m : Nat} {o o' o2 o3 : Oper} (hr : readyV ops vl = [i, j, l, m] := by rfl) (ho : ops[i]? = some o := by rfl) (ho' : ops[j]? = some o' := by rfl) (ho2 : ops[l]? = some o2 := by rfl) (ho3 : ops[m]? = some o3 := by rfl) (h : XDa C ops k D vl e L i o) (h' : XDa C ops k D vl e L j o') (h2 : XDa C ops k D vl e L l o2) (h3 : XDa C ops k D vl e L m o3) : XD C ops k D vl e L :=
  XD_any _ hr (by simp) ⟨⟨_, ho, h⟩, ⟨_, ho', h'⟩, ⟨_, ho2, h2⟩, ⟨_, ho3, h3⟩, trivial⟩
theorem XD_perm {C : Cx} {D' : Pend} {vl' : List Nat} {e' : Env} {L' : List HP} (h : XD C ops k D' vl' e' L') (hv : ∀ x, x ∈ vl ↔ x ∈ vl') (he1 : ∀ t u, e'.get t = some u → e.get t = some u) (he2 : ∀ t u, e.get t = some u → e'.get t = some u)
    (hD1 : ∀ p ∈ D, p ∈ D') (hD2 : ∀ p ∈ D', p ∈ D) (hL1 : ∀ H, SL L H → SL L' H) (hL2 : ∀ H, SL L' H → SL L H) : XD C ops k D vl e L := by
  intro G fuel al tm w hS hs
  have hge : ∀ t, e'.get t = e.get t := fun t => by
    cases h1 : e'.get t with
    | some u => rw [he1 t u h1]
    | none => cases h2 : e.get t with
      | none => rfl
      | some u => rw [he2 t u h2] at h1; cases h1
  refine h ⟨G.wf, fun p hp => ?_, fun p hp o d ho hd => ?_, fun p hp => (hv _).1 (G.has p (hD2 p hp)), fun p hp => G.slot p (hD2 p hp), fun p hp q hq => G.nowar p (hD2 p hp) q (hD2 q hq), fun j hj o ho ed hed hb => (hv _).1 (G.closed j ((hv _).2 hj) o ho ed hed hb)⟩ fuel al tm w ⟨hS.size, hS.n, hS.count, fun j hj => (hv _).1 (hS.sub j hj), hS.done, fun j hj ha => ?_, fun t u ht => ?_⟩ (hs.map hL1)
  · intro o ho tm w ha hsat
    exact G.yields p (hD2 p hp) o ho tm w (restr_ext (fun t _ => hge t) ha) (fun hb => (hsat hb).map hL2)
  · rw [hge]; exact G.bound p (hD2 p hp) o d ho hd
  · obtain ⟨p, hp, e1⟩ := hS.over j ((hv _).2 hj) ha
    exact ⟨p, hD1 p hp, e1⟩
  · rcases hS.agree t u (he1 t u ht) with h1 | ⟨p, hp, h2⟩
    · exact .inl h1
    · exact .inr ⟨p, hD1 p hp, h2⟩
theorem XD_perm2 {C : Cx} {D' : Pend} {vl' : List Nat} {e' : Env} {L' : List HP} (h : XD C ops k D' vl' e' L') (hv : (vl.all (fun x => vl'.contains x) && vl'.all (fun x => vl.contains x)) = true := by kernel_rfl) (hD : D = D' := by kernel_rfl)
    (he1 : Env.sub e' e := by repeat (first | exact Env.sub_nil _ | refine Env.sub_cons rfl ?_)) (he2 : Env.sub e e' := by repeat (first | exact Env.sub_nil _ | refine Env.sub_cons rfl ?_)) (hL1 : ∀ H, SL L H → SL L' H := by exact EN) (hL2 : ∀ H, SL L' H → SL L H := by exact EN) : XD C ops k D vl e L := by
  subst hD
  rw [Bool.and_eq_true, List.all_eq_true, List.all_eq_true] at hv
  exact XD_perm h (fun x => ⟨fun hx => by simpa using hv.1 x hx, fun hx => by simpa using hv.2 x hx⟩) he1 he2 (fun p hp => hp) (fun p hp => hp) hL1 hL2
theorem findAll_there {L As R : List HP} {B : HP} (h : FindAll L As R) : FindAll (B :: L) As (B :: R) := by
  induction h with
  | nil => exact .nil
  | cons hf _ ih => exact .cons (.there hf) ih
theorem find_app (A : HP) : ∀ L R : List HP, Find (L ++ A :: R) A (L ++ R)
  | [], R => .here
  | B :: L, R => .there (find_app A L R)
def XL (C : Cx) (ops : Array Oper) (k : List KI) (i d : Nat) (A : Nat → HP) (D : Pend) (vl : List Nat) (e : Env) (L : List HP) : Prop :=
  XD C ops k D vl e L ∧ ∀ b, XD C ops k D (i :: vl) ((d, .pointer (some ⟨b, 0, none⟩)) :: e) (A b :: L)
theorem XL_start {C : Cx} (i d : Nat) (A : Nat → HP) (h : XL C ops k i d A D vl e L) : XD C ops k D vl e L := h.1
theorem getE_ne {t d : Nat} {v : Value} (h : t ≠ d) : Env.get ((d, v) :: e) t = e.get t := by
  have : (t == d) = false := by simpa using h
  simp [Env.get, List.lookup, this]
theorem getE_swap {d d' : Nat} {v v' : Value} (h : d' ≠ d) (t : Nat) : Env.get ((d', v') :: (d, v) :: e) t = Env.get ((d, v) :: (d', v') :: e) t := by
  by_cases e1 : t = d'
  · subst e1; rw [getE_ne h]; simp [Env.get, List.lookup]
  · rw [getE_ne e1]
    by_cases e2 : t = d
    · subst e2; simp [Env.get, List.lookup]
    · rw [getE_ne e2, getE_ne e2, getE_ne e1]
theorem depsIn_mono {o : Oper} {x : Nat} (h : depsIn o vl = true) : depsIn o (x :: vl) = true := by
  unfold depsIn at h ⊢
  rw [List.all_eq_true] at h ⊢
  intro ed hed
  have := h ed hed
  simp only [Bool.or_eq_true, List.contains_iff_mem, List.mem_cons] at this ⊢
  rcases this with h | h
  · exact .inl h
  · exact .inr (.inr h)
theorem agree_new {ts : List Nat} {d : Nat} {v : Value} {tm : Array Value} (h : ts.contains d = false) (ha : Agree (restr ((d, v) :: e) ts) tm) : Agree (restr e ts) tm :=
  restr_ext (fun t ht => getE_ne (by rintro rfl; rw [h] at ht; cases ht)) ha
theorem XL_read {C : Cx} {A : Nat → HP} {j dj : Nat} {b : Bool} {o : Oper} (ho : ops[j]? = some o) (hd : o.dst = some dj) (hi : vl.contains j = false) (hij : (j == i) = false) (hdd : (dj == d) = false) (hr : depsIn o vl = true) (hl : (o.looksAt ops).contains dj = false) (hld : (o.looksAt ops).contains d = false)
    (hdis : (D.all fun p => match ops[p.1]? with | some oj => !(oj.looksAt ops).contains dj | none => true) = true) (hdn : dj < C.n) (hv : ∀ tm w, Agree (restr e (o.looksAt ops)) tm → (b = false → Sat C.w0 w L) → YieldsAt C.P ops w o v ⟨tm, []⟩)
    (h : XL C ops k i d A ((j, v, b) :: D) (j :: vl) ((dj, v) :: e) L) : XL C ops k i d A D vl e L := by
  have hij' : j ≠ i := by simpa using hij
  have hdd' : dj ≠ d := by simpa using hdd
  refine ⟨XD_read ho hd hi hr hl hdis hdn hv h.1, fun b' => ?_⟩
  refine XD_read ho hd ?_ (depsIn_mono hr) hl hdis hdn (fun tm w ha hs => hv tm w (agree_new hld ha) fun hb => (hs hb).drop) ?_
  · simp only [List.contains_eq_mem, decide_eq_false_iff_not, List.mem_cons, not_or] at hi ⊢
    exact ⟨hij', hi⟩
  · refine XD_perm (h.2 b') (fun x => ?_) (fun t u ht => ?_) (fun t u ht => ?_) (fun p hp => hp) (fun p hp => hp) (fun _ h => h) (fun _ h => h)
    · simp only [List.mem_cons]; constructor <;> (rintro (h | h | h) <;> simp [h])
    · rw [getE_swap hdd']; exact ht
    · rw [← getE_swap hdd']; exact ht
def XLi (C : Cx) (ops : Array Oper) (k : List KI) (i d : Nat) (A : Nat → HP) (D : Pend) (vl : List Nat) (e : Env) (L : List HP) (j : Nat) (o : Oper) : Prop :=
  ops[j]? = some o → vl.contains j = false → depsIn o vl = true → XL C ops k i d A D vl e L
theorem XL_pick {C : Cx} {A : Nat → HP} {j : Nat} {o : Oper} (h : XLi C ops k i d A D vl e L j o) (hi : pickR ops vl = some j := by rfl) (ho : ops[j]? = some o := by rfl) : XL C ops k i d A D vl e L := by
  have h1 := List.find?_some hi
  simp only [ho, Bool.and_eq_true, Bool.not_eq_true'] at h1
  exact h ho h1.1 h1.2.2
theorem Lq {op : Op} {A : Nat → HP} {j dj : Nat} {g : Option (Nat × Bool)} (h : XL ⟨P, w0, n, Q⟩ ops k i d A ((j, v, true) :: D) (j :: vl) ((dj, v) :: e) L) (hv : PV P op ty (restr e (Oper.looksAt ops ⟨some dj, op, ty, pos, aft, g⟩)) v := by first | exact pv_move | exact pv_assign | exact pv_field | exact pv_nil_ptr | exact pv_cmp | exact pv_arith | exact pv_extractL | exact pv_extract | exact pv_len_slice | exact pv_index | exact pv_not | exact pv_pickT | exact pv_pickF | exact pv_conv_int | exact pv_build | exact pv_eqb | exact pv_neb | exact pv_eqnil | exact pv_nenil | exact pv_max | exact pv_min | exact pv_bits | exact pv_shr12 | exact pv_shl12 | exact pv_quo | exact pv_rem)
    (hg : GOK ops e g := by first | exact True.intro | exact ⟨_, rfl, rfl⟩) (hij : (j == i) = false := by rfl) (hdd : (dj == d) = false := by rfl)
    (hl : (Oper.looksAt ops ⟨some dj, op, ty, pos, aft, g⟩).contains dj = false := by kernel_rfl) (hld : (Oper.looksAt ops ⟨some dj, op, ty, pos, aft, g⟩).contains d = false := by kernel_rfl) (hdis : (D.all fun p => match ops[p.1]? with | some oj => !(oj.looksAt ops).contains dj | none => true) = true := by kernel_rfl) (hdn : dj < n := by exact Nat.le_of_ble_eq_true rfl) : XLi ⟨P, w0, n, Q⟩ ops k i d A D vl e L j ⟨some dj, op, ty, pos, aft, g⟩ :=
  fun ho hi hr => XL_read ho rfl hi hij hdd hr hl hld hdis hdn (fun tm w ha _ => .inl ⟨gok_wanted hg ha, .inl (hv tm w pos aft ha)⟩) h
theorem Ls {op : Op} {A : Nat → HP} {j dj : Nat} {g : Option (Nat × Bool)} (h : XL ⟨P, w0, n, Q⟩ ops k i d A ((j, v, false) :: D) (j :: vl) ((dj, v) :: e) L) (hv : RV P w0 op ty (restr e (Oper.looksAt ops ⟨some dj, op, ty, pos, aft, g⟩)) L v := by first | exact rv_load | exact rv_loadW | exact rv_loadS | exact rv_vA | exact rv_vA0 | exact rv_sA | exact rv_sA0 | exact rv_veA | exact rv_seA)
    (hg : GOK ops e g := by first | exact True.intro | exact ⟨_, rfl, rfl⟩) (hij : (j == i) = false := by rfl) (hdd : (dj == d) = false := by rfl)
    (hl : (Oper.looksAt ops ⟨some dj, op, ty, pos, aft, g⟩).contains dj = false := by kernel_rfl) (hld : (Oper.looksAt ops ⟨some dj, op, ty, pos, aft, g⟩).contains d = false := by kernel_rfl) (hdis : (D.all fun p => match ops[p.1]? with | some oj => !(oj.looksAt ops).contains dj | none => true) = true := by kernel_rfl) (hdn : dj < n := by exact Nat.le_of_ble_eq_true rfl) : XLi ⟨P, w0, n, Q⟩ ops k i d A D vl e L j ⟨some dj, op, ty, pos, aft, g⟩ :=
  fun ho hi hr => XL_read ho rfl hi hij hdd hr hl hld hdis hdn (fun tm w ha hs => .inl ⟨gok_wanted hg ha, .inl (hv tm w pos aft ha (hs rfl))⟩) h
theorem XL_end {T tyi : TypeId} {posi : String} {afti : Array Edge} {s by' : Nat} {z : Value} {row : List Value} (h : ∀ b, XD ⟨P, w0, n, Q⟩ ops k D (i :: vl) ((d, .pointer (some ⟨b, 0, none⟩)) :: e) (pt b (.cells row.toArray T (0, 0)) :: L)) (hr : readyV ops vl = [i] := by rfl) (ho : ops[i]? = some ⟨some d, .alloc T, tyi, posi, afti, none⟩ := by rfl) [hi : TI P T z s by'] (hz : z.cells = row.toArray := by rfl) (hdn : d < n := by exact Nat.le_of_ble_eq_true rfl)
    (hw : (D.all fun p => !waits ops afti p.1) = true := by kernel_rfl) (hld : (D.all fun p => match ops[p.1]? with | some oj => !(oj.looksAt ops).contains d | none => true) = true := by kernel_rfl) : XL ⟨P, w0, n, Q⟩ ops k i d (fun b => pt b (.cells row.toArray T (0, 0))) D vl e L := by
  refine ⟨?_, h⟩
  have hD : D.filter (fun p => !waits ops afti p.1) = D := List.filter_eq_self.2 (fun p hp => List.all_eq_true.1 hw p hp)
  refine XD_one hr ho (fun G hvl hoi => ?_)
  refine acts_gen (Φ := fun u L' => ∃ b, u = .pointer (some ⟨b, 0, none⟩) ∧ L' = pt b (.cells row.toArray T (0, 0)) :: L) (fun _ _ => rfl) (dv_alloc hz) (fun x hx => by cases hx; exact hdn) (fun v L' hΦ => ?_) G hvl hoi
  obtain ⟨b, rfl, rfl⟩ := hΦ
  refine ⟨fun p hp o hop tm w ha hs => ?_, by rw [hD]; exact h b⟩
  have hpD := (List.mem_filter.1 hp).1
  have hlk := List.all_eq_true.1 hld p hpD
  simp only [hop, Bool.not_eq_true'] at hlk
  exact G.yields p hpD o hop tm w (agree_new hlk ha) (fun hb => (hs hb).drop)
theorem XL_gen {T tyi : TypeId} {posi : String} {afti : Array Edge} {s by' : Nat} {z : Value} {row : List Value} {j dj : Nat} {op : Op} {g : Option (Nat × Bool)} {Φ : Value → List HP → Prop} {Φ' : Nat → Value → List HP → Prop}
    (ho : ops[i]? = some ⟨some d, .alloc T, tyi, posi, afti, none⟩) (hi : TI P T z s by') (hz : z.cells = row.toArray) (hdn : d < n)
    (hw : (D.all fun p => !waits ops afti p.1) = true) (hld : (D.all fun p => match ops[p.1]? with | some oj => !(oj.looksAt ops).contains d | none => true) = true)
    (hoj : ops[j]? = some ⟨some dj, op, ty, pos, aft, g⟩) (hdjn : dj < n) (hdd : (dj == d) = false) (hljd : (Oper.looksAt ops ⟨some dj, op, ty, pos, aft, g⟩).contains d = false)
    (hr1 : (readyV ops vl).all (fun x => x == j || x == i) = true) (hr1' : (readyV ops vl).isEmpty = false) (hr2 : readyV ops (i :: vl) = [j]) (hg : GOK ops e g)
    (hv : DV P w0 op ty (restr e (Oper.looksAt ops ⟨some dj, op, ty, pos, aft, g⟩)) L Φ) (hv' : ∀ b, DV P w0 op ty (restr e (Oper.looksAt ops ⟨some dj, op, ty, pos, aft, g⟩)) (pt b (.cells row.toArray T (0, 0)) :: L) (Φ' b))
    (hrel : ∀ b v L2, Φ' b v L2 → ∃ L1, Φ v L1 ∧ (∀ H, SL L2 H → SL (pt b (.cells row.toArray T (0, 0)) :: L1) H) ∧ ∀ H, SL (pt b (.cells row.toArray T (0, 0)) :: L1) H → SL L2 H)
    (hk : ∀ v L', Φ v L' → Keeps ⟨P, w0, n, Q⟩ ops ((dj, v) :: e) L' (D.filter fun p => !p.2.2 && !waits ops aft p.1) ∧ XL ⟨P, w0, n, Q⟩ ops k i d (fun b => pt b (.cells row.toArray T (0, 0))) (D.filter fun p => !waits ops aft p.1) (j :: vl) ((dj, v) :: e) L') :
    XL ⟨P, w0, n, Q⟩ ops k i d (fun b => pt b (.cells row.toArray T (0, 0))) D vl e L := by
  have hdd' : dj ≠ d := by simpa using hdd
  have hD : D.filter (fun p => !waits ops afti p.1) = D := List.filter_eq_self.2 (fun p hp => List.all_eq_true.1 hw p hp)
  have hlk : ∀ p ∈ D, ∀ o, ops[p.1]? = some o → (o.looksAt ops).contains d = false := fun p hp o hop => by
    have := List.all_eq_true.1 hld p hp
    simpa only [hop, Bool.not_eq_true'] using this
  have S2 : ∀ b, XD ⟨P, w0, n, Q⟩ ops k D (i :: vl) ((d, .pointer (some ⟨b, 0, none⟩)) :: e) (pt b (.cells row.toArray T (0, 0)) :: L) := fun b => by
    refine XD_one hr2 hoj (fun G hvl hoj' => ?_)
    refine acts_gen (Φ := Φ' b) (fun tm ha => gok_wanted hg (agree_new hljd ha)) (fun tm w pos aft' dd K Q' ha hs hK => hv' b tm w pos aft' dd K Q' (agree_new hljd ha) hs hK) (fun x hx => by cases hx; exact hdjn) (fun v L2 hΦ => ?_) G hvl hoj'
    obtain ⟨L1, h1, h2, h3⟩ := hrel b v L2 hΦ
    obtain ⟨k1, k2⟩ := hk v L1 h1
    refine ⟨fun p hp o hop tm w ha hs => ?_, ?_⟩
    · refine k1 p hp o hop tm w ?_ (fun hb => ((hs hb).map h2).drop)
      refine agree_new (d := d) (v := .pointer (some ⟨b, 0, none⟩)) (hlk p (List.mem_filter.1 hp).1 o hop) (restr_ext (fun t _ => ?_) ha)
      exact getE_swap hdd' t
    · refine XD_perm (k2.2 b) (fun x => ?_) (fun t u ht => ?_) (fun t u ht => ?_) (fun p hp => hp) (fun p hp => hp) h2 h3
      · simp only [List.mem_cons]; constructor <;> (rintro (h | h | h) <;> simp [h])
      · show Env.get ((dj, v) :: (d, .pointer (some ⟨b, 0, none⟩)) :: e) t = _; rw [getE_swap hdd']; exact ht
      · have ht' : Env.get ((dj, v) :: (d, .pointer (some ⟨b, 0, none⟩)) :: e) t = some u := ht
        rw [getE_swap hdd'] at ht'; exact ht'
  refine ⟨?_, S2⟩
  intro G
  have hc : ∀ x ∈ readyV ops vl, vl.contains x = false := fun x hx => by simpa using (mem_readyV.1 hx).1
  refine XD_act (fun x hx => ?_) (fun h0 => by rw [h0] at hr1'; simp at hr1') G
  have hxx := List.all_eq_true.1 hr1 x hx
  simp only [Bool.or_eq_true, beq_iff_eq] at hxx
  rcases hxx with rfl | rfl
  · refine acts_gen (Φ := Φ) (fun tm ha => gok_wanted hg ha) hv (fun x hx => by cases hx; exact hdjn) (fun v L1 hΦ => ?_) G (hc _ hx) hoj
    obtain ⟨k1, k2⟩ := hk v L1 hΦ
    exact ⟨k1, k2.1⟩
  · refine acts_gen (Φ := fun u L' => ∃ b, u = .pointer (some ⟨b, 0, none⟩) ∧ L' = pt b (.cells row.toArray T (0, 0)) :: L) (fun _ _ => rfl) (dv_alloc hz) (fun x hx => by cases hx; exact hdn) (fun v L' hΦ => ?_) G (hc _ hx) ho
    obtain ⟨b, rfl, rfl⟩ := hΦ
    refine ⟨fun p hp o hop tm w ha hs => ?_, by rw [hD]; exact S2 b⟩
    have hpD := (List.mem_filter.1 hp).1
    exact G.yields p hpD o hop tm w (agree_new (hlk p hpD o hop) ha) (fun hb => (hs hb).drop)
theorem XL_call {T tyi : TypeId} {posi : String} {afti : Array Edge} {s by' : Nat} {z : Value} {row : List Value} {j dj : Nat} {g : Option (Nat × Bool)} {f : Operand} {asg : Array Operand} {ts : Array TypeId} {fn : FuncId} {fst cap : Array Value} {vs args : List Value} {pre : List HP} {post : Value → List HP → Prop}
    (hs : Spec P fn args pre post) (hk : ∀ v L1, post v L1 → Keeps ⟨P, w0, n, Q⟩ ops ((dj, v) :: e) (L1 ++ R) (D.filter fun p => !p.2.2 && !waits ops aft p.1) ∧ XL ⟨P, w0, n, Q⟩ ops k i d (fun b => pt b (.cells row.toArray T (0, 0))) (D.filter fun p => !waits ops aft p.1) (j :: vl) ((dj, v) :: e) (L1 ++ R))
    (hr2 : readyV ops (i :: vl) = [j] := by rfl) (hoj : ops[j]? = some ⟨some dj, .call ⟨.value f, asg, ts⟩, ty, pos, aft, g⟩ := by rfl) (ho : ops[i]? = some ⟨some d, .alloc T, tyi, posi, afti, none⟩ := by rfl) [hi : TI P T z s by'] (hz : z.cells = row.toArray := by rfl) (hdn : d < n := by exact Nat.le_of_ble_eq_true rfl)
    (hw : (D.all fun p => !waits ops afti p.1) = true := by kernel_rfl) (hld : (D.all fun p => match ops[p.1]? with | some oj => !(oj.looksAt ops).contains d | none => true) = true := by kernel_rfl) (hdjn : dj < n := by exact Nat.le_of_ble_eq_true rfl) (hdd : (dj == d) = false := by rfl) (hljd : (Oper.looksAt ops ⟨some dj, .call ⟨.value f, asg, ts⟩, ty, pos, aft, g⟩).contains d = false := by kernel_rfl)
    (hr1 : (readyV ops vl).all (fun x => x == j || x == i) = true := by kernel_rfl) (hr1' : (readyV ops vl).isEmpty = false := by kernel_rfl) (hgk : GOK ops e g := by first | exact True.intro | exact ⟨_, rfl, rfl⟩)
    (hg : ev (restr e (Oper.looksAt ops ⟨some dj, .call ⟨.value f, asg, ts⟩, ty, pos, aft, g⟩)) f = some (.func (.func fn) fst cap) := by rfl) (has : evl (restr e (Oper.looksAt ops ⟨some dj, .call ⟨.value f, asg, ts⟩, ty, pos, aft, g⟩)) asg.toList = some vs := by rfl) (hargs : fst.toList ++ vs ++ cap.toList = args := by rfl) (hf : FindAll L pre R := by repeat (first | exact FindAll.nil | exact Find.here | apply Find.there | apply FindAll.cons)) :
    XL ⟨P, w0, n, Q⟩ ops k i d (fun b => pt b (.cells row.toArray T (0, 0))) D vl e L := by
  refine XL_gen (Φ := fun v L' => ∃ L1, post v L1 ∧ L' = L1 ++ R) (Φ' := fun b v L' => ∃ L1, post v L1 ∧ L' = L1 ++ (pt b (.cells row.toArray T (0, 0)) :: R)) ho hi hz hdn hw hld hoj hdjn hdd hljd hr1 hr1' hr2 hgk (dv_call hs hg has hargs hf) (fun b => dv_call hs hg has hargs (findAll_there hf)) (fun b v L2 ⟨L1, h1, h2⟩ => ⟨L1 ++ R, ⟨L1, h1, rfl⟩, ?_, ?_⟩) (fun v L' ⟨L1, h1, h2⟩ => by subst h2; exact hk v L1 h1)
  · subst h2; exact fun _ => (find_app _ L1 R).fwd
  · subst h2; exact fun _ => (find_app _ L1 R).bwd
theorem dv_put1 {α : Type} {E' : E α} {T by' : Nat} {x y : Operand} {b o oo c : Nat} {xs : List α} {v : Value} {z : Value} (i : Nat) (x' : α) [hti : TI P T z 1 by'] (hx : ev e x = some (.pointer (some ⟨b, oo, none⟩)) := by rfl) (hf : Find L (Sl E' (some ⟨b, o, none⟩) c xs) R := by repeat (first | exact Find.here | apply Find.there)) (hy : ev e y = some v := by rfl)
    (ho : oo = o + i * E'.sz := by rfl) (hl : i < xs.length := by omega) (hc : E'.cells x' = [v] := by rfl) (h1 : v.oneCell' = true := by rfl) (hs1 : E'.sz = 1 := by rfl) : DV P w0 (.store T x y) ty e L (fun _ L' => L' = Sl E' (some ⟨b, o, none⟩) c (xs.set i x') :: R) := by
  subst ho
  have hvc : v.cells.toList = [v] := by cases v <;> first | rfl | (simp [Value.oneCell'] at h1)
  refine dv_putEl (f := 0) (vs := [v]) x' hf hx hy hvc (fun u hu => by simp at hu; subst hu; exact h1) rfl rfl hl (by rw [hs1]; exact Nat.le_refl 1) ?_
  have := E'.len xs[i]
  rw [hs1] at this
  obtain ⟨u, hu⟩ := List.length_eq_one_iff.1 this
  rw [hc, hu]; rfl
theorem run_slice_hm {w : World} (t : TypeId) (a : Option Addr) (len cap : Nat) (ht : P.underlying t = some (.slice (P.elem t))) (kh km : IntKind) (h m : Int) (h0 : 0 ≤ h) (h1 : h ≤ m) (h2 : m ≤ cap) :
    (Instr.slice t (.slice a len cap) none (some (.int kh h)) (some (.int km m))).run P w = ((sizeOf (P.elem t)).run P w).andThen fun s w => .ok (sliced a 0 h.toNat m.toNat s) w := by
  have em : (m.toNat : Int) = m := Int.toNat_of_nonneg (by omega)
  simp [Instr.slice, run_underlying ht, Instr.sliceBounds, run_sliceBound, sliced, *, em, (by omega : 0 ≤ h), (by omega : 0 ≤ m)]
theorem pv_sliceHM {T el s by' : Nat} {x hi mx : Operand} {z : Value} {a : Option Addr} {len cap : Nat} {kh km : IntKind} {h m : Int} [hu : TU P T (.slice el)] [hti : TI P el z s by'] (hx : ev e x = some (.slice a len cap) := by rfl) (hh : ev e hi = some (.int kh h) := by rfl) (hm : ev e mx = some (.int km m) := by rfl)
    (h0 : 0 ≤ h := by omega) (h1 : h ≤ m := by omega) (h2 : m ≤ (cap : Int) := by omega) : PV P (.slice T x none (some hi) (some mx)) ty e (.slice a h.toNat m.toNat) := fun tm w pos aft ha => by
  have hel : P.elem T = el := by unfold Program.elem; rw [hu.out]
  have hr1 := run_sliceAt_slice (P := P) (w := w) T (.slice a len cap) none (some (.int kh h)) (some (.int km m)) (by rw [hel]; exact hu.out)
  have hr2 := run_slice_hm (P := P) (w := w) T a len cap (by rw [hel]; exact hu.out) kh km h m h0 h1 h2
  have hsz : (sizeOf (P.elem T)).run P w = .ok s w := by rw [hel]; exact run_size hti
  have : sliced a 0 h.toNat m.toNat s = .slice a h.toNat m.toNat := by
    unfold sliced
    cases a <;> simp [Addr.add]
  simp [execOp, ev_sound ha hx, ev_sound ha hh, ev_sound ha hm, hr1, hr2, hsz, this]
end
end Go.Proofs.YtamecmklcnohjaaGreat.Sep
namespace Go.Proofs.YtamecmklcnohjaaGreat.Sep
open Go.RowKit
set_option linter.unusedSimpArgs false
set_option linter.unusedVariables false
set_option linter.unusedSectionVars false
section
variable {P : Program} {w0 : World} {n : Nat} {Q : Exit → Act → World → Prop} {ops : Array Oper} {k : List KI} {D : Pend} {vl : List Nat} {e : Env} {L R : List HP} {i d : Nat} {ty : TypeId} {pos : String} {aft : Array Edge} {v : Value}
theorem dv_convSl {T el : TypeId} {x : Operand} {b m c : Nat} {bs : List Int} [hu : TU P T (.slice el)] [he : TU P el (.int .u8)] (hx : ev e x = some (.slice (some ⟨b, 0, none⟩) m c) := by rfl)
    (hf : Find L (Sl (eI .u8) (some ⟨b, 0, none⟩) c bs) R := by repeat (first | exact Find.here | apply Find.there)) : DV P w0 (.convert T T x) ty e L (fun v L' => v = .slice (some ⟨b, 0, none⟩) m c ∧ L' = Frz b bs :: R) := dv_of_run fun tm w pos aft h2 h3 => by
  have h3' := h3.find hf
  obtain ⟨H0, hA0, hle0⟩ := h3'.atom
  obtain ⟨hc, hsp, row, T', hrow, pre, post, hr, hp, hq⟩ := hA0
  simp only at hp hrow
  have hrw := hle0 _ _ hrow
  have hsh : w.shape? b = some (T', row.size) := by unfold World.shape?; rw [hrw]
  have hat : (w.freeze ⟨b, row.size, none⟩ 1).heap[b]? = some (.cells row T' (row.size, row.size + 1)) := by
    unfold World.freeze
    rw [if_neg (by decide)]
    simp only [Array.getElem?_modify, hrw, if_true, Option.map_some]
    rfl
  have hne : ∀ k, k ≠ b → (w.freeze ⟨b, row.size, none⟩ 1).heap[k]? = w.heap[k]? := fun k hk => by
    unfold World.freeze
    rw [if_neg (by decide)]
    simp only [Array.getElem?_modify, if_neg (Ne.symm hk)]
  refine ⟨.slice (some ⟨b, 0, none⟩) m c, w.freeze ⟨b, row.size, none⟩ 1, Frz b bs :: R, by simp [execOp, ev_sound h2 hx, convert, run_und hu.out, run_und he.out, markStringish, hsh], ⟨rfl, rfl⟩, ?_⟩
  refine Sat.turn1 (b := b) (o' := .cells row T' (row.size, row.size + 1)) h3' (fun H hH => ?_) rfl rfl rfl hat hne (fun H hH => ?_)
  · obtain ⟨_, _, row, T, hb, _⟩ := hH
    rw [hb]; simp
  · refine ⟨row, T', (row.size, row.size + 1), by simp, fun j v hj => ?_⟩
    have hpre : pre = [] := List.eq_nil_of_length_eq_zero hp
    have hlt : j < (flat (eI .u8) bs).length := (List.getElem?_eq_some_iff.1 hj).1
    rw [← Array.getElem?_toList, hr, hpre, List.nil_append, List.getElem?_append_left hlt]
    exact hj
theorem XD_cut5 {C : Cx} (Dn : Pend) (vn : List Nat) (en : Nat → Nat → Nat → Nat → Nat → Env) (Ln : Nat → Nat → Nat → Nat → Nat → List HP) (h1 : ∀ b1 b2 b3 b4 b5, XD C ops k Dn vn (en b1 b2 b3 b4 b5) (Ln b1 b2 b3 b4 b5))
    (h2 : (∀ b1 b2 b3 b4 b5, XD C ops k Dn vn (en b1 b2 b3 b4 b5) (Ln b1 b2 b3 b4 b5)) → XD C ops k D vl e L) : XD C ops k D vl e L := h2 h1
end
set_option maxHeartbeats 8000000
attribute [local irreducible] X XE XO XD XDi XDa PV RV DV pt base Spec Sl Mp Keeps Pgs Spc
end Go.Proofs.YtamecmklcnohjaaGreat.Sep
