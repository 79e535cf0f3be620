import Derived.Test.YteobjankkcdaoaaFree
import Derived.Test.YteobjankkcdaoaaPagerun
import Derived.Test.YteobjankkcdaoaaCacheB
namespace Go.Proofs.Yteobjankkcdaoaa.Sep
open Go.RowKit
set_option linter.unusedSimpArgs false
set_option linter.unusedVariables false
/-! pages, what is free, what is kept: what is computed -/
structure Co where
  P : Int
  fr : List (Int × Int)
  ks : Nat → List Int
structure CoOk (C : Co) : Prop where
  p1 : 1 ≤ C.P
  p2 : C.P ≤ 1048576
  right : RightFrom C.P 0 C.fr
  kept : ∀ k, k < 7 → (C.ks k).length ≤ 4 ∧ ∀ p ∈ C.ks k, 0 ≤ p ∧ p ≤ 1048576
def giveC (C : Co) (r : Int × Int) : Co := ⟨C.P, (giveI C.fr C.P r.1 r.2).getD C.fr, C.ks⟩
def putC (C : Co) (r : Int × Int) : Co :=
  if cpages (cclass r.2) = r.2 ∧ 0 ≤ cclass r.2 ∧ cclass r.2 < 7 ∧ 0 ≤ r.1 ∧ (C.ks (cclass r.2).toNat).length < 4 then ⟨C.P, C.fr, upd C.ks (cclass r.2).toNat (C.ks (cclass r.2).toNat ++ [r.1])⟩ else giveC C r
def takeC (C : Co) (n : Int) : Co × Int × Int := if n < 1 then (C, 0, 1) else match takeI C.fr n with
  | none => (C, 0, 4)
  | some q => (⟨C.P, q.2, C.ks⟩, q.1, 0)
def trimC (C : Co) : Co := ⟨C.P, ((kall C.ks 7).foldl giveC C).fr, fun _ => []⟩
def trimN (C : Co) : Int := totI (kall C.ks 7)
def getC (C : Co) (n : Int) : Co × Int × Int :=
  if 0 ≤ cclass n ∧ cclass n < 7 ∧ 0 < (C.ks (cclass n).toNat).length then (⟨C.P, C.fr, upd C.ks (cclass n).toNat (C.ks (cclass n).toNat).dropLast⟩, (C.ks (cclass n).toNat).getD ((C.ks (cclass n).toNat).length - 1) 0, 0)
  else if (takeC C n).2.2 = 4 then (if 0 < trimN C then takeC (trimC C) n else (trimC C, (takeC C n).2)) else takeC C n
theorem giveC_ok {C : Co} (h : CoOk C) (r : Int × Int) : CoOk (giveC C r) := by
  refine ⟨h.p1, h.p2, ?_, h.kept⟩
  show RightFrom C.P 0 ((giveI C.fr C.P r.1 r.2).getD C.fr)
  cases hg : giveI C.fr C.P r.1 r.2 with
  | none => exact h.right
  | some ys => exact (giveI_right h.right hg).1
theorem fold_ok : ∀ (l : List (Int × Int)) {C : Co}, CoOk C → CoOk (l.foldl giveC C)
  | [], _, h => h
  | r :: l, _, h => fold_ok l (giveC_ok h r)
theorem fold_P : ∀ (l : List (Int × Int)) (C : Co), (l.foldl giveC C).P = C.P ∧ (l.foldl giveC C).ks = C.ks
  | [], _ => ⟨rfl, rfl⟩
  | r :: l, C => fold_P l (giveC C r)
theorem trimC_ok {C : Co} (h : CoOk C) : CoOk (trimC C) := by
  have := fold_ok (kall C.ks 7) h
  have h1 := this.right
  rw [(fold_P _ C).1] at h1
  exact ⟨h.p1, h.p2, h1, fun k hk => ⟨Nat.zero_le _, fun p hp => by cases hp⟩⟩
theorem takeC_ok {C : Co} (h : CoOk C) (n : Int) : CoOk (takeC C n).1 := by
  unfold takeC
  split
  · exact h
  · cases ht : takeI C.fr n with
    | none => exact h
    | some q =>
      obtain ⟨p, ys⟩ := q
      exact ⟨h.p1, h.p2, (takeI_right h.right ht).1, h.kept⟩
theorem upd_ok {C : Co} (h : CoOk C) {c : Nat} {l : List Int} (hl : l.length ≤ 4) (hm : ∀ p ∈ l, 0 ≤ p ∧ p ≤ 1048576) : CoOk ⟨C.P, C.fr, upd C.ks c l⟩ := by
  refine ⟨h.p1, h.p2, h.right, fun k hk => ?_⟩
  show (upd C.ks c l k).length ≤ 4 ∧ ∀ p ∈ upd C.ks c l k, _
  unfold upd
  split
  · exact ⟨hl, hm⟩
  · exact h.kept k hk
theorem putC_ok {C : Co} (h : CoOk C) {r : Int × Int} (hr : r.1 ≤ 1048576) : CoOk (putC C r) := by
  unfold putC
  split
  · rename_i hc
    refine upd_ok h (by simp; omega) fun p hp => ?_
    rcases List.mem_append.1 hp with hp | hp
    · exact (h.kept _ (by omega)).2 p hp
    · simp at hp; subst hp; exact ⟨hc.2.2.2.1, hr⟩
  · exact giveC_ok h r
theorem getC_ok {C : Co} (h : CoOk C) (n : Int) : CoOk (getC C n).1 := by
  unfold getC
  split
  · rename_i hc
    have := h.kept (cclass n).toNat (by omega)
    exact upd_ok h (by simp; omega) fun p hp => this.2 p ((List.dropLast_sublist _).mem hp)
  · split
    · split
      · exact takeC_ok (trimC_ok h) n
      · exact trimC_ok h
    · exact takeC_ok h n
theorem kall_mem {ks : Nat → List Int} : ∀ {k : Nat} {r : Int × Int}, r ∈ kall ks k → ∃ j, j < k ∧ r.1 ∈ ks j ∧ r.2 = cpages j
  | 0, r, h => by cases h
  | k + 1, r, h => by
    rcases List.mem_append.1 h with h | h
    · obtain ⟨j, h1, h2⟩ := kall_mem h; exact ⟨j, by omega, h2⟩
    · obtain ⟨p, hp, rfl⟩ := List.mem_map.1 h
      exact ⟨k, by omega, hp, rfl⟩
theorem kall_bd {C : Co} (h : CoOk C) {r : Int × Int} (hr : r ∈ kall C.ks 7) : 0 ≤ r.1 ∧ r.1 ≤ 1048576 ∧ 1 ≤ r.2 ∧ r.2 ≤ 64 := by
  obtain ⟨j, hj, h1, h2⟩ := kall_mem hr
  have h3 := (h.kept j hj).2 _ h1
  have h4 := cpages_le j hj
  rw [h2]; omega
theorem tot_le {l : List (Int × Int)} (h : ∀ r ∈ l, 1 ≤ r.2 ∧ r.2 ≤ 64) : 0 ≤ totI l ∧ totI l ≤ 64 * l.length := by
  induction l with
  | nil => simp [totI]
  | cons r l ih =>
    have h1 := h r (by simp)
    have h2 := ih fun q hq => h q (by simp [hq])
    rw [tot_cons]; simp; omega
section
attribute [local irreducible] Pg
theorem give_step {b : Nat} {t : Int} {D : Co} {r : Int × Int} {v : Value} {L : List HP} (h : giveP b D.P D.fr t r.1 r.2 v L) : ∃ w t', v = .int .i64 w ∧ L = [Pg b (giveC D r).P (giveC D r).fr t'] := by
  unfold giveP at h
  cases hg : giveI D.fr D.P r.1 r.2 with
  | none =>
    rw [hg] at h
    have : (giveC D r).fr = D.fr := by show (giveI D.fr D.P r.1 r.2).getD D.fr = _; rw [hg]; rfl
    rw [this]
    exact ⟨_, _, h.1, h.2⟩
  | some ys =>
    rw [hg] at h
    have : (giveC D r).fr = ys := by show (giveI D.fr D.P r.1 r.2).getD D.fr = _; rw [hg]; rfl
    rw [this]
    exact ⟨_, _, h.1, h.2⟩
theorem take_step {b : Nat} {t n : Int} {C : Co} {v : Value} {L : List HP} (h : takeP b C.P C.fr t n v L) : ∃ t', v = .tuple #[.int .i64 (takeC C n).2.1, .int .i64 (takeC C n).2.2] ∧ L = [Pg b C.P (takeC C n).1.fr t'] := by
  unfold takeP at h
  unfold takeC
  split at h
  · rename_i hn
    rw [if_pos hn]
    exact ⟨_, h.1, h.2⟩
  · rename_i hn
    rw [if_neg hn]
    cases ht : takeI C.fr n with
    | none => rw [ht] at h; exact ⟨_, h.1, h.2⟩
    | some q => rw [ht] at h; exact ⟨_, h.1, h.2⟩
theorem takeC_P (C : Co) (n : Int) : (takeC C n).1.P = C.P ∧ (takeC C n).1.ks = C.ks := by
  unfold takeC
  split
  · exact ⟨rfl, rfl⟩
  · cases takeI C.fr n <;> exact ⟨rfl, rfl⟩
theorem takeC_full {C : Co} {n : Int} (h : (takeC C n).2.2 = 4) : (takeC C n).1 = C ∧ (takeC C n).2 = (0, 4) := by
  unfold takeC at h ⊢
  split
  · rename_i hn
    rw [if_pos hn] at h; cases h
  · rename_i hn
    rw [if_neg hn] at h
    cases ht : takeI C.fr n with
    | none => exact ⟨rfl, rfl⟩
    | some q => rw [ht] at h; cases h
end
end Go.Proofs.Yteobjankkcdaoaa.Sep
