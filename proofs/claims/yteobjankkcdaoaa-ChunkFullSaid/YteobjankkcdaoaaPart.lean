import Derived.Test.YteobjankkcdaoaaCoDef
namespace Go.Proofs.Yteobjankkcdaoaa.Sep
open Go.RowKit
set_option linter.unusedSimpArgs false
set_option linter.unusedVariables false
/-! the plain law of a ledger: each page is free, kept, or in one chunk -/
def RunOk (P : Int) (r : Int × Int) : Prop := 0 ≤ r.1 ∧ 1 ≤ r.2 ∧ r.1 + r.2 ≤ P
structure CInv (C : Co) : Prop where
  ok : CoOk C
  kv : ∀ k : Nat, k < 7 → ∀ p ∈ C.ks k, p + cpages k ≤ C.P
def cC (x : Int) (C : Co) : Int := cnt x C.fr + cnt x (kall C.ks 7)
def tC (C : Co) : Int := totI C.fr + totI (kall C.ks 7)
theorem kall_upd (g : List (Int × Int) → Int) (hg : ∀ a b, g (a ++ b) = g a + g b) (ks : Nat → List Int) (c : Nat) (l' : List Int) : ∀ n : Nat, g (kall (upd ks c l') n) + (if c < n then g ((ks c).map fun p => (p, cpages c)) else 0) = g (kall ks n) + (if c < n then g (l'.map fun p => (p, cpages c)) else 0)
  | 0 => by simp [kall]
  | n + 1 => by
    have ih := kall_upd g hg ks c l' n
    simp only [kall, hg]
    by_cases hc : c = n
    · subst hc
      have h1 : upd ks c l' c = l' := by simp [upd]
      rw [h1, if_pos (by omega), if_pos (by omega)]
      rw [if_neg (by omega), if_neg (by omega)] at ih
      omega
    · have h1 : upd ks c l' n = ks n := by simp [upd, Ne.symm hc]
      rw [h1]
      by_cases hlt : c < n
      · rw [if_pos hlt, if_pos hlt] at ih
        rw [if_pos (by omega), if_pos (by omega)]; omega
      · rw [if_neg hlt, if_neg hlt] at ih
        rw [if_neg (by omega), if_neg (by omega)]; omega
theorem cC_nn (x : Int) (C : Co) : 0 ≤ cC x C := by have := cnt_nn x C.fr; have := cnt_nn x (kall C.ks 7); unfold cC; omega
theorem give_inv {C : Co} {r : Int × Int} (h : CoOk C) (hr : RunOk C.P r) (hd : ∀ x, cnt x C.fr + ind x r ≤ 1) : (∀ x, cnt x (giveC C r).fr = cnt x C.fr + ind x r) ∧ totI (giveC C r).fr = totI C.fr + r.2 := by
  have hs := giveI_some h.right hr.1 hr.2.1 hr.2.2 hd
  have h1 := giveI_right h.right hs
  have h2 : (giveC C r).fr = giveL C.fr r.1 r.2 := by show (giveI C.fr C.P r.1 r.2).getD C.fr = _; rw [hs]; rfl
  rw [h2]
  exact ⟨h1.2.1, h1.2.2⟩
theorem put_inv {C : Co} {r : Int × Int} (h : CInv C) (hr : RunOk C.P r) (hd : ∀ x, cC x C + ind x r ≤ 1) :
    CInv (putC C r) ∧ (putC C r).P = C.P ∧ (∀ x, cC x (putC C r) = cC x C + ind x r) ∧ tC (putC C r) = tC C + r.2 := by
  have hp2 := h.ok.p2
  obtain ⟨r1, r2, r3⟩ := hr
  have hok : CoOk (putC C r) := putC_ok h.ok (by omega)
  unfold putC at hok ⊢
  split
  · rename_i hc
    rw [if_pos hc] at hok
    obtain ⟨c1, c2, c3, c4, c5⟩ := hc
    have hct : (((cclass r.2).toNat : Nat) : Int) = cclass r.2 := by omega
    generalize hcc : (cclass r.2).toNat = c at *
    have hpc : cpages (c : Int) = r.2 := by rw [hct]; exact c1
    refine ⟨⟨hok, fun k hk p hp => ?_⟩, rfl, fun x => ?_, ?_⟩
    · show p + cpages k ≤ C.P
      have hp : p ∈ upd C.ks c (C.ks c ++ [r.1]) k := hp
      unfold upd at hp
      split at hp
      · rename_i hkc
        subst hkc
        rcases List.mem_append.1 hp with hp | hp
        · exact h.kv k hk p hp
        · simp at hp; subst hp; rw [hpc]; omega
      · exact h.kv k hk p hp
    · have := kall_upd (cnt x) (cnt_append x) C.ks c (C.ks c ++ [r.1]) 7
      rw [if_pos (by omega), if_pos (by omega), List.map_append, cnt_append] at this
      simp only [List.map_cons, List.map_nil, cnt, hpc] at this
      show cnt x C.fr + cnt x (kall (upd C.ks c (C.ks c ++ [r.1])) 7) = cnt x C.fr + cnt x (kall C.ks 7) + ind x r
      rw [show ((r.1, r.2) : Int × Int) = r from rfl] at this
      omega
    · have := kall_upd totI tot_append C.ks c (C.ks c ++ [r.1]) 7
      rw [if_pos (by omega), if_pos (by omega), List.map_append, tot_append] at this
      simp only [List.map_cons, List.map_nil, tot_cons, hpc] at this
      have h0 : totI ([] : List (Int × Int)) = 0 := rfl
      show totI C.fr + totI (kall (upd C.ks c (C.ks c ++ [r.1])) 7) = totI C.fr + totI (kall C.ks 7) + r.2
      omega
  · have hg := give_inv h.ok ⟨r1, r2, r3⟩ (fun x => by have := hd x; have := cnt_nn x (kall C.ks 7); unfold cC at *; omega)
    refine ⟨⟨giveC_ok h.ok r, h.kv⟩, rfl, fun x => ?_, ?_⟩
    · show cnt x (giveC C r).fr + cnt x (kall C.ks 7) = cnt x C.fr + cnt x (kall C.ks 7) + ind x r
      rw [hg.1 x]; omega
    · show totI (giveC C r).fr + totI (kall C.ks 7) = totI C.fr + totI (kall C.ks 7) + r.2
      rw [hg.2]; omega
theorem puts_inv : ∀ (l : List (Int × Int)) {C : Co}, CInv C → (∀ r ∈ l, RunOk C.P r) → (∀ x, cC x C + cnt x l ≤ 1) →
    CInv (l.foldl putC C) ∧ (l.foldl putC C).P = C.P ∧ (∀ x, cC x (l.foldl putC C) = cC x C + cnt x l) ∧ tC (l.foldl putC C) = tC C + totI l
  | [], C, h, _, _ => ⟨h, rfl, fun x => by simp [cnt], by simp [totI]⟩
  | r :: l, C, h, hr, hd => by
    have h1 := put_inv h (hr r (by simp)) (fun x => by have := hd x; have := cnt_nn x l; simp only [cnt] at *; omega)
    obtain ⟨g1, g2, g3, g4⟩ := puts_inv l h1.1 (fun q hq => by rw [h1.2.1]; exact hr q (by simp [hq])) (fun x => by rw [h1.2.2.1 x]; have := hd x; simp only [cnt] at this; omega)
    refine ⟨g1, g2.trans h1.2.1, fun x => ?_, ?_⟩
    · rw [List.foldl_cons, g3 x, h1.2.2.1 x]; simp only [cnt]; omega
    · rw [List.foldl_cons, g4, h1.2.2.2, tot_cons]; omega
theorem gives_inv : ∀ (l : List (Int × Int)) {C : Co}, CoOk C → (∀ r ∈ l, RunOk C.P r) → (∀ x, cnt x C.fr + cnt x l ≤ 1) →
    (∀ x, cnt x (l.foldl giveC C).fr = cnt x C.fr + cnt x l) ∧ totI (l.foldl giveC C).fr = totI C.fr + totI l
  | [], C, h, _, _ => ⟨fun x => by simp [cnt], by simp [totI]⟩
  | r :: l, C, h, hr, hd => by
    have h1 := give_inv h (hr r (by simp)) (fun x => by have := hd x; have := cnt_nn x l; simp only [cnt] at *; omega)
    obtain ⟨g1, g2⟩ := gives_inv l (giveC_ok h r) (fun q hq => hr q (by simp [hq])) (fun x => by rw [h1.1 x]; have := hd x; simp only [cnt] at this; omega)
    refine ⟨fun x => ?_, ?_⟩
    · rw [List.foldl_cons, g1 x, h1.1 x]; simp only [cnt]; omega
    · rw [List.foldl_cons, g2, h1.2, tot_cons]; omega
theorem kall_run {C : Co} (h : CInv C) : ∀ r ∈ kall C.ks 7, RunOk C.P r := fun r hr => by
  obtain ⟨j, hj, h1, h2⟩ := kall_mem hr
  have h3 := (h.ok.kept j hj).2 _ h1
  have h4 := h.kv j hj _ h1
  have h5 := cpages_le j hj
  unfold RunOk
  rw [h2]; omega
theorem kall_nil : kall (fun _ => []) 7 = [] := rfl
theorem trim_inv {C : Co} (h : CInv C) (hd : ∀ x, cC x C ≤ 1) : CInv (trimC C) ∧ (∀ x, cC x (trimC C) = cC x C) ∧ tC (trimC C) = tC C := by
  obtain ⟨h1, h2⟩ := gives_inv (kall C.ks 7) h.ok (kall_run h) hd
  refine ⟨⟨trimC_ok h.ok, fun k hk p hp => by cases hp⟩, fun x => ?_, ?_⟩
  · show cnt x ((kall C.ks 7).foldl giveC C).fr + cnt x (kall (fun _ => []) 7) = _
    rw [h1 x, kall_nil]; simp only [cnt, cC]; omega
  · show totI ((kall C.ks 7).foldl giveC C).fr + totI (kall (fun _ => []) 7) = _
    rw [h2, kall_nil]; simp only [tC]; simp [totI]
theorem take_inv {C : Co} {n : Int} (h : CInv C) (hn : 1 ≤ n) : CInv (takeC C n).1 ∧ (takeC C n).1.P = C.P ∧
    ((takeC C n).2.2 = 0 → RunOk C.P ((takeC C n).2.1, n) ∧ (∀ x, cC x C = cC x (takeC C n).1 + ind x ((takeC C n).2.1, n)) ∧ tC C = tC (takeC C n).1 + n) ∧
    ((takeC C n).2.2 ≠ 0 → (∀ x, cC x (takeC C n).1 = cC x C) ∧ tC (takeC C n).1 = tC C) := by
  unfold takeC
  rw [if_neg (by omega)]
  cases ht : takeI C.fr n with
  | none => exact ⟨h, rfl, fun h' => absurd (show (4 : Int) = 0 from h') (by decide), fun _ => ⟨fun _ => rfl, rfl⟩⟩
  | some q =>
    obtain ⟨p, ys⟩ := q
    obtain ⟨g1, g2, g3, g4, g5, g6⟩ := takeI_right h.ok.right ht
    refine ⟨⟨⟨h.ok.p1, h.ok.p2, g1, h.ok.kept⟩, h.kv⟩, rfl, fun _ => ⟨⟨g3, hn, g4⟩, fun x => ?_, ?_⟩, fun h' => absurd rfl h'⟩
    · show cnt x C.fr + cnt x (kall C.ks 7) = cnt x ys + cnt x (kall C.ks 7) + ind x (p, n); rw [g5 x]; omega
    · show totI C.fr + totI (kall C.ks 7) = totI ys + totI (kall C.ks 7) + n; rw [g6]; omega
theorem get_inv {C : Co} {n : Int} (h : CInv C) (hd : ∀ x, cC x C ≤ 1) (hn : 1 ≤ n) (hc : 0 ≤ cclass n → cpages (cclass n) = n) : CInv (getC C n).1 ∧ (getC C n).1.P = C.P ∧
    ((getC C n).2.2 = 0 → RunOk C.P ((getC C n).2.1, n) ∧ (∀ x, cC x C = cC x (getC C n).1 + ind x ((getC C n).2.1, n)) ∧ tC C = tC (getC C n).1 + n) ∧
    ((getC C n).2.2 ≠ 0 → (∀ x, cC x (getC C n).1 = cC x C) ∧ tC (getC C n).1 = tC C) := by
  have hok := getC_ok h.ok n
  unfold getC at hok ⊢
  split
  · rename_i hk
    rw [if_pos hk] at hok
    obtain ⟨k1, k2, k3⟩ := hk
    have hcp := hc k1
    have hct : (((cclass n).toNat : Nat) : Int) = cclass n := by omega
    generalize hcc : (cclass n).toNat = c at *
    have hpc : cpages (c : Int) = n := by rw [hct]; exact hcp
    have hne : C.ks c ≠ [] := List.length_pos_iff.1 k3
    have hlast : (C.ks c).getD ((C.ks c).length - 1) 0 = (C.ks c).getLast hne := by
      rw [List.getLast_eq_getElem]
      simp only [List.getD, List.getElem?_eq_getElem (show (C.ks c).length - 1 < (C.ks c).length by omega), Option.getD_some]
    have hsplit : C.ks c = (C.ks c).dropLast ++ [(C.ks c).getLast hne] := (List.dropLast_concat_getLast hne).symm
    have hmem : (C.ks c).getLast hne ∈ C.ks c := List.getLast_mem hne
    have hv := h.kv c (by omega) _ hmem
    have hv2 := (h.ok.kept c (by omega)).2 _ hmem
    rw [hlast]
    refine ⟨⟨hok, fun k hk p hp => ?_⟩, rfl, fun _ => ⟨⟨hv2.1, hn, by rw [← hpc]; exact hv⟩, fun x => ?_, ?_⟩, fun h' => absurd rfl h'⟩
    · have hp : p ∈ upd C.ks c (C.ks c).dropLast k := hp
      unfold upd at hp
      split at hp
      · rename_i hkc
        subst hkc
        exact h.kv k hk p ((List.dropLast_sublist _).mem hp)
      · exact h.kv k hk p hp
    · have := kall_upd (cnt x) (cnt_append x) C.ks c (C.ks c).dropLast 7
      rw [if_pos (by omega), if_pos (by omega)] at this
      conv at this => lhs; rhs; rw [hsplit]
      rw [List.map_append, cnt_append] at this
      simp only [List.map_cons, List.map_nil, cnt, hpc] at this
      show cnt x C.fr + cnt x (kall C.ks 7) = cnt x C.fr + cnt x (kall (upd C.ks c (C.ks c).dropLast) 7) + ind x ((C.ks c).getLast hne, n)
      omega
    · have := kall_upd totI tot_append C.ks c (C.ks c).dropLast 7
      rw [if_pos (by omega), if_pos (by omega)] at this
      conv at this => lhs; rhs; rw [hsplit]
      rw [List.map_append, tot_append] at this
      simp only [List.map_cons, List.map_nil, tot_cons, hpc] at this
      have h0 : totI ([] : List (Int × Int)) = 0 := rfl
      show totI C.fr + totI (kall C.ks 7) = totI C.fr + totI (kall (upd C.ks c (C.ks c).dropLast) 7) + _
      omega
  · split
    · rename_i he
      split
      · obtain ⟨t1, t2, t3⟩ := trim_inv h hd
        obtain ⟨g1, g2, g3, g4⟩ := take_inv t1 hn
        refine ⟨g1, g2, fun h0 => ?_, fun h0 => ?_⟩
        · obtain ⟨a1, a2, a3⟩ := g3 h0
          exact ⟨a1, fun x => by rw [← t2 x]; exact a2 x, by rw [← t3]; exact a3⟩
        · obtain ⟨a1, a2⟩ := g4 h0
          exact ⟨fun x => by rw [a1 x, t2 x], by rw [a2, t3]⟩
      · obtain ⟨t1, t2, t3⟩ := trim_inv h hd
        exact ⟨t1, rfl, fun h0 => absurd (he.symm.trans (show (takeC C n).2.2 = 0 from h0)) (by decide), fun _ => ⟨t2, t3⟩⟩
    · exact take_inv h hn
theorem class_self {m : Int} (h1 : 1 ≤ m) (h2 : m ≤ 64) : 1 ≤ cpages (cclass m) ∧ cpages (cclass (cpages (cclass m))) = cpages (cclass m) := by
  have hc : cclass m = 0 ∨ cclass m = 1 ∨ cclass m = 2 ∨ cclass m = 3 ∨ cclass m = 4 ∨ cclass m = 5 ∨ cclass m = 6 := by
    unfold cclass
    repeat' split
    all_goals omega
  rcases hc with h | h | h | h | h | h | h <;> rw [h] <;> decide
end Go.Proofs.Yteobjankkcdaoaa.Sep
