import Derived.Test.YtlhjiciimeefeaaPartB
namespace Go.Proofs.Ytlhjiciimeefeaa.Sep
open Go.RowKit
set_option linter.unusedSimpArgs false
set_option linter.unusedVariables false
/-! the plain law of marks: rewound, a region is as it was -/
theorem setLast_append (l t : List Part) (a : Int) (h : t ≠ []) : setLast (l ++ t) a = l ++ setLast t a := by
  have hp : 0 < t.length := List.length_pos_iff.2 h
  have hl : lastP (l ++ t) = lastP t := by
    unfold lastP
    rw [List.length_append, show l.length + t.length - 1 = l.length + (t.length - 1) from by omega]
    simp only [List.getD, List.getElem?_append_right (Nat.le_add_right _ _), Nat.add_sub_cancel_left]
  unfold setLast
  rw [hl, List.length_append, show l.length + t.length - 1 = l.length + (t.length - 1) from by omega, List.set_append_right _ _ (Nat.le_add_right _ _), Nat.add_sub_cancel_left]
theorem lastP_setLast (l : List Part) (a : Int) (h : l ≠ []) : lastP (setLast l a) = ((lastP l).1, (lastP l).2.1, a, (lastP l).2.2.2) := by
  have hp : 0 < l.length := List.length_pos_iff.2 h
  have hi : l.length - 1 < l.length := by omega
  unfold lastP
  rw [setLast_length]
  unfold setLast
  simp [List.getD, hi, lastP]
theorem setLast_setLast (l : List Part) (a a' : Int) : setLast (setLast l a) a' = setLast l a' := by
  by_cases h : l = []
  · subst h; rfl
  · have h1 := lastP_setLast l a h
    unfold setLast at h1 ⊢
    rw [h1]
    simp
/-- What a region has grown to since: its last chunk may be fuller, and there may be more. -/
structure Grow (s0 s : Sh) : Prop where
  parts : ∃ a t, s.parts = setLast s0.parts a ++ t ∧ topAt s0 ≤ a
  larges : ∃ t, s.larges = s0.larges ++ t
theorem Grow.refl (s : Sh) : Grow s s := ⟨⟨topAt s, [], by rw [List.append_nil]; exact (setLast_self _).symm, Int.le_refl _⟩, ⟨[], (List.append_nil _).symm⟩⟩
theorem Grow.top {s0 s : Sh} {en o p : Int} (h : Grow s0 s) (ht : topAt s ≤ en) : Grow s0 (setTop s en o p) := by
  obtain ⟨⟨a, t, h1, h2⟩, h3⟩ := h
  refine ⟨?_, h3⟩
  show ∃ a t, setLast s.parts en = setLast s0.parts a ++ t ∧ topAt s0 ≤ a
  by_cases h0 : t = []
  · subst h0
    rw [List.append_nil] at h1
    by_cases hn : s0.parts = []
    · refine ⟨a, [], ?_, h2⟩
      rw [h1, hn]; rfl
    · refine ⟨en, [], by rw [h1, setLast_setLast, List.append_nil], ?_⟩
      have : topAt s = a := by unfold topAt; rw [h1, lastP_setLast _ _ hn]
      omega
  · exact ⟨a, setLast t en, by rw [h1, setLast_append _ _ _ h0], h2⟩
theorem Grow.part {s0 s : Sh} {r cur : Int × Int} (h : Grow s0 s) : Grow s0 (partS s r cur) := by
  obtain ⟨⟨a, t, h1, h2⟩, h3⟩ := h
  exact ⟨⟨a, t ++ [(r.1, r.2, cur.1, cur.2)], by unfold partS; simp only; rw [h1, List.append_assoc], h2⟩, h3⟩
theorem Grow.big {s0 s : Sh} {r : Int × Int} {size : Int} (f : Option (Int × Int × Int)) (h : Grow s0 s) : Grow s0 (bigS s r size f) := by
  have hp : (bigS s r size f).parts = s.parts := by cases f <;> rfl
  have hl : (bigS s r size f).larges = s.larges ++ [r] := by cases f <;> rfl
  obtain ⟨h1, ⟨t, h3⟩⟩ := h
  exact ⟨by rw [hp]; exact h1, ⟨t ++ [r], by rw [hl, h3, List.append_assoc]⟩⟩
theorem Grow.made {s0 s s' : Sh} {size align : Int} (h : Grow s0 s) (hs : ShOk s) (h0 : 0 ≤ size) (h2 : 0 ≤ align) (hm : madeS s size align = some s') : Grow s0 s' := by
  unfold madeS at hm
  cases hf : fitI (topAt s) (topEnd s) size align with
  | none => rw [hf] at hm; cases hm
  | some q =>
    rw [hf, Option.map_some, Option.some.injEq] at hm
    subst hm
    exact h.top (fit_bd (top_bd hs).1 h2 h0 hf).1
theorem Grow.alloc {C : Co} {B : Nat} {s0 s : Sh} {size align : Int} (h : Grow s0 s) (hC : CInv C) (hs : SInv C.P B s) (hd : ∀ x, cC x C + cS x s ≤ 1) (h0 : 0 ≤ size) (h2 : 0 ≤ align) : Grow s0 (allocS C s size align).1.2 := by
  have hP := hC.ok.p2
  unfold allocS
  split
  · exact h
  · cases hm : madeS s size align with
    | some s' => exact h.made hs.ok h0 h2 hm
    | none =>
      dsimp only
      split
      · exact h
      · rename_i hok
        obtain ⟨n, big, ok, hch⟩ : ∃ n big ok, chunkI size align = (n, big, ok) := ⟨_, _, _, rfl⟩
        rw [hch] at hok ⊢
        have hok : ok = true := by simpa using hok
        subst hok
        obtain ⟨c1, c2, c3⟩ := chunk_n h0 h2 hch
        obtain ⟨g1, g2, g3, g4⟩ := get_inv (n := n) hC (fun x => by have := hd x; have := cS_nn x s; omega) c1 c2
        dsimp only
        unfold growS
        split
        · rename_i he
          obtain ⟨a1, _, _⟩ := g3 he
          split
          · exact h.big _
          · cases hm2 : madeS (partS s ((getC C n).2.1, n) (ofI (getC C n).2.1 n)) size align with
            | none => exact h.part
            | some s2 => exact h.part.made (part_inv hP hs a1 (ofI_bd _ _)).1.ok h0 h2 hm2
        · exact h
/-- Cursors stand behind their chunks' headers. -/
def CurOk (s : Sh) : Prop := ∀ p ∈ s.parts, (ofI p.1 p.2.1).1 ≤ p.2.2.1
theorem CurOk.made {s s' : Sh} {size align : Int} (h : CurOk s) (hs : ShOk s) (h0 : 0 ≤ size) (h2 : 0 ≤ align) (hm : madeS s size align = some s') : CurOk s' := by
  unfold madeS at hm
  cases hf : fitI (topAt s) (topEnd s) size align with
  | none => rw [hf] at hm; cases hm
  | some q =>
    rw [hf, Option.map_some, Option.some.injEq] at hm
    subst hm
    have hq := (fit_bd (top_bd hs).1 h2 h0 hf).1
    intro p hp
    have hp : p ∈ setLast s.parts q.2.1 := hp
    unfold setLast at hp
    rcases List.mem_or_eq_of_mem_set hp with hp | rfl
    · exact h p hp
    · have hne : s.parts ≠ [] := by rintro h0; rw [h0] at hp; simp at hp
      have h1 := h _ (last_mem hne)
      unfold topAt at hq
      dsimp only
      omega
theorem CurOk.alloc {C : Co} {B : Nat} {s : Sh} {size align : Int} (h : CurOk s) (hC : CInv C) (hs : SInv C.P B s) (hd : ∀ x, cC x C + cS x s ≤ 1) (h0 : 0 ≤ size) (h2 : 0 ≤ align) : CurOk (allocS C s size align).1.2 := by
  have hP := hC.ok.p2
  unfold allocS
  split
  · exact h
  · cases hm : madeS s size align with
    | some s' => exact h.made hs.ok h0 h2 hm
    | none =>
      dsimp only
      split
      · exact h
      · rename_i hok
        obtain ⟨n, big, ok, hch⟩ : ∃ n big ok, chunkI size align = (n, big, ok) := ⟨_, _, _, rfl⟩
        rw [hch] at hok ⊢
        have hok : ok = true := by simpa using hok
        subst hok
        obtain ⟨c1, c2, c3⟩ := chunk_n h0 h2 hch
        obtain ⟨g1, g2, g3, g4⟩ := get_inv (n := n) hC (fun x => by have := hd x; have := cS_nn x s; omega) c1 c2
        dsimp only
        unfold growS
        split
        · rename_i he
          obtain ⟨a1, _, _⟩ := g3 he
          have hpart : CurOk (partS s ((getC C n).2.1, n) (ofI (getC C n).2.1 n)) := by
            intro p hp
            rcases List.mem_append.1 hp with hp | hp
            · exact h p hp
            · simp at hp; subst hp; exact Int.le_refl _
          split
          · intro p hp
            have hpp : (bigS s ((getC C n).2.1, n) size (fitI (ofI (getC C n).2.1 n).1 (ofI (getC C n).2.1 n).2 size align)).parts = s.parts := by cases fitI (ofI (getC C n).2.1 n).1 (ofI (getC C n).2.1 n).2 size align <;> rfl
            rw [hpp] at hp
            exact h p hp
          · cases hm2 : madeS (partS s ((getC C n).2.1, n) (ofI (getC C n).2.1 n)) size align with
            | none => exact hpart
            | some s2 => exact hpart.made (part_inv hP hs a1 (ofI_bd _ _)).1.ok h0 h2 hm2
        · exact h
/-- Rewound up to its mark, it is as it was. -/
theorem rew_back {C : Co} {s0 s : Sh} (h : Grow s0 s) (hc : CurOk s0) : rewS C s s0.parts.length s0.larges.length (topAt s0) s0.obj s0.pad = some (putsC C s s0.parts.length s0.larges.length, s0) := by
  obtain ⟨⟨a, t, h1, h2⟩, ⟨t2, h3⟩⟩ := h
  have hlen : (setLast s0.parts a).length = s0.parts.length := setLast_length _ _
  have hfit : fitsS s s0.parts.length s0.larges.length (topAt s0) = true := by
    unfold fitsS
    rw [if_neg (by rw [h1, h3]; simp [hlen]; omega)]
    by_cases hn : s0.parts = []
    · rw [if_pos (by rw [hn]; rfl)]
      unfold topAt; rw [hn]; rfl
    · have hp : 0 < s0.parts.length := List.length_pos_iff.2 hn
      rw [if_neg (by omega)]
      have hg : s.parts.getD ((s0.parts.length : Int).toNat - 1) (0, 0, 0, 0) = ((lastP s0.parts).1, (lastP s0.parts).2.1, a, (lastP s0.parts).2.2.2) := by
        rw [← lastP_setLast s0.parts a hn]
        unfold lastP
        rw [h1, hlen, Int.toNat_natCast]
        simp only [List.getD, List.getElem?_append_left (show s0.parts.length - 1 < (setLast s0.parts a).length by omega)]
      rw [hg]
      have h4 := hc _ (last_mem hn)
      have h5 : topAt s0 = (lastP s0.parts).2.2.1 := rfl
      rw [Bool.and_eq_true, decide_eq_true_eq, decide_eq_true_eq]
      exact ⟨by rw [h5]; exact h4, h2⟩
  unfold rewS
  rw [if_pos hfit]
  congr 1
  congr 1
  have hcut : setTop (cutS s s0.parts.length s0.larges.length) (topAt s0) s0.obj s0.pad = s0 := by
    unfold setTop cutS
    simp only [Int.toNat_natCast]
    rw [h1, h3, List.take_left' hlen, List.take_left' rfl, setLast_setLast]
    have : setLast s0.parts (topAt s0) = s0.parts := setLast_self _
    rw [this]
  rw [hcut]
  split
  · rename_i hz
    simp only [List.cons.injEq] at hz
    obtain ⟨z1, z2, z3, z4, z5, _⟩ := hz
    have e1 : s0.parts = [] := List.length_eq_zero_iff.1 (by omega)
    have e2 : s0.larges = [] := List.length_eq_zero_iff.1 (by omega)
    obtain ⟨p, l, o, d⟩ := s0
    simp only at e1 e2 z4 z5
    subst e1 e2 z4 z5
    rfl
  · rfl
theorem kall_tot (ks : Nat → List Int) : ∀ k, totI (kall ks k) = kpages ks k
  | 0 => rfl
  | k + 1 => by
    simp only [kall, kpages, tot_append, kall_tot ks k]
    congr 1
    generalize ks k = l
    induction l with
    | nil => simp [totI]
    | cons x l ih => rw [List.map_cons, tot_cons, ih, List.length_cons]; push_cast; rw [Int.add_mul]; omega
/-- What was made since is free or kept again. -/
theorem back_inv {C : Co} {B : Nat} {s0 s : Sh} (h : Grow s0 s) (hC : CInv C) (hs : SInv C.P B s) (hd : ∀ x, cC x C + cS x s ≤ 1) :
    CInv (putsC C s s0.parts.length s0.larges.length) ∧ (putsC C s s0.parts.length s0.larges.length).P = C.P ∧ tC (putsC C s s0.parts.length s0.larges.length) + shPages s0 = tC C + shPages s := by
  obtain ⟨⟨a, t, h1, h2⟩, ⟨t2, h3⟩⟩ := h
  have hrev : ∀ (x : Int) (l : List (Int × Int)), cnt x l.reverse = cnt x l := fun x l => by
    induction l with
    | nil => rfl
    | cons r l ih => rw [List.reverse_cons, cnt_append, ih]; simp only [cnt]; omega
  have hrevt : ∀ (l : List (Int × Int)), totI l.reverse = totI l := fun l => by
    induction l with
    | nil => rfl
    | cons r l ih => rw [List.reverse_cons, tot_append, ih, tot_cons, tot_cons]; simp [totI]; omega
  have hlen : ((setLast s0.parts a).map runP).length = s0.parts.length := by rw [List.length_map, setLast_length]
  have e1 : (s.parts.map runP).drop s0.parts.length = t.map runP := by rw [h1, List.map_append, List.drop_left' hlen]
  have e2 : s.larges.drop s0.larges.length = t2 := by rw [h3, List.drop_left' rfl]
  have e3 : s.parts.map runP = s0.parts.map runP ++ t.map runP := by rw [h1, List.map_append, setLast_runP]
  unfold putsC
  simp only [Int.toNat_natCast, e1, e2]
  obtain ⟨g1, g2, g3, g4⟩ := puts_inv t2.reverse hC (fun r hr => hs.pi.larges r (by rw [h3]; exact List.mem_append_right _ (List.mem_reverse.1 hr))) (fun x => by
    rw [hrev]; have := hd x; have := cnt_nn x (s.parts.map runP); have := cnt_nn x s0.larges; unfold cS at *; rw [h3, cnt_append] at *; omega)
  obtain ⟨k1, k2, k3, k4⟩ := puts_inv (t.map runP).reverse g1 (fun r hr => by rw [g2]; exact hs.pi.parts r (by rw [e3]; exact List.mem_append_right _ (List.mem_reverse.1 hr))) (fun x => by
    rw [g3 x, hrev, hrev]; have := hd x; have := cnt_nn x (s0.parts.map runP); have := cnt_nn x s0.larges; unfold cS at *; rw [h3, e3, cnt_append, cnt_append] at *; omega)
  refine ⟨k1, k2.trans g2, ?_⟩
  rw [k4, g4, hrevt, hrevt]
  unfold shPages
  rw [h3, e3, tot_append, tot_append]
  omega
end Go.Proofs.Ytlhjiciimeefeaa.Sep
