import Derived.Test.YtlhjiciimeefeaaPart
namespace Go.Proofs.Ytlhjiciimeefeaa.Sep
open Go.RowKit
set_option linter.unusedSimpArgs false
set_option linter.unusedVariables false
/-! the plain law of a ledger: regions -/
structure PInv (P : Int) (s : Sh) : Prop where
  parts : ∀ r ∈ s.parts.map runP, RunOk P r
  larges : ∀ r ∈ s.larges, RunOk P r
def cS (x : Int) (s : Sh) : Int := cnt x (s.parts.map runP) + cnt x s.larges
theorem cS_nn (x : Int) (s : Sh) : 0 ≤ cS x s := by have := cnt_nn x (s.parts.map runP); have := cnt_nn x s.larges; unfold cS; omega
theorem setLast_runP (l : List Part) (a : Int) : (setLast l a).map runP = l.map runP := by
  unfold setLast
  rw [List.map_set]
  cases l with
  | nil => rfl
  | cons x l =>
    have hl : (x :: l).length - 1 < (x :: l).length := by simp
    have h1 : lastP (x :: l) = (x :: l)[(x :: l).length - 1] := by unfold lastP; simp only [List.getD, List.getElem?_eq_getElem hl, Option.getD_some]
    have h2 : runP ((lastP (x :: l)).1, (lastP (x :: l)).2.1, a, (lastP (x :: l)).2.2.2) = ((x :: l).map runP)[(x :: l).length - 1]'(by simp) := by
      rw [List.getElem_map, ← h1]; rfl
    rw [h2, List.set_getElem_self]
/-- One region's shadow is right. -/
structure SInv (P : Int) (B : Nat) (s : Sh) : Prop where
  ok : ShOk s
  pi : PInv P s
  lp : s.parts.length ≤ B
  ll : s.larges.length ≤ B
theorem setTop_inv {P : Int} {B : Nat} {s : Sh} (h : SInv P B s) {a o p : Int} (ha : 0 ≤ a ∧ a ≤ 18446744073709551615) (ho : 0 ≤ o ∧ o ≤ 18446744073709551615) (hp : 0 ≤ p ∧ p ≤ 18446744073709551615) :
    SInv P B (setTop s a o p) ∧ (∀ x, cS x (setTop s a o p) = cS x s) ∧ shPages (setTop s a o p) = shPages s := by
  refine ⟨⟨⟨fun q hq => ?_, h.ok.larges, ho, hp⟩, ⟨?_, h.pi.larges⟩, ?_, h.ll⟩, fun x => ?_, ?_⟩
  · have hq : q ∈ setLast s.parts a := hq
    unfold setLast at hq
    rcases List.mem_or_eq_of_mem_set hq with hq | rfl
    · exact h.ok.parts q hq
    · have hne : s.parts ≠ [] := by rintro h0; rw [h0] at hq; simp at hq
      have := h.ok.parts _ (last_mem hne)
      dsimp only
      omega
  · show ∀ r ∈ (setLast s.parts a).map runP, _
    rw [setLast_runP]; exact h.pi.parts
  · show (setLast s.parts a).length ≤ B
    rw [setLast_length]; exact h.lp
  · show cnt x ((setLast s.parts a).map runP) + _ = _
    rw [setLast_runP]; rfl
  · show totI ((setLast s.parts a).map runP) + _ = _
    rw [setLast_runP]; rfl
theorem fit_bd {at_ en size align : Int} {q : Int × Int × Int} (h0 : 0 ≤ at_) (h2 : 0 ≤ align) (hs : 0 ≤ size) (h : fitI at_ en size align = some q) : at_ ≤ q.2.1 ∧ q.2.1 ≤ en := by
  unfold fitI at h
  cases hu : upI at_ align with
  | none => rw [hu] at h; cases h
  | some s =>
    rw [hu, Option.bind_some] at h
    cases ha : addI s size with
    | none => rw [ha] at h; cases h
    | some e2 =>
      rw [ha, Option.bind_some] at h
      split at h
      · cases h
      · rename_i hc
        cases h
        have := upI_le h0 h2 hu
        have := add_le ha
        dsimp only
        omega
theorem made_inv {P : Int} {B : Nat} {s s' : Sh} {size align : Int} (h : SInv P B s) (hs : 0 ≤ size) (h2 : 0 ≤ align) (hm : madeS s size align = some s') :
    SInv P B s' ∧ (∀ x, cS x s' = cS x s) ∧ shPages s' = shPages s := by
  unfold madeS at hm
  cases hf : fitI (topAt s) (topEnd s) size align with
  | none => rw [hf] at hm; cases hm
  | some q =>
    rw [hf, Option.map_some, Option.some.injEq] at hm
    subst hm
    have ht := top_bd h.ok
    have hq := fit_bd ht.1 h2 hs hf
    exact setTop_inv h (by omega) (uw_bd _) (uw_bd _)
theorem part_inv {P : Int} {B : Nat} {s : Sh} {r cur : Int × Int} (hP : P ≤ 1048576) (h : SInv P B s) (hr : RunOk P r) (hc : 0 ≤ cur.1 ∧ cur.1 ≤ 18446744073709551615 ∧ 0 ≤ cur.2 ∧ cur.2 ≤ 18446744073709551615) :
    SInv P (B + 1) (partS s r cur) ∧ (∀ x, cS x (partS s r cur) = cS x s + ind x r) ∧ shPages (partS s r cur) = shPages s + r.2 := by
  have hr' := hr
  obtain ⟨r1, r2, r3⟩ := hr'
  have hmap : (partS s r cur).parts.map runP = s.parts.map runP ++ [r] := by unfold partS; rw [List.map_append]; rfl
  refine ⟨⟨⟨fun q hq => ?_, h.ok.larges, h.ok.obj, h.ok.pad⟩, ⟨?_, h.pi.larges⟩, ?_, by have := h.ll; show s.larges.length ≤ _; omega⟩, fun x => ?_, ?_⟩
  · rcases List.mem_append.1 hq with hq | hq
    · exact h.ok.parts q hq
    · simp at hq; subst hq; dsimp only; omega
  · rw [hmap]
    intro q hq
    rcases List.mem_append.1 hq with hq | hq
    · exact h.pi.parts q hq
    · simp at hq; subst hq; exact hr
  · have := h.lp
    show (s.parts ++ [_]).length ≤ _
    simp; omega
  · show cnt x ((partS s r cur).parts.map runP) + cnt x s.larges = cnt x (s.parts.map runP) + cnt x s.larges + ind x r
    rw [hmap, cnt_append]; simp only [cnt]; omega
  · show totI ((partS s r cur).parts.map runP) + totI s.larges = totI (s.parts.map runP) + totI s.larges + r.2
    rw [hmap, tot_append]; simp [totI]; omega
theorem big_inv {P : Int} {B : Nat} {s : Sh} {r : Int × Int} {size : Int} (f : Option (Int × Int × Int)) (hP : P ≤ 1048576) (h : SInv P B s) (hr : RunOk P r) :
    SInv P (B + 1) (bigS s r size f) ∧ (∀ x, cS x (bigS s r size f) = cS x s + ind x r) ∧ shPages (bigS s r size f) = shPages s + r.2 := by
  have hr' := hr
  obtain ⟨r1, r2, r3⟩ := hr'
  have hp : (bigS s r size f).parts = s.parts := by cases f <;> rfl
  have hl : (bigS s r size f).larges = s.larges ++ [r] := by cases f <;> rfl
  have ho : 0 ≤ (bigS s r size f).obj ∧ (bigS s r size f).obj ≤ 18446744073709551615 := by
    cases f with
    | none => exact h.ok.obj
    | some q => exact uw_bd _
  have hd : 0 ≤ (bigS s r size f).pad ∧ (bigS s r size f).pad ≤ 18446744073709551615 := by
    cases f with
    | none => exact h.ok.pad
    | some q => exact uw_bd _
  refine ⟨⟨⟨by rw [hp]; exact h.ok.parts, ?_, ho, hd⟩, ⟨by rw [hp]; exact h.pi.parts, ?_⟩, by rw [hp]; have := h.lp; omega, by rw [hl]; have := h.ll; simp; omega⟩, fun x => ?_, ?_⟩
  · rw [hl]
    intro q hq
    rcases List.mem_append.1 hq with hq | hq
    · exact h.ok.larges q hq
    · simp at hq; subst hq; omega
  · rw [hl]
    intro q hq
    rcases List.mem_append.1 hq with hq | hq
    · exact h.pi.larges q hq
    · simp at hq; subst hq; exact hr
  · unfold cS; rw [hp, hl, cnt_append]; simp only [cnt]; omega
  · unfold shPages; rw [hp, hl, tot_append]; simp [totI]; omega
theorem SInv.up {P : Int} {B : Nat} {s : Sh} (h : SInv P B s) : SInv P (B + 1) s := ⟨h.ok, h.pi, by have := h.lp; omega, by have := h.ll; omega⟩
/-- What is made in a region: no page is lost, none is won. -/
theorem alloc_inv {C : Co} {B : Nat} {s : Sh} {size align : Int} (hC : CInv C) (hs : SInv C.P B s) (hd : ∀ x, cC x C + cS x s ≤ 1) (h0 : 0 ≤ size) (h2 : 0 ≤ align) :
    CInv (allocS C s size align).1.1 ∧ (allocS C s size align).1.1.P = C.P ∧ SInv C.P (B + 1) (allocS C s size align).1.2 ∧ (∀ x, cC x (allocS C s size align).1.1 + cS x (allocS C s size align).1.2 = cC x C + cS x s) ∧
      tC (allocS C s size align).1.1 + shPages (allocS C s size align).1.2 = tC C + shPages s := by
  have hP := hC.ok.p2
  unfold allocS
  split
  · exact ⟨hC, rfl, hs.up, fun _ => rfl, rfl⟩
  · cases hm : madeS s size align with
    | some s' =>
      obtain ⟨g1, g2, g3⟩ := made_inv hs h0 h2 hm
      exact ⟨hC, rfl, g1.up, fun x => by dsimp only; rw [g2 x], by dsimp only; rw [g3]⟩
    | none =>
      dsimp only
      split
      · exact ⟨hC, rfl, hs.up, fun _ => rfl, rfl⟩
      · rename_i hok
        obtain ⟨n, big, ok, hch⟩ : ∃ n big ok, chunkI size align = (n, big, ok) := ⟨_, _, _, rfl⟩
        rw [hch] at hok ⊢
        have hok : ok = true := by simpa using hok
        subst hok
        obtain ⟨c1, c2, c3⟩ := chunk_n h0 h2 hch
        obtain ⟨g1, g2, g3, g4⟩ := get_inv (n := n) hC (fun x => by have := hd x; have := cS_nn x s; omega) c1 c2
        dsimp only
        unfold growS
        split
        · rename_i he
          obtain ⟨a1, a2, a3⟩ := g3 he
          have hob := ofI_bd (getC C n).2.1 n
          split
          · obtain ⟨b1, b2, b3⟩ := big_inv (size := size) (fitI (ofI (getC C n).2.1 n).1 (ofI (getC C n).2.1 n).2 size align) hP hs a1
            refine ⟨g1, g2, b1, fun x => ?_, ?_⟩
            · dsimp only; rw [b2 x, a2 x]; omega
            · dsimp only; rw [b3, a3]; dsimp only; omega
          · obtain ⟨b1, b2, b3⟩ := part_inv hP hs a1 hob
            cases hm2 : madeS (partS s ((getC C n).2.1, n) (ofI (getC C n).2.1 n)) size align with
            | none =>
              refine ⟨g1, g2, b1, fun x => ?_, ?_⟩
              · dsimp only [Option.getD_none]; rw [b2 x, a2 x]; omega
              · dsimp only [Option.getD_none]; rw [b3, a3]; dsimp only; omega
            | some s2 =>
              obtain ⟨d1, d2, d3⟩ := made_inv b1 h0 h2 hm2
              refine ⟨g1, g2, d1, fun x => ?_, ?_⟩
              · dsimp only [Option.getD_some]; rw [d2 x, b2 x, a2 x]; omega
              · dsimp only [Option.getD_some]; rw [d3, b3, a3]; dsimp only; omega
        · rename_i he
          obtain ⟨a1, a2⟩ := g4 he
          exact ⟨g1, g2, hs.up, fun x => by dsimp only; rw [a1 x], by dsimp only; rw [a2]⟩
/-- A region ends: all that it has is given back. -/
theorem ends_inv {C : Co} {B : Nat} {s : Sh} (hC : CInv C) (hs : SInv C.P B s) (hd : ∀ x, cC x C + cS x s ≤ 1) :
    CInv (putsC C s 0 0) ∧ (putsC C s 0 0).P = C.P ∧ (∀ x, cC x (putsC C s 0 0) = cC x C + cS x s) ∧ tC (putsC C s 0 0) = tC C + shPages s := by
  have hrev : ∀ (x : Int) (l : List (Int × Int)), cnt x l.reverse = cnt x l := fun x l => by
    induction l with
    | nil => rfl
    | cons r l ih => rw [List.reverse_cons, cnt_append, ih]; simp only [cnt]; omega
  have hrevt : ∀ (l : List (Int × Int)), totI l.reverse = totI l := fun l => by
    induction l with
    | nil => rfl
    | cons r l ih => rw [List.reverse_cons, tot_append, ih, tot_cons, tot_cons]; simp [totI]; omega
  unfold putsC
  simp only [Int.toNat_zero, List.drop_zero]
  obtain ⟨g1, g2, g3, g4⟩ := puts_inv s.larges.reverse hC (fun r hr => hs.pi.larges r (List.mem_reverse.1 hr)) (fun x => by rw [hrev]; have := hd x; have := cnt_nn x (s.parts.map runP); unfold cS at *; omega)
  obtain ⟨k1, k2, k3, k4⟩ := puts_inv (s.parts.map runP).reverse g1 (fun r hr => by rw [g2]; exact hs.pi.parts r (List.mem_reverse.1 hr)) (fun x => by rw [g3 x, hrev, hrev]; have := hd x; unfold cS at *; omega)
  refine ⟨k1, k2.trans g2, fun x => ?_, ?_⟩
  · rw [k3 x, g3 x, hrev, hrev]; unfold cS; omega
  · rw [k4, g4, hrevt, hrevt]; unfold shPages; omega
/-- A ledger is right: its regions are at most so many, and none has more than so many chunks. -/
structure LInv (B : Nat) (C : Co) (rg : List (Int × Sh)) : Prop where
  ci : CInv C
  nd : (rg.map (·.1)).Nodup
  sh : ∀ q ∈ rg, SInv C.P B q.2
  len : rg.length ≤ B
  part : ∀ x, cC x C + sumF (cS x) rg = if 0 ≤ x ∧ x < C.P then 1 else 0
  tot : tC C + sumF shPages rg = C.P
theorem sumF_nn {f : Sh → Int} (hf : ∀ s, 0 ≤ f s) : ∀ l, 0 ≤ sumF f l
  | [] => by simp [sumF]
  | q :: l => by have := hf q.2; have := sumF_nn hf l; simp only [sumF]; omega
theorem part_le {x P : Int} : (if 0 ≤ x ∧ x < P then (1 : Int) else 0) ≤ 1 := by split <;> omega
theorem inv_new (p : Int) : LInv 0 ⟨min (max p 1) 1048576, [(0, min (max p 1) 1048576)], fun _ => []⟩ [] := by
  have h1 : 1 ≤ min (max p 1) 1048576 := by omega
  have h2 : min (max p 1) 1048576 ≤ 1048576 := by omega
  generalize min (max p 1) 1048576 = P at h1 h2
  refine ⟨⟨⟨h1, h2, ⟨by show (0 : Int) ≤ 0; omega, h1, by show 0 + P ≤ P; omega, trivial⟩, fun k hk => ⟨Nat.zero_le _, fun p hp => (by cases hp)⟩⟩, fun k hk p hp => (by cases hp)⟩, List.nodup_nil, fun q hq => (by cases hq), Nat.le_refl _, fun x => ?_, ?_⟩
  · show cnt x [(0, P)] + cnt x (kall (fun _ => []) 7) + sumF (cS x) [] = _
    rw [kall_nil]
    simp only [cnt, sumF, ind]
    have : (0 ≤ x ∧ x < 0 + P) ↔ (0 ≤ x ∧ x < P) := by omega
    simp only [this]
    split <;> omega
  · show totI [(0, P)] + totI (kall (fun _ => []) 7) + sumF shPages [] = P
    rw [kall_nil]; simp [totI, sumF]
theorem LInv.up {B : Nat} {C : Co} {rg : List (Int × Sh)} (h : LInv B C rg) : LInv (B + 1) C rg := ⟨h.ci, h.nd, fun q hq => (h.sh q hq).up, by have := h.len; omega, h.part, h.tot⟩
theorem inv_begin {B : Nat} {C : Co} {rg : List (Int × Sh)} {id : Int} (h : LInv B C rg) (hk : lk rg id = none) : LInv (B + 1) C (rg ++ [(id, emptySh)]) := by
  refine ⟨h.ci, ?_, fun q hq => ?_, by have := h.len; simp; omega, fun x => ?_, ?_⟩
  · rw [List.map_append, List.nodup_append]
    refine ⟨h.nd, by simp, fun a ha b hb => ?_⟩
    simp at hb
    subst hb
    rintro rfl
    exact (lk_none.1 hk) ha
  · rcases List.mem_append.1 hq with hq | hq
    · exact (h.sh q hq).up
    · simp at hq; subst hq
      exact ⟨⟨fun p hp => (by cases hp), fun p hp => (by cases hp), ⟨Int.le_refl 0, show (0 : Int) ≤ 18446744073709551615 by decide⟩, ⟨Int.le_refl 0, show (0 : Int) ≤ 18446744073709551615 by decide⟩⟩, ⟨fun p hp => (by cases hp), fun p hp => (by cases hp)⟩, Nat.zero_le _, Nat.zero_le _⟩
  · rw [sumF_append]
    have := h.part x
    simp only [sumF, cS, emptySh, cnt, List.map_nil] at this ⊢
    omega
  · rw [sumF_append]
    have := h.tot
    simp only [sumF, shPages, emptySh, List.map_nil] at this ⊢
    simp [totI]; omega
theorem inv_alloc {B : Nat} {C : Co} {rg : List (Int × Sh)} {id size align : Int} {s : Sh} (h : LInv B C rg) (hk : lk rg id = some s) (h0 : 0 ≤ size) (h2 : 0 ≤ align) :
    LInv (B + 1) (allocS C s size align).1.1 (ins rg id (allocS C s size align).1.2) := by
  obtain ⟨l1, l2, rfl, hn⟩ := lk_split hk
  have hs : SInv C.P B s := h.sh (id, s) (by simp)
  have hpt : ∀ x, cC x C + (sumF (cS x) l1 + (cS x s + sumF (cS x) l2)) ≤ 1 := fun x => by
    have := h.part x
    rw [sumF_append] at this
    simp only [sumF] at this
    rw [this]; exact part_le
  obtain ⟨g1, g2, g3, g4, g5⟩ := alloc_inv (size := size) (align := align) h.ci hs (fun x => by
    have := hpt x; have := sumF_nn (cS_nn x) l1; have := sumF_nn (cS_nn x) l2; omega) h0 h2
  rw [ins_split hn]
  generalize allocS C s size align = R at g1 g2 g3 g4 g5
  refine ⟨g1, ?_, fun q hq => ?_, ?_, fun x => ?_, ?_⟩
  · have := h.nd
    simpa using this
  · rw [g2]
    rcases List.mem_append.1 hq with hq | hq
    · exact (h.sh q (by simp [hq])).up
    · rcases List.mem_cons.1 hq with rfl | hq
      · exact g3
      · exact (h.sh q (by simp [hq])).up
  · have := h.len; simp at this ⊢; omega
  · rw [g2, ← h.part x, sumF_append, sumF_append]
    simp only [sumF]
    have := g4 x
    omega
  · rw [g2]
    have := h.tot
    rw [sumF_append] at this ⊢
    simp only [sumF] at this ⊢
    omega
theorem inv_end {B : Nat} {C : Co} {rg : List (Int × Sh)} {id : Int} {s : Sh} (h : LInv B C rg) (hk : lk rg id = some s) : LInv B (putsC C s 0 0) (del rg id) := by
  obtain ⟨l1, l2, rfl, hn⟩ := lk_split hk
  have hs : SInv C.P B s := h.sh (id, s) (by simp)
  have hpt : ∀ x, cC x C + (sumF (cS x) l1 + (cS x s + sumF (cS x) l2)) ≤ 1 := fun x => by
    have := h.part x
    rw [sumF_append] at this
    simp only [sumF] at this
    rw [this]; exact part_le
  obtain ⟨g1, g2, g3, g4⟩ := ends_inv h.ci hs (fun x => by
    have := hpt x; have := sumF_nn (cS_nn x) l1; have := sumF_nn (cS_nn x) l2; omega)
  rw [del_split hn]
  refine ⟨g1, ?_, fun q hq => ?_, ?_, fun x => ?_, ?_⟩
  · have := h.nd
    rw [List.map_append, List.map_cons] at this
    rw [List.map_append]
    exact (List.Sublist.append_left (List.sublist_cons_self _ _) _).nodup this
  · rw [g2]
    rcases List.mem_append.1 hq with hq | hq
    · exact h.sh q (by simp [hq])
    · exact h.sh q (by simp [hq])
  · have := h.len; simp at this ⊢; omega
  · rw [g2, ← h.part x, sumF_append, sumF_append]
    simp only [sumF]
    have := g3 x
    omega
  · rw [g2]
    have := h.tot
    rw [sumF_append] at this ⊢
    simp only [sumF] at this ⊢
    omega
theorem inv_trim {B : Nat} {C : Co} {rg : List (Int × Sh)} (h : LInv B C rg) : LInv B (trimC C) rg := by
  obtain ⟨g1, g2, g3⟩ := trim_inv h.ci (fun x => by
    have := h.part x; have := sumF_nn (cS_nn x) rg; have := part_le (x := x) (P := C.P); omega)
  exact ⟨g1, h.nd, h.sh, h.len, fun x => by rw [g2 x]; exact h.part x, by rw [g3]; exact h.tot⟩
/-- No region, trimmed: one free run. -/
theorem inv_done {B : Nat} {C : Co} (h : LInv B C []) : (trimC C).fr = [(0, C.P)] := by
  have ht := inv_trim h
  refine free_all h.ci.ok.p1 ht.ci.ok.right fun x h0 h1 => ?_
  have := ht.part x
  have h2 : cC x (trimC C) = cnt x (trimC C).fr := by
    show cnt x (trimC C).fr + cnt x (kall (fun _ => []) 7) = _
    rw [kall_nil]; simp [cnt]
  rw [h2, if_pos ⟨h0, h1⟩] at this
  simp only [sumF] at this
  omega
end Go.Proofs.Ytlhjiciimeefeaa.Sep
