import Derived.Test.YteobjankkcdaoaaRunsD
namespace Go.Proofs.Yteobjankkcdaoaa.Sep
open Go.RowKit
set_option linter.unusedSimpArgs false
set_option linter.unusedVariables false
/-! the plain law of free runs: they stay in order, and which pages they have -/
def RightFrom (P : Int) : Int → List (Int × Int) → Prop
  | _, [] => True
  | lo, r :: l => lo ≤ r.1 ∧ 1 ≤ r.2 ∧ r.1 + r.2 ≤ P ∧ RightFrom P (r.1 + r.2 + 1) l
def ind (x : Int) (r : Int × Int) : Int := if r.1 ≤ x ∧ x < r.1 + r.2 then 1 else 0
def cnt (x : Int) : List (Int × Int) → Int
  | [] => 0
  | r :: l => ind x r + cnt x l
theorem ind_nn (x : Int) (r : Int × Int) : 0 ≤ ind x r := by unfold ind; split <;> omega
theorem cnt_nn (x : Int) : ∀ l, 0 ≤ cnt x l
  | [] => by simp [cnt]
  | r :: l => by have := ind_nn x r; have := cnt_nn x l; simp only [cnt]; omega
theorem cnt_append (x : Int) : ∀ l l', cnt x (l ++ l') = cnt x l + cnt x l'
  | [], l' => by simp [cnt]
  | r :: l, l' => by simp only [List.cons_append, cnt, cnt_append x l l']; omega
theorem tot_cons (r : Int × Int) (l : List (Int × Int)) : totI (r :: l) = r.2 + totI l := by simp [totI]
theorem tot_append (l l' : List (Int × Int)) : totI (l ++ l') = totI l + totI l' := by simp [totI, List.sum_append]
theorem rf_mono {P lo lo' : Int} {l : List (Int × Int)} (h : lo' ≤ lo) (hr : RightFrom P lo l) : RightFrom P lo' l := by
  cases l with
  | nil => trivial
  | cons r l => obtain ⟨h1, h2, h3, h4⟩ := hr; exact ⟨by omega, h2, h3, h4⟩
theorem rf_mem {P : Int} : ∀ {l : List (Int × Int)} {lo : Int}, RightFrom P lo l → ∀ r ∈ l, lo ≤ r.1 ∧ 1 ≤ r.2 ∧ r.1 + r.2 ≤ P
  | [], _, _, r, hr => by cases hr
  | q :: l, lo, ⟨h1, h2, h3, h4⟩, r, hr => by
    rcases List.mem_cons.1 hr with rfl | hr
    · exact ⟨h1, h2, h3⟩
    · have := rf_mem h4 r hr; exact ⟨by omega, this.2⟩
theorem rf_len {P : Int} : ∀ {l : List (Int × Int)} {lo : Int}, lo ≤ P + 1 → RightFrom P lo l → (l.length : Int) ≤ P + 1 - lo
  | [], lo, h, _ => by simp; omega
  | r :: l, lo, h, ⟨h1, h2, h3, h4⟩ => by
    have := rf_len (by omega) h4
    simp; omega
theorem rf_bd {P : Int} {l : List (Int × Int)} (hP : P ≤ 1048576) (h : RightFrom P 0 l) : Bd l := fun r hr => by
  have := rf_mem h r hr; omega
theorem rf_len' {P : Int} {l : List (Int × Int)} (h0 : 0 ≤ P) (hP : P ≤ 1048576) (h : RightFrom P 0 l) : l.length ≤ 1048576 := by
  cases l with
  | nil => simp
  | cons r l =>
    obtain ⟨h1, h2, h3, h4⟩ := h
    have := rf_len (by omega) h4
    simp; omega
/-! taken -/
theorem rf_erase {P : Int} : ∀ {l : List (Int × Int)} {lo : Int} (i : Nat), RightFrom P lo l → RightFrom P lo (l.eraseIdx i)
  | [], _, _, _ => by simp [RightFrom]
  | r :: l, lo, 0, ⟨h1, h2, h3, h4⟩ => by simpa using rf_mono (by omega) h4
  | r :: l, lo, i + 1, ⟨h1, h2, h3, h4⟩ => by simpa using ⟨h1, h2, h3, rf_erase i h4⟩
theorem rf_set {P n : Int} (h0 : 1 ≤ n) : ∀ {l : List (Int × Int)} {lo : Int} (i : Nat), RightFrom P lo l → n < (l.getD i (0, 0)).2 → RightFrom P lo (l.set i ((l.getD i (0, 0)).1 + n, (l.getD i (0, 0)).2 - n))
  | [], _, _, _, _ => by simp [RightFrom]
  | r :: l, lo, 0, ⟨h1, h2, h3, h4⟩, hn => by
    simp only [List.getD_cons_zero] at hn
    simp only [List.getD_cons_zero, List.set_cons_zero, RightFrom]
    exact ⟨by omega, by omega, by omega, by rw [show r.1 + n + (r.2 - n) + 1 = r.1 + r.2 + 1 from by omega]; exact h4⟩
  | r :: l, lo, i + 1, ⟨h1, h2, h3, h4⟩, hn => by
    simp only [List.getD_cons_succ] at hn
    simp only [List.getD_cons_succ, List.set_cons_succ, RightFrom]
    exact ⟨h1, h2, h3, rf_set h0 i h4 hn⟩
theorem cnt_take {n : Int} (x : Int) (h0 : 1 ≤ n) : ∀ (l : List (Int × Int)) (i : Nat), i < l.length → n ≤ (l.getD i (0, 0)).2 →
    cnt x l = cnt x (takeAt l n i).2 + ind x ((takeAt l n i).1, n) ∧ totI l = totI (takeAt l n i).2 + n
  | [], i, h, _ => by simp at h
  | r :: l, 0, _, hn => by
    simp only [List.getD_cons_zero] at hn
    simp only [takeAt, List.getD_cons_zero]
    by_cases hq : r.2 = n
    · rw [if_pos hq]
      simp only [List.eraseIdx_cons_zero, cnt, tot_cons]
      subst hq
      exact ⟨Int.add_comm _ _, Int.add_comm _ _⟩
    · rw [if_neg hq]
      simp only [List.set_cons_zero, cnt, tot_cons]
      refine ⟨?_, by omega⟩
      unfold ind
      simp only
      repeat' split
      all_goals omega
  | r :: l, i + 1, hi, hn => by
    simp only [List.getD_cons_succ] at hn
    have ih := cnt_take x h0 l i (by simpa using hi) hn
    simp only [takeAt, List.getD_cons_succ] at ih ⊢
    by_cases hq : (l.getD i (0, 0)).2 = n
    · rw [if_pos hq] at ih ⊢
      simp only [List.eraseIdx_cons_succ, cnt, tot_cons]
      omega
    · rw [if_neg hq] at ih ⊢
      simp only [List.set_cons_succ, cnt, tot_cons]
      omega
theorem takeI_right {P n : Int} {l ys : List (Int × Int)} {p : Int} (hr : RightFrom P 0 l) (h : takeI l n = some (p, ys)) :
    RightFrom P 0 ys ∧ 1 ≤ n ∧ 0 ≤ p ∧ p + n ≤ P ∧ (∀ x, cnt x l = cnt x ys + ind x (p, n)) ∧ totI l = totI ys + n := by
  unfold takeI at h
  cases hb : bestU l n l.length with
  | none => rw [hb] at h; cases h
  | some i =>
    rw [hb, Option.map_some, Option.some.injEq] at h
    have hi := bestU_lt hb
    obtain ⟨hn0, hn1⟩ := bestU_ge hb
    have hg : l.getD i (0, 0) = l[i] := by simp [List.getD, hi]
    have hm := rf_mem hr l[i] (List.getElem_mem hi)
    have h1 : ∀ x, _ := fun x => cnt_take x (show 1 ≤ n by omega) l i hi hn1
    rw [h] at h1
    have hp : p = (l.getD i (0, 0)).1 := by rw [takeAt] at h; exact (Prod.mk.inj h).1.symm
    have hys : ys = if (l.getD i (0, 0)).2 = n then l.eraseIdx i else l.set i ((l.getD i (0, 0)).1 + n, (l.getD i (0, 0)).2 - n) := by rw [takeAt] at h; exact (Prod.mk.inj h).2.symm
    refine ⟨?_, by omega, by rw [hp, hg]; omega, by rw [hp, hg]; rw [hg] at hn1; omega, fun x => (h1 x).1, (h1 0).2⟩
    rw [hys]
    split
    · exact rf_erase i hr
    · rename_i hne
      exact rf_set (by omega) i hr (by omega)
/-! given back -/
theorem merge_stop {P : Int} {r : Int × Int} {l : List (Int × Int)} (h : RightFrom P (r.1 + r.2 + 1) l) : mergeI r l = (r, l) := by
  cases l with
  | nil => rfl
  | cons x l => rw [mergeI, if_neg (by have := h.1; omega)]
theorem merge_right {P lo : Int} {r : Int × Int} {l : List (Int × Int)} (hr2 : 1 ≤ r.2) (hrP : r.1 + r.2 ≤ P) (h : RightFrom P lo l) (hd : ∀ x ∈ l, r.1 + r.2 ≤ x.1) :
    (mergeI r l).1.1 = r.1 ∧ RightFrom P r.1 ((mergeI r l).1 :: (mergeI r l).2) ∧ (∀ x, cnt x ((mergeI r l).1 :: (mergeI r l).2) = cnt x (r :: l)) ∧ totI ((mergeI r l).1 :: (mergeI r l).2) = totI (r :: l) := by
  cases l with
  | nil => exact ⟨rfl, ⟨Int.le_refl _, hr2, hrP, trivial⟩, fun _ => rfl, rfl⟩
  | cons y t =>
    obtain ⟨h1, h2, h3, h4⟩ := h
    have hy := hd y (by simp)
    by_cases hc : y.1 ≤ r.1 + r.2
    · have hm : mergeI r (y :: t) = ((r.1, y.2 + r.2), t) := by
        rw [mergeI, if_pos hc, show min y.1 r.1 = r.1 from by omega]
        exact merge_stop (P := P) (rf_mono (by show r.1 + (y.2 + r.2) + 1 ≤ _; omega) h4)
      rw [hm]
      refine ⟨rfl, ⟨Int.le_refl _, by show 1 ≤ y.2 + r.2; omega, by show r.1 + (y.2 + r.2) ≤ P; omega, rf_mono (by show r.1 + (y.2 + r.2) + 1 ≤ _; omega) h4⟩, fun x => ?_, by simp only [tot_cons]; omega⟩
      simp only [cnt]
      unfold ind
      simp only
      repeat' split
      all_goals omega
    · have hm : mergeI r (y :: t) = (r, y :: t) := by rw [mergeI, if_neg hc]
      rw [hm]
      exact ⟨rfl, ⟨Int.le_refl _, hr2, hrP, ⟨by show r.1 + r.2 + 1 ≤ y.1; omega, h2, h3, h4⟩⟩, fun _ => rfl, rfl⟩
theorem giveL_nil (p n : Int) : giveL [] p n = [(p, n)] := rfl
theorem giveL_cons (x : Int × Int) (xs : List (Int × Int)) (p n : Int) : giveL (x :: xs) p n = if p ≤ x.1 + x.2 then (mergeI (p, n) (x :: xs)).1 :: (mergeI (p, n) (x :: xs)).2 else x :: giveL xs p n := by
  unfold giveL afterI
  rw [List.findIdx_cons]
  by_cases h : p ≤ x.1 + x.2
  · simp [h]
  · simp [h]
theorem give_right {P p n : Int} (hn : 1 ≤ n) (hP : p + n ≤ P) : ∀ (xs : List (Int × Int)) (lo : Int), RightFrom P lo xs → lo ≤ p → (∀ r ∈ xs, p + n ≤ r.1 ∨ r.1 + r.2 ≤ p) →
    RightFrom P lo (giveL xs p n) ∧ (∀ x, cnt x (giveL xs p n) = cnt x xs + ind x (p, n)) ∧ totI (giveL xs p n) = totI xs + n
  | [], lo, _, hlo, _ => by
    rw [giveL_nil]
    exact ⟨⟨hlo, hn, hP, trivial⟩, fun x => by simp only [cnt]; omega, by simp [totI]⟩
  | y :: t, lo, ⟨h1, h2, h3, h4⟩, hlo, hd => by
    rw [giveL_cons]
    have hy := hd y (by simp)
    by_cases hc : p ≤ y.1 + y.2
    · rw [if_pos hc]
      by_cases he : y.1 + y.2 = p
      · -- the run ahead ends where the pages begin
        have ht : ∀ z ∈ t, p + n ≤ z.1 := fun z hz => by
          have := rf_mem h4 z hz
          rcases hd z (by simp [hz]) with h | h <;> omega
        have hm : mergeI (p, n) (y :: t) = mergeI (y.1, y.2 + n) t := by
          rw [mergeI, if_pos (by show y.1 ≤ p + n; omega), show min y.1 p = y.1 from by omega]
        rw [hm]
        obtain ⟨g1, g2, g3, g4⟩ := merge_right (P := P) (r := (y.1, y.2 + n)) (l := t) (by show 1 ≤ y.2 + n; omega) (by show y.1 + (y.2 + n) ≤ P; omega) h4 (fun z hz => by show y.1 + (y.2 + n) ≤ z.1; have := ht z hz; omega)
        refine ⟨rf_mono (by show lo ≤ y.1; exact h1) g2, fun x => ?_, ?_⟩
        · rw [g3 x]
          simp only [cnt]
          unfold ind
          simp only
          repeat' split
          all_goals omega
        · rw [g4]; simp only [tot_cons]; omega
      · have ht : ∀ z ∈ y :: t, p + n ≤ z.1 := fun z hz => by
          rcases List.mem_cons.1 hz with rfl | hz
          · omega
          · have := rf_mem h4 z hz; omega
        obtain ⟨g1, g2, g3, g4⟩ := merge_right (P := P) (r := (p, n)) (l := y :: t) hn hP ⟨h1, h2, h3, h4⟩ (fun z hz => ht z hz)
        refine ⟨rf_mono hlo g2, fun x => ?_, ?_⟩
        · rw [g3 x]; simp only [cnt]; omega
        · rw [g4]; simp only [tot_cons]; omega
    · rw [if_neg hc]
      obtain ⟨g1, g2, g3⟩ := give_right hn hP t (y.1 + y.2 + 1) h4 (by omega) (fun r hr => hd r (by simp [hr]))
      exact ⟨⟨h1, h2, h3, g1⟩, fun x => by simp only [cnt, g2 x]; omega, by simp only [tot_cons, g3]; omega⟩
theorem hasB_iff {p n : Int} {r : Int × Int} (h0 : 0 ≤ p) (hn : 1 ≤ n) : hasB p n r = true ↔ r.1 < p + n ∧ p < r.1 + r.2 := by
  unfold hasB
  rw [decide_eq_true_eq]
  constructor
  · rintro ⟨_, h | h, h3⟩
    · omega
    · exact ⟨by omega, h3⟩
  · rintro ⟨h1, h2⟩; exact ⟨by omega, .inr ⟨h0, by omega⟩, h2⟩
theorem giveI_right {P p n : Int} {l ys : List (Int × Int)} (hr : RightFrom P 0 l) (h : giveI l P p n = some ys) :
    RightFrom P 0 ys ∧ (∀ x, cnt x ys = cnt x l + ind x (p, n)) ∧ totI ys = totI l + n := by
  unfold giveI at h
  split at h
  · cases h
  rename_i hb
  cases h
  refine give_right (by omega) (by omega) l 0 hr (by omega) fun r hr => ?_
  have hh : ¬ hasB p n r = true := fun hh => hb (.inr (.inr (.inr (.inr (List.any_eq_true.2 ⟨r, hr, hh⟩)))))
  rw [hasB_iff (by omega) (by omega)] at hh
  omega
theorem cnt_mem {x : Int} {r : Int × Int} : ∀ {l : List (Int × Int)}, r ∈ l → ind x r ≤ cnt x l
  | [], h => by cases h
  | q :: l, h => by
    rcases List.mem_cons.1 h with rfl | h
    · have := cnt_nn x l; simp only [cnt]; omega
    · have := cnt_mem (x := x) h; have := ind_nn x q; simp only [cnt]; omega
/-- What overlaps nothing can be given back. -/
theorem giveI_some {P p n : Int} {l : List (Int × Int)} (hr : RightFrom P 0 l) (h0 : 0 ≤ p) (hn : 1 ≤ n) (hP : p + n ≤ P) (hd : ∀ x, cnt x l + ind x (p, n) ≤ 1) : giveI l P p n = some (giveL l p n) := by
  unfold giveI
  rw [if_neg]
  rintro (h | h | h | h | h)
  · omega
  · omega
  · omega
  · omega
  · obtain ⟨r, hr1, hh⟩ := List.any_eq_true.1 h
    rw [hasB_iff h0 hn] at hh
    have hm := rf_mem hr r hr1
    have h1 := cnt_mem (x := max p r.1) hr1
    have h2 := hd (max p r.1)
    have h3 : ind (max p r.1) r = 1 := by unfold ind; rw [if_pos]; omega
    have h4 : ind (max p r.1) (p, n) = 1 := by unfold ind; rw [if_pos]; simp only; omega
    omega
/-- All pages, in one run. -/
theorem free_all {P : Int} {l : List (Int × Int)} (hP : 1 ≤ P) (hr : RightFrom P 0 l) (hc : ∀ x, 0 ≤ x → x < P → 1 ≤ cnt x l) : l = [(0, P)] := by
  have key : ∀ (l : List (Int × Int)) (lo x : Int), RightFrom P lo l → x < lo → cnt x l = 0 := by
    intro l
    induction l with
    | nil => intros; rfl
    | cons r l ih =>
      rintro lo x ⟨h1, h2, h3, h4⟩ hx
      simp only [cnt]
      rw [ih _ x h4 (by omega)]
      unfold ind
      rw [if_neg (by omega)]; rfl
  cases l with
  | nil => have := hc 0 (by omega) (by omega); simp [cnt] at this
  | cons r l =>
    obtain ⟨h1, h2, h3, h4⟩ := hr
    have hr1 : r.1 = 0 := by
      refine Decidable.byContradiction fun h => ?_
      have := hc 0 (by omega) (by omega)
      rw [key (r :: l) r.1 0 ⟨Int.le_refl _, h2, h3, h4⟩ (by omega)] at this
      omega
    have hr2 : r.1 + r.2 = P := by
      refine Decidable.byContradiction fun h => ?_
      have := hc (r.1 + r.2) (by omega) (by omega)
      simp only [cnt] at this
      rw [key l _ (r.1 + r.2) h4 (by omega)] at this
      unfold ind at this
      rw [if_neg (by omega)] at this
      omega
    cases l with
    | nil =>
      obtain ⟨a, b⟩ := r
      simp only at hr1 hr2
      subst hr1
      rw [show b = P by omega]
    | cons q l => obtain ⟨g1, g2, g3, _⟩ := h4; omega
end Go.Proofs.Yteobjankkcdaoaa.Sep
