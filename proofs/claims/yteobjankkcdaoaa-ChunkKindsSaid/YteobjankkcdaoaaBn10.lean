import Derived.Test.YteobjankkcdaoaaBn9
/- What the laws share: a separation logic over the model, and what the program's functions do, by it. Part 10 of 10: KLine Apart. -/
namespace Go.Proofs.Yteobjankkcdaoaa.Sep
open Go.RowKit
set_option linter.unusedSimpArgs false
set_option linter.unusedVariables false
/-! chunks that are got of one run that is free, one behind the other -/
theorem take_line {C : Co} {a b w : Int} (hf : C.fr = [(a, b)]) (h1 : 1 ≤ w) (h2 : w < b) : (takeC C w).2 = (a, 0) ∧ (takeC C w).1.fr = [(a + w, b - w)] ∧ (takeC C w).1.ks = C.ks ∧ (takeC C w).1.P = C.P := by
  have hb : bestU [(a, b)] w 1 = some 0 := by
    simp [bestU, less]; omega
  have ht : takeI C.fr w = some (a, [(a + w, b - w)]) := by
    unfold takeI
    rw [hf]
    show (bestU [(a, b)] w 1).map _ = _
    rw [hb]
    simp only [Option.map_some, takeAt, List.getD_cons_zero, List.set_cons_zero]
    rw [if_neg (by omega)]
  unfold takeC
  rw [if_neg (by omega), ht]
  exact ⟨rfl, rfl, rfl, rfl⟩
theorem take_whole {C : Co} {a b : Int} (hf : C.fr = [(a, b)]) (h1 : 1 ≤ b) : (takeC C b).2 = (a, 0) ∧ (takeC C b).1.fr = [] ∧ (takeC C b).1.ks = C.ks ∧ (takeC C b).1.P = C.P := by
  have hb : bestU [(a, b)] b 1 = some 0 := by
    simp [bestU, less]; omega
  have ht : takeI C.fr b = some (a, []) := by
    unfold takeI
    rw [hf]
    show (bestU [(a, b)] b 1).map _ = _
    rw [hb]
    simp [takeAt]
  unfold takeC
  rw [if_neg (by omega), ht]
  exact ⟨rfl, rfl, rfl, rfl⟩
theorem get_line {C : Co} {a b w : Int} (hf : C.fr = [(a, b)]) (hk : C.ks = fun _ => []) (h1 : 1 ≤ w) (h2 : w < b) : (getC C w).2 = (a, 0) ∧ (getC C w).1.fr = [(a + w, b - w)] ∧ (getC C w).1.ks = (fun _ => []) ∧ (getC C w).1.P = C.P := by
  obtain ⟨e1, e2, e3, e4⟩ := take_line hf h1 h2
  unfold getC
  rw [if_neg (by rw [hk]; simp), if_neg (by rw [e1]; simp)]
  exact ⟨e1, e2, e3.trans hk, e4⟩
/-- A chunk of one of the classes is put: it is kept. -/
theorem put_keep {C : Co} {p : Int} {c : Nat} (hc : c < 7) (hp : 0 ≤ p) (hl : (C.ks c).length < 4) (hw : cclass (cpages c) = c) : (putC C (p, cpages c)).ks = upd C.ks c (C.ks c ++ [p]) ∧ (putC C (p, cpages c)).fr = C.fr ∧ (putC C (p, cpages c)).P = C.P := by
  unfold putC
  simp only [hw, Int.toNat_natCast]
  rw [if_pos ⟨trivial, by omega, by omega, hp, hl⟩]
  exact ⟨rfl, rfl, rfl⟩
theorem class_pages : ∀ c : Fin 7, cclass (cpages c.val) = c.val := by decide
theorem kdone0 {C : Co} {m : Int → Int} (h : KInv C m []) (hk : kall C.ks 7 = []) : C.fr = [(0, C.P)] := by
  have h1 := kdone h
  unfold trimC at h1
  rw [hk] at h1
  exact h1
theorem class_big {n : Int} (h : 64 < n) : cclass n = -1 := by
  unfold cclass
  repeat' split
  all_goals omega
theorem put_big {C : Co} {n p : Int} (h : 64 < n) : putC C (p, n) = giveC C (p, n) := by
  unfold putC
  rw [if_neg (fun hc => by rw [show ((p, n) : Int × Int).2 = n from rfl, class_big h] at hc; omega)]
/-- All pages are got at once when none is got. -/
theorem get_all {C : Co} {m : Int → Int} (h : KInv C m []) (hP : 64 < C.P) : (getC C C.P).2 = (0, 0) ∧ (getC C C.P).1.fr = [] ∧ kall (getC C C.P).1.ks 7 = [] := by
  have hd := kdone h
  have hcl : cclass C.P = -1 := by unfold cclass; repeat' split <;> omega
  have ht : ∀ r ∈ C.fr, r.2 ≤ C.P := fun r hr => by have := rf_mem h.ci.ok.right r hr; omega
  unfold getC
  rw [if_neg (by rw [hcl]; simp)]
  by_cases hk : 0 < trimN C
  · have hlt : ∀ r ∈ C.fr, r.2 < C.P := fun r hr => by
      have h1 := h.tot
      have h2 : 0 ≤ totI (C.fr) - r.2 := by
        obtain ⟨l1, l2, e⟩ := List.append_of_mem hr
        have h3 : ∀ l : List (Int × Int), (∀ q ∈ l, 1 ≤ q.2) → 0 ≤ totI l := by
          intro l
          induction l with
          | nil => intro _; exact Int.le_refl _
          | cons q l ih => intro hq; rw [tot_cons]; have := hq q (by simp); have := ih (fun q' h' => hq q' (by simp [h'])); omega
        have h4 := h3 l1 (fun q hq => (rf_mem h.ci.ok.right q (by rw [e]; simp [hq])).2.1)
        have h5 := h3 l2 (fun q hq => (rf_mem h.ci.ok.right q (by rw [e]; simp [hq])).2.1)
        rw [e, tot_append, tot_cons]
        omega
      unfold tC at h1
      unfold trimN at hk
      simp only [gr, List.map_nil, totI, List.sum_nil] at h1
      unfold totI at hk h2
      omega
    have hn : (takeC C C.P).2.2 = 4 := by
      rcases take_code (C := C) (n := C.P) (by omega) with h0 | h4
      · exfalso
        unfold takeC at h0
        rw [if_neg (by omega)] at h0
        cases ht' : takeI C.fr C.P with
        | none => rw [ht'] at h0; cases h0
        | some q =>
          unfold takeI at ht'
          cases hb : bestU C.fr C.P C.fr.length with
          | none => rw [hb] at ht'; cases ht'
          | some j =>
            have h1 := bestU_ge hb
            have h2 := bestU_lt hb
            have h3 := hlt _ (List.getElem_mem h2)
            simp [List.getD, h2] at h1
            omega
      · exact h4
    rw [if_pos hn, if_pos hk]
    have hP' : (trimC C).P = C.P := rfl
    obtain ⟨e1, e2, e3, -⟩ := take_whole (C := trimC C) (a := 0) (b := C.P) hd (by omega)
    exact ⟨e1, e2, by rw [e3]; rfl⟩
  · have hka := kall0 h.ci.ok hk
    have hf : C.fr = [(0, C.P)] := by rw [← hd]; unfold trimC; rw [hka]; rfl
    obtain ⟨e1, e2, e3, -⟩ := take_whole (C := C) (a := 0) (b := C.P) hf (by omega)
    rw [if_neg (by rw [e1]; simp)]
    exact ⟨e1, e2, by rw [e3]; exact hka⟩
/-- Where no page is free, and none is kept, none is got. -/
theorem get_none {C : Co} {w : Int} (hf : C.fr = []) (hk : kall C.ks 7 = []) (hw : 1 ≤ w) (hc : 0 ≤ cclass w → cclass w < 7) : (getC C w).2.2 = 4 ∧ (getC C w).1 = trimC C ∧ (trimC C).fr = [] := by
  have hks : ∀ k, k < 7 → C.ks k = [] := fun k hk7 => by
    have key : ∀ n, kall C.ks n = [] → ∀ k, k < n → C.ks k = [] := by
      intro n
      induction n with
      | zero => intro _ k h; omega
      | succ n ih =>
        intro h k hk'
        have h' : kall C.ks n = [] ∧ (C.ks n).map (fun p => (p, cpages n)) = [] := List.append_eq_nil_iff.1 h
        rcases Nat.lt_succ_iff_lt_or_eq.1 hk' with hlt | rfl
        · exact ih h'.1 k hlt
        · exact List.map_eq_nil_iff.1 h'.2
    exact key 7 hk k hk7
  have ht : takeC C w = (C, 0, 4) := by
    unfold takeC
    rw [if_neg (by omega), hf]
    rfl
  have hn : ¬ 0 < trimN C := by unfold trimN; rw [hk]; decide
  refine ⟨?_, ?_, by unfold trimC; rw [hk]; exact hf⟩
  · unfold getC
    rw [if_neg (fun h => by have := hks (cclass w).toNat (by omega); rw [this] at h; simp at h), ht, if_pos rfl, if_neg hn]
  · unfold getC
    rw [if_neg (fun h => by have := hks (cclass w).toNat (by omega); rw [this] at h; simp at h), ht, if_pos rfl, if_neg hn]
/-- Whatever is asked for: what comes of it. -/
theorem kget_law (s sb : Nat) {C : Co} {m : Mm} {got : List (Int × Hd)} {P : Int} (p k : Int) {o : Int} (hK : KInv C m.f got) (hP : C.P = P) (ho : 0 ≤ o ∧ o < 18446744073709551616) :
    ∃ (C' : Co) (m' : Mm) (pg n e : Int), Spec Try.prog 11 [.pointer (some ⟨s, 0, none⟩), .int .i64 p, .int .i64 k, .int .u64 o] [Ck s sb C, Spc sb P m]
      (fun v L => v = .tuple #[.int .i64 pg, .int .i64 n, .int .i64 e] ∧ L = [Ck s sb C', Spc sb P m']) ∧ C'.P = P ∧
      ((e = 0 ∧ KInv C' m'.f (got ++ [(pg, ⟨n, k, o, 0⟩)]) ∧ p ≤ n) ∨ (e ≠ 0 ∧ KInv C' m'.f got)) := by
  by_cases hb : bad p k
  · exact ⟨C, m, 0, 0, 1, kget_bad s sb hK.ci.ok hP hb, hP, .inr ⟨by decide, hK⟩⟩
  by_cases hz : (getC C (rnd p)).2.2 = 0
  · obtain ⟨h1, h2⟩ := kget_inv hK hP ho hb hz
    have hbb : 1 ≤ p ∧ p ≤ 1048576 := by unfold bad at hb; omega
    exact ⟨_, _, _, _, 0, kget_ok s sb hK hP ho hb hz, h2, .inl ⟨rfl, h1, (rnd_ok hbb.1 hbb.2).1⟩⟩
  · obtain ⟨h1, h2, -⟩ := kget_full hK hP hb hz
    exact ⟨_, m, 0, 0, 4, kget_no s sb hK.ci.ok hP hb hz, h2, .inr ⟨by decide, h1⟩⟩
end Go.Proofs.Yteobjankkcdaoaa.Sep
namespace Go.Proofs.Yteobjankkcdaoaa.Sep
open Go.RowKit
set_option linter.unusedSimpArgs false
set_option linter.unusedVariables false
/-! pages that are marked, run by run -/
def inB (R : List (Int × Int)) (N k : Nat) (j : Int) : List Bool := (List.range N).map fun x : Nat => decide (1 ≤ cnt (x : Int) (R.take k) + ind (x : Int) ((R.getD k (0, 0)).1, j))
theorem inB_len (R : List (Int × Int)) (N k : Nat) (j : Int) : (inB R N k j).length = N := by simp [inB]
theorem inB_get {R : List (Int × Int)} {N k x : Nat} {j : Int} (h : x < N) : (inB R N k j)[x]? = some (decide (1 ≤ cnt (x : Int) (R.take k) + ind (x : Int) ((R.getD k (0, 0)).1, j))) := by
  unfold inB; rw [List.getElem?_map, List.getElem?_range h]; rfl
theorem ind0 (x p : Int) : ind x (p, 0) = 0 := by unfold ind; rw [if_neg (by simp only; omega)]
theorem inB_zero (R : List (Int × Int)) (N : Nat) : inB R N 0 0 = List.replicate N false := by
  refine List.ext_getElem? fun x => ?_
  by_cases h : x < N
  · rw [inB_get h, List.getElem?_replicate, if_pos h, ind0]; simp [cnt]
  · rw [List.getElem?_eq_none (by rw [inB_len]; omega), List.getElem?_eq_none (by simp; omega)]
theorem inB_next {R : List (Int × Int)} {N k : Nat} (hk : k < R.length) : inB R N k R[k].2 = inB R N (k + 1) 0 := by
  refine List.ext_getElem? fun x => ?_
  by_cases h : x < N
  · rw [inB_get h, inB_get h, ind0]
    have e1 : R.take (k + 1) = R.take k ++ [R[k]] := List.take_succ_eq_append_getElem hk
    have e2 : R.getD k (0, 0) = R[k] := by simp [List.getD, hk]
    rw [e1, cnt_append, e2]
    simp [cnt]
  · rw [List.getElem?_eq_none (by rw [inB_len]; omega), List.getElem?_eq_none (by rw [inB_len]; omega)]
theorem inB_set {R : List (Int × Int)} {N k : Nat} {j : Int} (hk : k < R.length) (hj : 0 ≤ j) (h0 : 0 ≤ R[k].1 + j) : (inB R N k j).set (R[k].1 + j).toNat true = inB R N k (j + 1) := by
  have e2 : R.getD k (0, 0) = R[k] := by simp [List.getD, hk]
  refine List.ext_getElem? fun x => ?_
  by_cases h : x < N
  · rw [List.getElem?_set, inB_get h, inB_get h, inB_len, e2]
    have hn := cnt_nn (x : Int) (R.take k)
    unfold ind
    simp only
    by_cases hx : (R[k].1 + j).toNat = x
    · rw [if_pos hx, if_pos (by omega), if_pos (by omega)]
      simp; omega
    · rw [if_neg hx]
      congr 1
      refine decide_eq_decide.2 ?_
      by_cases h1 : R[k].1 ≤ (x : Int) ∧ (x : Int) < R[k].1 + j
      · rw [if_pos h1, if_pos (by omega)]
      · rw [if_neg h1, if_neg (by omega)]
  · rw [List.getElem?_eq_none (by simp [inB_len]; omega), List.getElem?_eq_none (by rw [inB_len]; omega)]
theorem apart_at {R : List (Int × Int)} {P : Int} (hp : ∀ x, cnt x R = if 0 ≤ x ∧ x < P then 1 else 0) {k : Nat} {j : Int} (hk : k < R.length) (hj : 0 ≤ j) (hj2 : j < R[k].2) :
    (0 ≤ R[k].1 + j ∧ R[k].1 + j < P) ∧ cnt (R[k].1 + j) (R.take k) + ind (R[k].1 + j) ((R.getD k (0, 0)).1, j) = 0 := by
  have e2 : R.getD k (0, 0) = R[k] := by simp [List.getD, hk]
  have e : R = R.take k ++ R[k] :: R.drop (k + 1) := by rw [← List.drop_eq_getElem_cons hk, List.take_append_drop]
  have h1 := hp (R[k].1 + j)
  have h2 := cnt_nn (R[k].1 + j) (R.take k)
  have h3 := cnt_nn (R[k].1 + j) (R.drop (k + 1))
  have h4 : ind (R[k].1 + j) R[k] = 1 := by unfold ind; rw [if_pos (by omega)]
  have h5 : ind (R[k].1 + j) (R[k].1, j) = 0 := by unfold ind; rw [if_neg (by simp only; omega)]
  have h6 : ∀ y, cnt y R = cnt y (R.take k) + (ind y R[k] + cnt y (R.drop (k + 1))) := fun y => by
    have := congrArg (cnt y) e
    rw [cnt_append] at this
    exact this
  rw [e2, h5]
  rw [h6 (R[k].1 + j), h4] at h1
  split at h1
  · rename_i hc
    exact ⟨hc, by omega⟩
  · omega
theorem tot_take {R : List (Int × Int)} {k : Nat} (hk : k < R.length) : totI (R.take (k + 1)) = totI (R.take k) + R[k].2 := by
  rw [List.take_succ_eq_append_getElem hk, tot_append]; simp [totI]
theorem tot_nn : ∀ {R : List (Int × Int)}, (∀ r ∈ R, 1 ≤ r.2) → 0 ≤ totI R ∧ (R.length : Int) ≤ totI R
  | [], _ => ⟨Int.le_refl _, Int.le_refl _⟩
  | r :: R, h => by
    have := tot_nn (R := R) fun q hq => h q (by simp [hq])
    have := h r (by simp)
    rw [tot_cons]; simp; omega
theorem tot_take_le {R : List (Int × Int)} (h : ∀ r ∈ R, 1 ≤ r.2) (k : Nat) : 0 ≤ totI (R.take k) ∧ totI (R.take k) ≤ totI R := by
  have h1 := (tot_nn (R := R.take k) fun r hr => h r (List.mem_of_mem_take hr)).1
  have h2 := (tot_nn (R := R.drop k) fun r hr => h r (List.mem_of_mem_drop hr)).1
  have h3 : totI R = totI (R.take k) + totI (R.drop k) := by rw [← tot_append, List.take_append_drop]
  omega
/-- All runs: those that were got, the free ones, and those that are kept. -/
def allR (C : Co) (got : List (Int × Hd)) : List (Int × Int) := gr got ++ C.fr ++ kall C.ks 7
theorem allR_cnt {C : Co} {m : Int → Int} {got : List (Int × Hd)} (h : KInv C m got) (x : Int) : cnt x (allR C got) = if 0 ≤ x ∧ x < C.P then 1 else 0 := by
  have := h.part x
  unfold allR
  rw [cnt_append, cnt_append]
  unfold cC at this
  omega
theorem allR_tot {C : Co} {m : Int → Int} {got : List (Int × Hd)} (h : KInv C m got) : totI (allR C got) = C.P := by
  have := h.tot
  unfold allR
  rw [tot_append, tot_append]
  unfold tC at this
  omega
theorem allR_ok {C : Co} {m : Int → Int} {got : List (Int × Hd)} (h : KInv C m got) : ∀ r ∈ allR C got, RunOk C.P r := by
  intro r hr
  unfold allR at hr
  rcases List.mem_append.1 hr with hr | hr
  · rcases List.mem_append.1 hr with hr | hr
    · obtain ⟨q, hq, rfl⟩ := List.mem_map.1 hr
      exact h.run q hq
    · have := rf_mem h.ci.ok.right r hr
      exact ⟨this.1, this.2⟩
  · exact kall_run h.ci r hr
theorem allR_len {C : Co} {m : Int → Int} {got : List (Int × Hd)} (h : KInv C m got) : ((allR C got).length : Int) ≤ C.P := by
  have := (tot_nn (R := allR C got) fun r hr => (allR_ok h r hr).2.1).2
  rw [allR_tot h] at this
  exact this
end Go.Proofs.Yteobjankkcdaoaa.Sep
