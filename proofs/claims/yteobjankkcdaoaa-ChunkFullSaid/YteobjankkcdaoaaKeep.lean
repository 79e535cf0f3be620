import Derived.Test.YteobjankkcdaoaaMem
import Derived.Test.YteobjankkcdaoaaPart
namespace Go.Proofs.Yteobjankkcdaoaa.Sep
open Go.RowKit
set_option linter.unusedSimpArgs false
set_option linter.unusedVariables false
/-! chunks of a space, plain: each page is free, kept or in one chunk that was got; each of these has its header -/
def rnd (p : Int) : Int := max p (cpages (cclass p))
theorem rnd_ok {p : Int} (h1 : 1 ≤ p) (h2 : p ≤ 1048576) : p ≤ rnd p ∧ rnd p ≤ 1048576 ∧ (0 ≤ cclass (rnd p) → cpages (cclass (rnd p)) = rnd p) ∧ cclass (rnd p) = cclass p ∧ (64 < p → rnd p = p) ∧ (p ≤ 64 → rnd p ≤ 64 ∧ rnd p ≤ 2 * p - 1) := by
  have hc : (p ≤ 1 ∧ cclass p = 0) ∨ (p ≤ 2 ∧ 2 ≤ p ∧ cclass p = 1) ∨ (p ≤ 4 ∧ 3 ≤ p ∧ cclass p = 2) ∨ (p ≤ 8 ∧ 5 ≤ p ∧ cclass p = 3) ∨ (p ≤ 16 ∧ 9 ≤ p ∧ cclass p = 4) ∨ (p ≤ 32 ∧ 17 ≤ p ∧ cclass p = 5) ∨ (p ≤ 64 ∧ 33 ≤ p ∧ cclass p = 6) ∨ (65 ≤ p ∧ cclass p = -1) := by
    unfold cclass
    repeat' split
    all_goals omega
  have e : ∀ k n : Int, cclass p = k → cpages k = n → p ≤ n → rnd p = n := fun k n a b c => by unfold rnd; rw [a, b]; omega
  rcases hc with ⟨a, b⟩ | ⟨a, a', b⟩ | ⟨a, a', b⟩ | ⟨a, a', b⟩ | ⟨a, a', b⟩ | ⟨a, a', b⟩ | ⟨a, a', b⟩ | ⟨a, b⟩
  · rw [e 0 1 b (by decide) a, b]; refine ⟨a, by decide, by decide, by decide, by omega, by omega⟩
  · rw [e 1 2 b (by decide) a, b]; refine ⟨a, by decide, by decide, by decide, by omega, by omega⟩
  · rw [e 2 4 b (by decide) a, b]; refine ⟨a, by decide, by decide, by decide, by omega, by omega⟩
  · rw [e 3 8 b (by decide) a, b]; refine ⟨a, by decide, by decide, by decide, by omega, by omega⟩
  · rw [e 4 16 b (by decide) a, b]; refine ⟨a, by decide, by decide, by decide, by omega, by omega⟩
  · rw [e 5 32 b (by decide) a, b]; refine ⟨a, by decide, by decide, by decide, by omega, by omega⟩
  · rw [e 6 64 b (by decide) a, b]; refine ⟨a, by decide, by decide, by decide, by omega, by omega⟩
  · have : rnd p = p := by unfold rnd; rw [b, show cpages (-1) = 0 from by decide]; omega
    rw [this, b]
    refine ⟨by omega, h2, fun h => absurd h (by decide), rfl, fun _ => rfl, by omega⟩
def gr (got : List (Int × Hd)) : List (Int × Int) := got.map fun q => (q.1, q.2.pages)
theorem gr_app (a b : List (Int × Hd)) : gr (a ++ b) = gr a ++ gr b := by simp [gr]
def HdGood (h : Hd) : Prop := HdOk h ∧ 0 ≤ h.owner ∧ h.owner < 18446744073709551616 ∧ h.next = 0
structure KInv (C : Co) (m : Int → Int) (got : List (Int × Hd)) : Prop where
  ci : CInv C
  run : ∀ q ∈ got, RunOk C.P (q.1, q.2.pages)
  part : ∀ x, cC x C + cnt x (gr got) = if 0 ≤ x ∧ x < C.P then 1 else 0
  tot : tC C + totI (gr got) = C.P
  hdr : ∀ q ∈ got, rdM m (q.1 * 4096) 32 = hdB q.2 ∧ HdGood q.2
theorem part_le1 {x P : Int} : (if 0 ≤ x ∧ x < P then (1 : Int) else 0) ≤ 1 := by split <;> omega
theorem KInv.le {C : Co} {m : Int → Int} {got : List (Int × Hd)} (h : KInv C m got) (x : Int) : cC x C ≤ 1 := by
  have h1 := h.part x
  have h2 := cnt_nn x (gr got)
  have h3 := part_le1 (x := x) (P := C.P)
  omega
theorem knew (p : Int) (m : Int → Int) : KInv ⟨min (max p 1) 1048576, [(0, min (max p 1) 1048576)], fun _ => []⟩ m [] := by
  have h1 : 1 ≤ min (max p 1) 1048576 := by omega
  have h2 : min (max p 1) 1048576 ≤ 1048576 := by omega
  generalize min (max p 1) 1048576 = P at h1 h2
  refine ⟨⟨⟨h1, h2, ⟨by show (0 : Int) ≤ 0; omega, h1, by show 0 + P ≤ P; omega, trivial⟩, fun k hk => ⟨Nat.zero_le _, fun p hp => (by cases hp)⟩⟩, fun k hk p hp => (by cases hp)⟩, fun q hq => (by cases hq), fun x => ?_, ?_, fun q hq => (by cases hq)⟩
  · show cnt x [(0, P)] + cnt x (kall (fun _ => []) 7) + cnt x [] = _
    rw [kall_nil]
    simp only [cnt, ind]
    by_cases hx : 0 ≤ x ∧ x < P
    · rw [if_pos hx, if_pos (by omega)]; omega
    · rw [if_neg hx, if_neg (by omega)]; omega
  · show totI [(0, P)] + totI (kall (fun _ => []) 7) + totI [] = P
    rw [kall_nil]; simp [totI]
theorem ind_self {p n : Int} (h : 1 ≤ n) : ind p (p, n) = 1 := by unfold ind; rw [if_pos]; simp; omega
/-- A chunk is got. -/
theorem kget {C : Co} {m : Int → Int} {got : List (Int × Hd)} {hd : Hd} (h : KInv C m got) (hh : HdGood hd) (hc : 0 ≤ cclass hd.pages → cpages (cclass hd.pages) = hd.pages) (h0 : (getC C hd.pages).2.2 = 0) :
    KInv (getC C hd.pages).1 (wrM m ((getC C hd.pages).2.1 * 4096) (hdB hd)) (got ++ [((getC C hd.pages).2.1, hd)]) ∧ (getC C hd.pages).1.P = C.P ∧ RunOk C.P ((getC C hd.pages).2.1, hd.pages) := by
  obtain ⟨g1, g2, g3, _⟩ := get_inv h.ci h.le hh.1.1 hc
  obtain ⟨g4, g5, g6⟩ := g3 h0
  generalize getC C hd.pages = G at *
  obtain ⟨C', p, e⟩ := G
  simp only at *
  refine ⟨⟨g1, fun q hq => ?_, fun x => ?_, ?_, fun q hq => ?_⟩, g2, g4⟩
  · rw [g2]
    rcases List.mem_append.1 hq with hq | hq
    · exact h.run q hq
    · simp at hq; subst hq; exact g4
  · rw [g2, ← h.part x, g5 x, gr_app, cnt_append]
    show _ + (_ + (ind x (p, hd.pages) + 0)) = _
    omega
  · rw [g2, gr_app, tot_append]
    have := h.tot
    have e : totI (gr [(p, hd)]) = hd.pages := by simp [gr, totI]
    rw [e]
    omega
  · rcases List.mem_append.1 hq with hq | hq
    · refine ⟨?_, (h.hdr q hq).2⟩
      have hne : q.1 ≠ p := by
        intro he
        have h1 := h.part p
        have h2 := g5 p
        have h3 := ind_self (p := p) hh.1.1
        have h4 := cnt_mem (x := p) (r := (q.1, q.2.pages)) (l := gr got) (List.mem_map.2 ⟨q, hq, rfl⟩)
        rw [he, ind_self (h.hdr q hq).2.1.1] at h4
        have h5 := cC_nn p C'
        have h6 := part_le1 (x := p) (P := C.P)
        omega
      rw [rd_wr_ne (by rw [hdB_len]; omega)]
      exact (h.hdr q hq).1
    · simp at hq; subst hq
      refine ⟨?_, hh⟩
      have := rd_wr m (p * 4096) (hdB hd)
      rw [hdB_len] at this
      exact this
/-- There was no room: only what is kept may have gone. -/
theorem knot {C : Co} {m : Int → Int} {got : List (Int × Hd)} {n : Int} (h : KInv C m got) (hn : 1 ≤ n) (hc : 0 ≤ cclass n → cpages (cclass n) = n) (h0 : (getC C n).2.2 ≠ 0) : KInv (getC C n).1 m got ∧ (getC C n).1.P = C.P := by
  obtain ⟨g1, g2, _, g3⟩ := get_inv h.ci h.le hn hc
  obtain ⟨g5, g6⟩ := g3 h0
  refine ⟨⟨g1, fun q hq => by rw [g2]; exact h.run q hq, fun x => by rw [g2, g5 x]; exact h.part x, by rw [g2, g6]; exact h.tot, h.hdr⟩, g2⟩
/-- A chunk is put. -/
theorem kput {C : Co} {m : Int → Int} {l1 l2 : List (Int × Hd)} {p : Int} {hd : Hd} (h : KInv C m (l1 ++ (p, hd) :: l2)) : KInv (putC C (p, hd.pages)) (zrM m (p * 4096) 32) (l1 ++ l2) ∧ (putC C (p, hd.pages)).P = C.P := by
  have hr : RunOk C.P (p, hd.pages) := h.run (p, hd) (by simp)
  have hcn : ∀ x, cC x C + (cnt x (gr l1) + (ind x (p, hd.pages) + cnt x (gr l2))) = if 0 ≤ x ∧ x < C.P then 1 else 0 := fun x => by
    have := h.part x
    rw [gr_app, cnt_append] at this
    exact this
  obtain ⟨g1, g2, g3, g4⟩ := put_inv h.ci hr (fun x => by
    have := hcn x; have := cnt_nn x (gr l1); have := cnt_nn x (gr l2); have := part_le1 (x := x) (P := C.P); omega)
  refine ⟨⟨g1, fun q hq => ?_, fun x => ?_, ?_, fun q hq => ?_⟩, g2⟩
  · rw [g2]; exact h.run q (by rcases List.mem_append.1 hq with hq | hq <;> simp [hq])
  · rw [g2, g3 x, ← hcn x, gr_app, cnt_append]; omega
  · have := h.tot
    rw [gr_app, tot_append] at this
    rw [g2, g4, gr_app, tot_append]
    have e : totI (gr ((p, hd) :: l2)) = hd.pages + totI (gr l2) := tot_cons _ _
    simp only at *
    omega
  · have hq' : q ∈ l1 ++ (p, hd) :: l2 := by rcases List.mem_append.1 hq with hq | hq <;> simp [hq]
    refine ⟨?_, (h.hdr q hq').2⟩
    have hne : q.1 ≠ p := by
      intro he
      have h1 := hcn p
      have h3 := ind_self (p := p) (h.hdr (p, hd) (by simp)).2.1.1
      have h4 : ind p (q.1, q.2.pages) ≤ cnt p (gr l1) + cnt p (gr l2) := by
        have := cnt_mem (x := p) (r := (q.1, q.2.pages)) (l := gr (l1 ++ l2)) (List.mem_map.2 ⟨q, hq, rfl⟩)
        rwa [gr_app, cnt_append] at this
      rw [he, ind_self (h.hdr q hq').2.1.1] at h4
      have h5 := cC_nn p C
      have h6 := part_le1 (x := p) (P := C.P)
      simp only at h3
      omega
    rw [rd_zr_ne (by omega)]
    exact (h.hdr q hq').1
theorem ktrim {C : Co} {m : Int → Int} {got : List (Int × Hd)} (h : KInv C m got) : KInv (trimC C) m got := by
  obtain ⟨g1, g2, g3⟩ := trim_inv h.ci h.le
  exact ⟨g1, h.run, fun x => by rw [g2 x]; exact h.part x, by rw [g3]; exact h.tot, h.hdr⟩
theorem kdone {C : Co} {m : Int → Int} (h : KInv C m []) : (trimC C).fr = [(0, C.P)] := by
  have ht := ktrim h
  refine free_all h.ci.ok.p1 ht.ci.ok.right fun x h0 h1 => ?_
  have := ht.part x
  have h2 : cC x (trimC C) = cnt x (trimC C).fr := by
    show cnt x (trimC C).fr + cnt x (kall (fun _ => []) 7) = _
    rw [kall_nil]; simp [cnt]
  rw [h2, if_pos ⟨h0, h1⟩] at this
  simp only [gr, List.map_nil, cnt] at this
  omega
end Go.Proofs.Yteobjankkcdaoaa.Sep
