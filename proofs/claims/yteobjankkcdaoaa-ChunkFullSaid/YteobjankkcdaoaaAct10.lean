import Derived.Test.YteobjankkcdaoaaAwakeK
import Derived.Test.YteobjankkcdaoaaRowF
namespace Go.Proofs.Yteobjankkcdaoaa.Sep
open Go.RowKit
set_option linter.unusedSimpArgs false
set_option linter.unusedVariables false
/-! what the laws of chapter 10 share -/
def act10Ks : List IntKind := [.i64, .i64, .u64, .u8]
theorem flat_act10 : FlatT Try.prog 28 (.u8 :: act10Ks) := flat_struct Try.underlying28 [[.u8], [.i64], [.i64], [.u64], [.u8]] ⟨rfl, flat_int Try.underlying5 (by kernel_rfl), rfl, flat_int Try.underlying3 (by kernel_rfl), rfl, flat_int Try.underlying3 (by kernel_rfl), rfl, flat_int Try.underlying26 (by kernel_rfl), rfl, flat_int Try.underlying5 (by kernel_rfl), trivial⟩ (by kernel_rfl)
theorem wf_act10 {x : List Int} (h : WfR (.u8 :: act10Ks) x) : ∃ d p k o w, x = [d, p, k, o, w] ∧ (0 ≤ d ∧ d ≤ 255) ∧ (0 ≤ o ∧ o < 18446744073709551616) ∧ (0 ≤ w ∧ w ≤ 255) ∧ (-9223372036854775808 ≤ p ∧ p ≤ 9223372036854775807) ∧ (-9223372036854775808 ≤ k ∧ k ≤ 9223372036854775807) := by
  unfold act10Ks at h
  match x, h with
  | [d, p, k, o, w], h =>
    have h4 := wf_u64 h.2.2.2.1
    exact ⟨d, p, k, o, w, rfl, wf_u8 h.1, ⟨h4.1, by omega⟩, wf_u8 h.2.2.2.2.1, wf_i64 h.2.1, wf_i64 h.2.2.1⟩
/-- A chunk of those that were got is put: it goes. -/
theorem put_ok0 {C : Co} {m : Int → Int} {l1 l2 : List (Int × Hd)} {p : Int} {hd : Hd} (h : KInv C m (l1 ++ (p, hd) :: l2)) : readI C.P m p = (hd, 0) ∧ putCE C (p, hd.pages) = 0 := by
  have hr : RunOk C.P (p, hd.pages) := h.run (p, hd) (by simp)
  have hh := h.hdr (p, hd) (by simp)
  have hr' := hr
  unfold RunOk at hr'
  simp only at hr'
  refine ⟨readI_hdr ⟨hr'.1, by omega⟩ hh.1 hh.2, ?_⟩
  unfold putCE
  split
  · rfl
  · have hd' : ∀ x, cnt x C.fr + ind x (p, hd.pages) ≤ 1 := fun x => by
      have h1 := h.part x
      have h2 := cnt_mem (x := x) (r := (p, hd.pages)) (l := gr (l1 ++ (p, hd) :: l2)) (List.mem_map.2 ⟨(p, hd), by simp, rfl⟩)
      have h3 := part_le1 (x := x) (P := C.P)
      have h4 := cnt_nn x (kall C.ks 7)
      unfold cC at h1
      omega
    have hs := giveI_some h.ci.ok.right hr'.1 hr'.2.1 hr'.2.2 hd'
    unfold giveE
    rw [hs]; rfl
theorem bestU_none {xs : List (Int × Int)} {n : Int} (hn : 0 < n) : ∀ {i : Nat}, bestU xs n i = none → ∀ j, j < i → (xs.getD j (0, 0)).2 < n
  | 0, h, j, hj => by omega
  | i + 1, h, j, hj => by
    simp only [bestU] at h
    split at h
    · cases h
    · rename_i hc
      rw [h] at hc
      rcases Nat.lt_succ_iff_lt_or_eq.1 hj with hj | rfl
      · exact bestU_none hn h j hj
      · by_cases hv : n ≤ (xs.getD j (0, 0)).2
        · exact absurd ⟨hn, hv, rfl⟩ hc
        · omega
theorem take_none {C : Co} {n : Int} (hn : 1 ≤ n) (h : (takeC C n).2.2 = 4) : ∀ r ∈ C.fr, r.2 < n := by
  unfold takeC at h
  rw [if_neg (by omega)] at h
  cases ht : takeI C.fr n with
  | some q => rw [ht] at h; cases h
  | none =>
    unfold takeI at ht
    have hb : bestU C.fr n C.fr.length = none := by
      cases hb : bestU C.fr n C.fr.length with
      | none => rfl
      | some j => rw [hb] at ht; cases ht
    intro r hr
    obtain ⟨j, hj, rfl⟩ := List.getElem_of_mem hr
    have := bestU_none (by omega) hb j hj
    simpa [List.getD, hj] using this
theorem take_code {C : Co} {n : Int} (hn : 1 ≤ n) : (takeC C n).2.2 = 0 ∨ (takeC C n).2.2 = 4 := by
  unfold takeC
  rw [if_neg (by omega)]
  cases takeI C.fr n with
  | none => exact .inr rfl
  | some q => exact .inl rfl
theorem kall0 {C : Co} (h : CoOk C) (h0 : ¬ 0 < trimN C) : kall C.ks 7 = [] := by
  cases hk : kall C.ks 7 with
  | nil => rfl
  | cons r l =>
    exfalso
    unfold trimN at h0
    rw [hk, tot_cons] at h0
    have h1 := kall_bd h (r := r) (by rw [hk]; simp)
    have h2 := tot_le (l := l) (fun q hq => (kall_bd h (r := q) (by rw [hk]; simp [hq])).2.2)
    omega
/-- There is no room just if, trimmed, no run is long enough. -/
theorem get_full {C : Co} {n : Int} (h : CoOk C) (hn : 1 ≤ n) (hz : (getC C n).2.2 ≠ 0) : (getC C n).2.2 = 4 ∧ (getC C n).1 = trimC C ∧ ∀ r ∈ (trimC C).fr, r.2 < n := by
  unfold getC at hz ⊢
  split at hz
  · exact absurd rfl hz
  · rename_i hc
    rw [if_neg hc]
    split at hz
    · rename_i he
      rw [if_pos he]
      split at hz
      · rename_i h3
        rw [if_pos h3]
        rcases take_code (C := trimC C) hn with h4 | h4
        · exact absurd h4 hz
        · exact ⟨h4, (takeC_full h4).1, take_none hn h4⟩
      · rename_i h3
        rw [if_neg h3]
        refine ⟨he, rfl, ?_⟩
        have hf : (trimC C).fr = C.fr := by unfold trimC; rw [kall0 h h3]; rfl
        rw [hf]
        exact take_none hn he
    · rename_i he
      rcases take_code (C := C) hn with h4 | h4
      · exact absurd h4 hz
      · exact absurd h4 he
theorem trim_trim (C : Co) : (trimC (trimC C)).fr = (trimC C).fr := rfl
end Go.Proofs.Yteobjankkcdaoaa.Sep
