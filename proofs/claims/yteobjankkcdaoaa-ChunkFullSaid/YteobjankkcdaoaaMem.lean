import Derived.Test.YteobjankkcdaoaaWord
import Derived.Test.YteobjankkcdaoaaSepZ
namespace Go.Proofs.Yteobjankkcdaoaa.Sep
set_option linter.unusedSimpArgs false
set_option linter.unusedVariables false
/-! the pages of a space: plain -/
def memOf (M : List (Int × Nat × List Int)) (a : Int) : Int := match lk M (a / 4096) with
  | none => 0
  | some q => q.2.getD (a % 4096).toNat 0
def POk (P : Int) (M : List (Int × Nat × List Int)) : Prop := ∀ q ∈ M, 0 ≤ q.1 ∧ q.1 < P ∧ q.2.2.length = 4096
def cutIn (xs : List Int) (i : Nat) (bs : List Int) : List Int := xs.take i ++ (bs ++ xs.drop (i + bs.length))
theorem cutIn_len {xs bs : List Int} {i : Nat} (h : i + bs.length ≤ xs.length) : (cutIn xs i bs).length = xs.length := by simp [cutIn]; omega
theorem cutIn_get {xs bs : List Int} {i j : Nat} (h : i + bs.length ≤ xs.length) : (cutIn xs i bs).getD j 0 = if i ≤ j ∧ j < i + bs.length then bs.getD (j - i) 0 else xs.getD j 0 := by
  simp only [List.getD, cutIn]
  congr 1
  by_cases h1 : j < i
  · rw [List.getElem?_append_left (by simp; omega), List.getElem?_take_of_lt h1, if_neg (by omega)]
  · rw [List.getElem?_append_right (by simp; omega), List.length_take, Nat.min_eq_left (by omega)]
    by_cases h2 : j < i + bs.length
    · rw [if_pos ⟨by omega, h2⟩, List.getElem?_append_left (by omega)]
    · rw [if_neg (by omega), List.getElem?_append_right (by omega), List.getElem?_drop, show i + bs.length + (j - i - bs.length) = j from by omega]
theorem rep0 (n j : Nat) : (List.replicate n (0 : Int)).getD j 0 = 0 := by
  simp only [List.getD, List.getElem?_replicate]
  split <;> rfl
theorem memOf_new {M : List (Int × Nat × List Int)} {p : Int} {b : Nat} (h : lk M p = none) (a : Int) : memOf (ins M p (b, List.replicate 4096 0)) a = memOf M a := by
  unfold memOf
  rw [lk_ins]
  by_cases e : a / 4096 = p
  · rw [if_pos e, e, h]
    exact rep0 _ _
  · rw [if_neg e]
theorem memOf_put {M : List (Int × Nat × List Int)} {p : Int} {b : Nat} {xs bs : List Int} {i : Nat} (h : lk M p = some (b, xs)) (hl : xs.length = 4096) (hi : i + bs.length ≤ 4096) (a : Int) :
    memOf (ins M p (b, cutIn xs i bs)) a = wrM (memOf M) (p * 4096 + i) bs a := by
  simp only [memOf, wrM, lk_ins]
  by_cases e : a / 4096 = p
  · rw [if_pos e, e, h]
    simp only
    rw [cutIn_get (by omega)]
    by_cases h2 : i ≤ (a % 4096).toNat ∧ (a % 4096).toNat < i + bs.length
    · rw [if_pos h2, if_pos (by omega)]
      congr 1; omega
    · rw [if_neg h2, if_neg (by omega)]
  · rw [if_neg e, if_neg (by omega)]
theorem wr_nil (m : Int → Int) (at_ : Int) : wrM m at_ [] = m := by
  funext a; simp only [wrM]; rw [if_neg (by simp only [List.length_nil]; omega)]
theorem wr_wr (m : Int → Int) (at_ : Int) (bs cs : List Int) : wrM (wrM m at_ bs) (at_ + bs.length) cs = wrM m at_ (bs ++ cs) := by
  funext a
  simp only [wrM, List.length_append]
  by_cases h1 : at_ + bs.length ≤ a ∧ a < at_ + bs.length + cs.length
  · rw [if_pos h1, if_pos (by omega)]
    simp only [List.getD]
    rw [List.getElem?_append_right (by omega)]
    congr 2; omega
  · rw [if_neg h1]
    by_cases h2 : at_ ≤ a ∧ a < at_ + bs.length
    · rw [if_pos h2, if_pos (by omega)]
      simp only [List.getD]
      rw [List.getElem?_append_left (by omega)]
    · rw [if_neg h2, if_neg (by omega)]
theorem rd_app (m : Int → Int) (at_ : Int) (n k : Nat) : rdM m at_ (n + k) = rdM m at_ n ++ rdM m (at_ + n) k := by
  simp only [rdM, List.range_add, List.map_append, List.map_map]
  congr 1
  apply List.map_congr_left
  intro i _
  simp [Int.add_assoc]
theorem rd_page {M : List (Int × Nat × List Int)} {p : Int} {b : Nat} {xs : List Int} {i n : Nat} (h : lk M p = some (b, xs)) (hl : xs.length = 4096) (hi : i + n ≤ 4096) : rdM (memOf M) (p * 4096 + i) n = (xs.drop i).take n := by
  apply List.ext_getElem?
  intro j
  by_cases hj : j < n
  · simp only [rdM, List.getElem?_map, List.getElem?_range hj, Option.map_some, memOf]
    rw [show (p * 4096 + (i : Int) + (j : Int)) / 4096 = p from by omega, h]
    simp only
    rw [show ((p * 4096 + (i : Int) + (j : Int)) % 4096).toNat = i + j from by omega, List.getElem?_take_of_lt hj, List.getElem?_drop, List.getD]
    have : i + j < xs.length := by omega
    simp [this]
  · rw [List.getElem?_eq_none (by simp [rdM]; omega), List.getElem?_eq_none (by simp; omega)]
theorem rd_none {M : List (Int × Nat × List Int)} {p : Int} {i n : Nat} (h : lk M p = none) (hi : i + n ≤ 4096) : rdM (memOf M) (p * 4096 + i) n = List.replicate n 0 := by
  apply List.ext_getElem?
  intro j
  by_cases hj : j < n
  · simp only [rdM, List.getElem?_map, List.getElem?_range hj, Option.map_some, memOf]
    rw [show (p * 4096 + (i : Int) + (j : Int)) / 4096 = p from by omega, h]
    simp [hj]
  · rw [List.getElem?_eq_none (by simp [rdM]; omega), List.getElem?_eq_none (by simp; omega)]
end Go.Proofs.Yteobjankkcdaoaa.Sep
