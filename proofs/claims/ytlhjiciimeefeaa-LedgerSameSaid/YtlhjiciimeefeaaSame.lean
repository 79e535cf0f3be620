import Derived.Test.YtlhjiciimeefeaaAct19
import Derived.Test.YtlhjiciimeefeaaLedJ
namespace Go.Proofs.Ytlhjiciimeefeaa.Sep
open Go.RowKit
set_option linter.unusedSimpArgs false
set_option linter.unusedVariables false
/-! the plain law of two ledgers on which the same is done: one has some more regions, in which nothing was made -/
section
variable {α : Type} (p : Int → Bool)
def fil (l : List (Int × α)) : List (Int × α) := l.filter fun q => p q.1
theorem fil_cons (k : Int) (v : α) (l : List (Int × α)) : fil p ((k, v) :: l) = if p k = true then (k, v) :: fil p l else fil p l := by
  unfold fil
  rw [List.filter_cons]
theorem lk_fil {k : Int} (hp : p k = true) : ∀ l : List (Int × α), lk (fil p l) k = lk l k
  | [] => rfl
  | (k', v) :: l => by
    rw [fil_cons]
    by_cases h : k = k'
    · subst h; rw [if_pos hp]; simp [lk]
    · have ih := lk_fil hp l
      split
      · simp only [lk, if_neg h, ih]
      · simp only [lk, if_neg h, ih]
theorem ins_fil {k : Int} (hp : p k = true) (v : α) : ∀ l : List (Int × α), fil p (ins l k v) = ins (fil p l) k v
  | [] => by rw [ins, fil_cons, if_pos hp]; rfl
  | (k', u) :: l => by
    rw [fil_cons]
    by_cases h : k = k'
    · subst h
      rw [if_pos hp]
      simp only [ins, if_true]
      rw [fil_cons, if_pos hp]
    · have ih := ins_fil hp v l
      simp only [ins, if_neg h]
      rw [fil_cons]
      split
      · rw [ih]; simp only [ins, if_neg h]
      · exact ih
theorem del_fil {k : Int} (hp : p k = true) : ∀ l : List (Int × α), fil p (del l k) = del (fil p l) k
  | [] => rfl
  | (k', u) :: l => by
    rw [fil_cons]
    by_cases h : k = k'
    · subst h
      rw [if_pos hp]
      simp only [del, if_true]
    · have ih := del_fil hp l
      simp only [del, if_neg h]
      rw [fil_cons]
      split
      · rw [ih]; simp only [del, if_neg h]
      · exact ih
theorem del_out {k : Int} (hp : p k = false) : ∀ l : List (Int × α), fil p (del l k) = fil p l
  | [] => rfl
  | (k', u) :: l => by
    by_cases h : k = k'
    · subst h
      simp only [del, if_true]
      rw [fil_cons, if_neg (by simp [hp])]
    · have ih := del_out hp l
      simp only [del, if_neg h]
      rw [fil_cons, fil_cons, ih]
theorem app_fil (k : Int) (v : α) (l : List (Int × α)) : fil p (l ++ [(k, v)]) = if p k = true then fil p l ++ [(k, v)] else fil p l := by
  unfold fil
  rw [List.filter_append, List.filter_cons]
  split <;> simp
end
def low (z : Int) : Bool := decide (z < 100)
/-- y is x, and some regions more in which nothing was made. -/
structure SRel (x y : List (Int × Sh)) : Prop where
  same : fil low y = x
  rest : ∀ q ∈ y, low q.1 = false → q.2 = emptySh
theorem SRel.lk {x y : List (Int × Sh)} (h : SRel x y) {id : Int} (hi : id < 100) : lk x id = lk y id := by
  rw [← h.same]; exact lk_fil low (by simp [low, hi]) y
theorem SRel.ins {x y : List (Int × Sh)} (h : SRel x y) {id : Int} (hi : id < 100) (s : Sh) : SRel (Sep.ins x id s) (Sep.ins y id s) := by
  have hl : low id = true := by simp [low, hi]
  refine ⟨by rw [ins_fil low hl, h.same], fun q hq hf => ?_⟩
  cases hk : Sep.lk y id with
  | none =>
    rw [ins_new hk] at hq
    rcases List.mem_append.1 hq with hq | hq
    · exact h.rest q hq hf
    · simp at hq; subst hq; rw [hl] at hf; cases hf
  | some s0 =>
    obtain ⟨l1, l2, rfl, hn⟩ := lk_split hk
    rw [ins_split hn] at hq
    rcases List.mem_append.1 hq with hq | hq
    · exact h.rest q (by simp [hq]) hf
    · rcases List.mem_cons.1 hq with rfl | hq
      · rw [hl] at hf; cases hf
      · exact h.rest q (by simp [hq]) hf
theorem SRel.app {x y : List (Int × Sh)} (h : SRel x y) {id : Int} (hi : id < 100) : SRel (x ++ [(id, emptySh)]) (y ++ [(id, emptySh)]) := by
  have hl : low id = true := by simp [low, hi]
  refine ⟨by rw [app_fil, if_pos hl, h.same], fun q hq hf => ?_⟩
  rcases List.mem_append.1 hq with hq | hq
  · exact h.rest q hq hf
  · simp at hq; subst hq; rfl
theorem SRel.del {x y : List (Int × Sh)} (h : SRel x y) {id : Int} (hi : id < 100) : SRel (Sep.del x id) (Sep.del y id) := by
  have hl : low id = true := by simp [low, hi]
  refine ⟨by rw [del_fil low hl, h.same], fun q hq hf => ?_⟩
  cases hk : Sep.lk y id with
  | none =>
    have hd : Sep.del y id = y := by
      clear hq h
      induction y with
      | nil => rfl
      | cons r t ih =>
        obtain ⟨k', u⟩ := r
        simp only [Sep.lk] at hk
        split at hk
        · cases hk
        · rename_i he; simp only [Sep.del, if_neg he, ih hk]
    rw [hd] at hq
    exact h.rest q hq hf
  | some s0 =>
    obtain ⟨l1, l2, rfl, hn⟩ := lk_split hk
    rw [del_split hn] at hq
    rcases List.mem_append.1 hq with hq | hq
    · exact h.rest q (by simp [hq]) hf
    · exact h.rest q (by simp [hq]) hf
/-- A region more. -/
theorem SRel.more {x y : List (Int × Sh)} (h : SRel x y) {id : Int} (hi : 100 ≤ id) : SRel x (y ++ [(id, emptySh)]) := by
  have hl : ¬ low id = true := by simp [low]; omega
  refine ⟨by rw [app_fil, if_neg hl, h.same], fun q hq hf => ?_⟩
  rcases List.mem_append.1 hq with hq | hq
  · exact h.rest q hq hf
  · simp at hq; subst hq; rfl
/-- One of those ends. -/
theorem SRel.less {x y : List (Int × Sh)} (h : SRel x y) {id : Int} {s : Sh} (hi : 100 ≤ id) (hk : Sep.lk y id = some s) : SRel x (Sep.del y id) ∧ s = emptySh := by
  have hl : low id = false := by simp [low]; omega
  obtain ⟨l1, l2, rfl, hn⟩ := lk_split hk
  refine ⟨⟨by rw [del_out low hl, h.same], fun q hq hf => ?_⟩, h.rest (id, s) (by simp) hl⟩
  rw [del_split hn] at hq
  rcases List.mem_append.1 hq with hq | hq
  · exact h.rest q (by simp [hq]) hf
  · exact h.rest q (by simp [hq]) hf
theorem puts_empty (C : Co) : putsC C emptySh 0 0 = C := rfl
theorem SRel.sum {f : Sh → Int} (hf : f emptySh = 0) : ∀ {y x : List (Int × Sh)}, SRel x y → sumF f x = sumF f y
  | [], x, h => by rw [← h.same]; rfl
  | (k, s) :: y, x, h => by
    have h2 : SRel (fil low y) y := ⟨rfl, fun q hq => h.rest q (by simp [hq])⟩
    have ih := SRel.sum hf h2
    rw [← h.same, fil_cons]
    by_cases hl : low k = true
    · rw [if_pos hl]; simp only [sumF, ih]
    · rw [if_neg hl, ih]
      have := h.rest (k, s) (by simp) (by simpa using hl)
      simp only at this
      subst this
      simp only [sumF, hf]; omega
/-- Both tell the same meter. -/
theorem SRel.meter {x y : List (Int × Sh)} (h : SRel x y) (C : Co) : meterL C x = meterL C y := by
  unfold meterL slackI
  rw [h.sum (f := Sh.obj) rfl, h.sum (f := Sh.pad) rfl, h.sum (f := shHdr) rfl, h.sum (f := shPages) rfl]
end Go.Proofs.Ytlhjiciimeefeaa.Sep
