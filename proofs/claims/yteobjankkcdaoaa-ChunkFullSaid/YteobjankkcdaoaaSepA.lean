import Derived.StillTail
import Derived.Below
import Derived.Laws.Append
import Derived.Laws.Rows
import Derived.KernelRfl
namespace Go.Proofs.Yteobjankkcdaoaa.Sep
open Go.RowKit

abbrev PH := Nat → Option Obj
abbrev HP := PH → Prop
/-- The assertions of a list, apart from each other. -/
def SL : List HP → HP
  | [] => fun _ => True
  | A :: L => fun H => ∃ H1 H2, (∀ b, H1 b = none ∨ H2 b = none) ∧ (∀ b, H b = (H1 b).or (H2 b)) ∧ A H1 ∧ SL L H2
def PH.le (H : PH) (w : World) : Prop := ∀ b o, H b = some o → w.heap[b]? = some o
structure Sat (w0 w : World) (L : List HP) : Prop where
  os : w.os = w0.os
  tape : w.tape = w0.tape
  output : w.output = w0.output
  mem : ∃ H, PH.le H w ∧ SL L H

inductive Find : List HP → HP → List HP → Prop
  | here {A : HP} {L : List HP} : Find (A :: L) A L
  | there {A B : HP} {L R : List HP} : Find L A R → Find (B :: L) A (B :: R)
inductive FindAll : List HP → List HP → List HP → Prop
  | nil {L : List HP} : FindAll L [] L
  | cons {A : HP} {L As L1 R : List HP} : Find L A L1 → FindAll L1 As R → FindAll L (A :: As) R

theorem SL.swap {A B : HP} {L : List HP} {H : PH} (h : SL (A :: B :: L) H) : SL (B :: A :: L) H := by
  obtain ⟨H1, H2, d, u, hA, H3, H4, d', u', hB, hL⟩ := h
  refine ⟨H3, fun b => (H1 b).or (H4 b), fun b => ?_, fun b => ?_, hB, H1, H4, fun b => ?_, fun b => rfl, hA, hL⟩
  · have := d b; have := d' b; have := u' b
    cases h1 : H1 b <;> cases h3 : H3 b <;> cases h4 : H4 b <;> simp_all
  · rw [u b, u' b]
    have := d b; have := d' b; have := u' b
    cases h1 : H1 b <;> cases h3 : H3 b <;> cases h4 : H4 b <;> simp_all
  · have := d b; have := u' b
    cases h1 : H1 b <;> cases h3 : H3 b <;> cases h4 : H4 b <;> simp_all
theorem SL.cons {A : HP} {L L' : List HP} (h : ∀ H, SL L H → SL L' H) {H : PH} (hh : SL (A :: L) H) : SL (A :: L') H := by
  obtain ⟨H1, H2, d, u, hA, hL⟩ := hh
  exact ⟨H1, H2, d, u, hA, h _ hL⟩
theorem SL.head {A B : HP} {L : List HP} (h : ∀ H, A H → B H) {H : PH} (hh : SL (A :: L) H) : SL (B :: L) H := by
  obtain ⟨H1, H2, d, u, hA, hL⟩ := hh
  exact ⟨H1, H2, d, u, h _ hA, hL⟩
theorem Find.fwd {L R : List HP} {A : HP} (h : Find L A R) : ∀ {H : PH}, SL L H → SL (A :: R) H := by
  induction h with
  | here => exact fun h => h
  | there _ ih => exact fun h => SL.swap (SL.cons (fun _ => ih) h)
theorem Find.bwd {L R : List HP} {A : HP} (h : Find L A R) : ∀ {H : PH}, SL (A :: R) H → SL L H := by
  induction h with
  | here => exact fun h => h
  | there _ ih => exact fun h => SL.cons (fun _ => ih) (SL.swap h)
theorem FindAll.fwd {L As R : List HP} (h : FindAll L As R) : ∀ {H : PH}, SL L H → SL (As ++ R) H := by
  induction h with
  | nil => exact fun h => h
  | cons hf _ ih => exact fun h => SL.cons (fun _ => ih) (hf.fwd h)
theorem SL.le_self {A : HP} {L : List HP} {H : PH} (h : SL (A :: L) H) : ∃ H1, A H1 ∧ ∀ b o, H1 b = some o → H b = some o := by
  obtain ⟨H1, H2, d, u, hA, _⟩ := h
  exact ⟨H1, hA, fun b o hb => by rw [u b, hb]; rfl⟩
/-- What is left out is forgotten. -/
theorem SL.drop {A : HP} {L : List HP} {H : PH} (h : SL (A :: L) H) : ∃ H2, SL L H2 ∧ ∀ b o, H2 b = some o → H b = some o := by
  obtain ⟨H1, H2, d, u, _, hL⟩ := h
  refine ⟨H2, hL, fun b o hb => ?_⟩
  rw [u b, hb]
  rcases d b with h | h
  · rw [h]; rfl
  · rw [hb] at h; cases h
theorem Sat.drop {w0 w : World} {A : HP} {L : List HP} (h : Sat w0 w (A :: L)) : Sat w0 w L := by
  obtain ⟨H, hle, hs⟩ := h.mem
  obtain ⟨H2, h2, hsub⟩ := hs.drop
  exact ⟨h.os, h.tape, h.output, H2, fun b o hb => hle b o (hsub b o hb), h2⟩
theorem Sat.map {w0 w : World} {L L' : List HP} (h : Sat w0 w L) (hm : ∀ H, SL L H → SL L' H) : Sat w0 w L' := by
  obtain ⟨H, hle, hs⟩ := h.mem
  exact ⟨h.os, h.tape, h.output, H, hle, hm _ hs⟩
theorem Sat.find {w0 w : World} {L R : List HP} {A : HP} (h : Sat w0 w L) (hf : Find L A R) : Sat w0 w (A :: R) := h.map fun _ => hf.fwd
theorem Sat.unfind {w0 w : World} {L R : List HP} {A : HP} (h : Sat w0 w (A :: R)) (hf : Find L A R) : Sat w0 w L := h.map fun _ => hf.bwd
theorem Sat.findAll {w0 w : World} {L R As : List HP} (h : Sat w0 w L) (hf : FindAll L As R) : Sat w0 w (As ++ R) := h.map fun _ => hf.fwd
theorem SL.split {A : List HP} : ∀ {L : List HP} {H : PH}, SL (A ++ L) H → ∃ H1 H2, (∀ b, H1 b = none ∨ H2 b = none) ∧ (∀ b, H b = (H1 b).or (H2 b)) ∧ SL A H1 ∧ SL L H2 := by
  induction A with
  | nil => intro L H h; exact ⟨fun _ => none, H, fun _ => .inl rfl, fun _ => by simp, trivial, h⟩
  | cons B A ih =>
    intro L H h
    obtain ⟨H1, H2, d, u, hB, hr⟩ := h
    obtain ⟨H3, H4, d', u', hA, hL⟩ := ih hr
    refine ⟨fun b => (H1 b).or (H3 b), H4, fun b => ?_, fun b => ?_, ⟨H1, H3, fun b => ?_, fun b => rfl, hB, hA⟩, hL⟩
    · have := d b; have := d' b; have := u' b
      cases h1 : H1 b <;> cases h3 : H3 b <;> cases h4 : H4 b <;> simp_all
    · rw [u b, u' b]
      cases h1 : H1 b <;> cases h3 : H3 b <;> simp_all
    · have := d b; have := u' b
      cases h1 : H1 b <;> cases h3 : H3 b <;> cases h4 : H4 b <;> simp_all
theorem SL.join {A : List HP} : ∀ {L : List HP} {H H1 H2 : PH}, (∀ b, H1 b = none ∨ H2 b = none) → (∀ b, H b = (H1 b).or (H2 b)) → SL A H1 → SL L H2 → SL (A ++ L) H := by
  induction A with
  | nil =>
    intro L H H1 H2 d u _ hL
    have aux : ∀ (L : List HP) (H H2 : PH), (∀ b o, H2 b = some o → H b = some o) → SL L H2 → SL L H := by
      intro L
      induction L with
      | nil => intro _ _ _ _; trivial
      | cons B L ih =>
        intro H H2 hs h
        obtain ⟨H3, H4, d', u', hB, hr⟩ := h
        classical
        refine ⟨H3, fun b => if H3 b = none then H b else none, fun b => ?_, fun b => ?_, hB, ih _ H4 (fun b o hb => ?_) hr⟩
        · by_cases h : H3 b = none <;> simp [h]
        · cases h3 : H3 b with
          | none => simp [h3]
          | some o => have := hs b o (by rw [u' b, h3]; rfl); simp [this]
        · have h3 : H3 b = none := by rcases d' b with h | h; exact h; rw [hb] at h; cases h
          simp only [h3, if_true]
          exact hs b o (by rw [u' b, h3, hb]; rfl)
    refine aux L H H2 (fun b o hb => ?_) hL
    rw [u b, hb]
    rcases d b with h | h
    · rw [h]; rfl
    · rw [hb] at h; cases h
  | cons B A ih =>
    intro L H H1 H2 d u hA hL
    obtain ⟨H3, H4, d', u', hB, hr⟩ := hA
    refine ⟨H3, fun b => (H4 b).or (H2 b), fun b => ?_, fun b => ?_, hB, ih (H1 := H4) (H2 := H2) (fun b => ?_) (fun b => rfl) hr hL⟩
    · have := d b; have := d' b; have := u' b
      cases h3 : H3 b <;> cases h4 : H4 b <;> cases h2 : H2 b <;> simp_all
    · rw [u b, u' b]
      cases h3 : H3 b <;> cases h4 : H4 b <;> simp_all
    · have := d b; have := u' b
      cases h3 : H3 b <;> cases h4 : H4 b <;> cases h2 : H2 b <;> simp_all
theorem SL.weaken {L : List HP} {H H2 : PH} (hs : ∀ b o, H2 b = some o → H b = some o) (h : SL L H2) : SL L H := by
  classical
  refine SL.join (A := []) (H1 := fun b => if H2 b = none then H b else none) (H2 := H2) (fun b => ?_) (fun b => ?_) trivial h
  · by_cases e : H2 b = none <;> simp [e]
  · cases e : H2 b with
    | none => simp
    | some o => simp [hs b o e]
/-- A block, whole. -/
def pt (b : Nat) (o : Obj) : HP := fun H => H b = some o
theorem Sat.block {w0 w : World} {b : Nat} {o : Obj} {L : List HP} (h : Sat w0 w (pt b o :: L)) : w.heap[b]? = some o := by
  obtain ⟨H, hle, hs⟩ := h.mem
  obtain ⟨H1, hA, hsub⟩ := hs.le_self
  exact hle b o (hsub b o hA)
theorem Sat.atom {w0 w : World} {A : HP} {L : List HP} (h : Sat w0 w (A :: L)) : ∃ H1, A H1 ∧ PH.le H1 w := by
  obtain ⟨H, hle, hs⟩ := h.mem
  obtain ⟨H1, hA, hsub⟩ := hs.le_self
  exact ⟨H1, hA, fun b o hb => hle b o (hsub b o hb)⟩
/-- One block changes. -/
theorem Sat.put {w0 w w' : World} {b : Nat} {o o' : Obj} {L : List HP} (h : Sat w0 w (pt b o :: L)) (h1 : w'.os = w.os) (h2 : w'.tape = w.tape) (h3 : w'.output = w.output)
    (hb : w'.heap[b]? = some o') (hk : ∀ k, k ≠ b → w'.heap[k]? = w.heap[k]?) : Sat w0 w' (pt b o' :: L) := by
  obtain ⟨H, hle, H1, H2, d, u, hA, hL⟩ := h.mem
  refine ⟨h1.trans h.os, h2.trans h.tape, h3.trans h.output, fun k => ((if k = b then some o' else none).or (H2 k)), fun k v hv => ?_, fun k => if k = b then some o' else none, H2, fun k => ?_, fun k => rfl, by simp [pt], hL⟩
  · by_cases e : k = b
    · subst e; simp at hv; rw [← hv]; exact hb
    · simp [e] at hv
      rw [hk k e]
      refine hle k v ?_
      rw [u k, hv]
      rcases d k with h | h
      · rw [h]; rfl
      · rw [hv] at h; cases h
  · by_cases e : k = b
    · subst e
      right
      rcases d k with h | h
      · simp only [pt] at hA; rw [hA] at h; cases h
      · exact h
    · left; simp [e]
/-- One atom is turned into another, whatever stands beside it. -/
theorem Sat.turn {w0 w w' : World} {A B : HP} {L : List HP} (h : Sat w0 w (A :: L)) (h1 : w'.os = w.os) (h2 : w'.tape = w.tape) (h3 : w'.output = w.output)
    (hb : ∀ H1, A H1 → PH.le H1 w → ∃ H1', B H1' ∧ PH.le H1' w' ∧ (∀ b, H1' b ≠ none → H1 b ≠ none ∨ w.heap[b]? = none) ∧ ∀ b, H1 b = none → w.heap[b]? ≠ none → w'.heap[b]? = w.heap[b]?) : Sat w0 w' (B :: L) := by
  obtain ⟨H, hle, H1, H2, d, u, hA, hL⟩ := h.mem
  have hle1 : PH.le H1 w := fun b o hb => hle b o (by rw [u b, hb]; rfl)
  obtain ⟨H1', hB, hle', hown, hkeep⟩ := hb H1 hA hle1
  have hle2 : PH.le H2 w := fun b o hb => hle b o (by
    rw [u b, hb]
    rcases d b with h | h
    · rw [h]; rfl
    · rw [hb] at h; cases h)
  have dd : ∀ b, H1' b = none ∨ H2 b = none := fun b => by
    by_cases e : H1' b = none
    · exact .inl e
    · right
      rcases hown b e with h | h
      · exact (d b).resolve_left h
      · cases e2 : H2 b with
        | none => rfl
        | some o => rw [hle2 b o e2] at h; cases h
  refine ⟨h1.trans h.os, h2.trans h.tape, h3.trans h.output, fun b => (H1' b).or (H2 b), fun b o hbo => ?_, H1', H2, dd, fun _ => rfl, hB, hL⟩
  replace hbo : (H1' b).or (H2 b) = some o := hbo
  cases e : H1' b with
  | some o' => rw [e] at hbo; simp at hbo; rw [← hbo]; exact hle' b o' e
  | none =>
    rw [e] at hbo
    simp at hbo
    have h2 := hle2 b o hbo
    rw [hkeep b ((d b).resolve_right (by rw [hbo]; simp)) (by rw [h2]; simp)]
    exact h2
theorem Sat.alloc {w0 w : World} {o : Obj} {L : List HP} (h : Sat w0 w L) : Sat w0 (w.alloc o) (pt w.heap.size o :: L) := by
  obtain ⟨H, hle, hL⟩ := h.mem
  have hn : H w.heap.size = none := by
    cases e : H w.heap.size with
    | none => rfl
    | some o' => have := hle _ _ e; simp at this
  refine ⟨h.os, h.tape, h.output, fun k => (if k = w.heap.size then some o else none).or (H k), fun k v hv => ?_, fun k => if k = w.heap.size then some o else none, H, fun k => ?_, fun _ => rfl, by simp [pt], hL⟩
  · by_cases e : k = w.heap.size
    · subst e
      simp at hv; rw [← hv]
      exact heap_alloc_new w o
    · simp [e] at hv
      have := hle k v hv
      have hlt : k < w.heap.size := by
        rcases Nat.lt_or_ge k w.heap.size with h | h
        · exact h
        · rw [Array.getElem?_eq_none h] at this; cases this
      rw [heap_alloc_old w o k hlt]
      exact this
  · by_cases e : k = w.heap.size
    · right; rw [e]; exact hn
    · left; simp [e]
theorem Sat.drew {w0 w : World} {L : List HP} (h : Sat w0 w L) : Sat w0 w.drew L := ⟨h.os, h.tape, h.output, h.mem⟩
theorem Sat.of_heap {w0 w w' : World} {L : List HP} (h : Sat w0 w L) (h1 : w'.os = w.os) (h2 : w'.tape = w.tape) (h3 : w'.output = w.output) (hh : w'.heap = w.heap) : Sat w0 w' L := by
  obtain ⟨H, hle, hL⟩ := h.mem
  exact ⟨h1.trans h.os, h2.trans h.tape, h3.trans h.output, H, fun b o hb => by rw [hh]; exact hle b o hb, hL⟩
/-- A pure fact among the assertions. -/
def pur (p : Prop) : HP := fun _ => p
/-- All that was there at the beginning, as it was. -/
def base (w0 : World) : HP := fun H => ∀ b, b < w0.heap.size → H b = w0.heap[b]?
theorem Sat.start (w0 : World) : Sat w0 w0 [base w0] :=
  ⟨rfl, rfl, rfl, fun b => w0.heap[b]?, fun _ _ h => h, fun b => w0.heap[b]?, fun _ => none, fun _ => .inr rfl, fun b => by simp, fun _ _ => rfl, trivial⟩
theorem Sat.below {w0 w : World} {L : List HP} (h : Sat w0 w (base w0 :: L)) : Below w0.heap.size w0 w := by
  obtain ⟨H1, hA, hle⟩ := h.atom
  have hb : ∀ k, k < w0.heap.size → w.heap[k]? = w0.heap[k]? := fun k hk => by
    have h1 := hA k hk
    rw [Array.getElem?_eq_getElem hk] at h1 ⊢
    exact hle k _ h1
  refine ⟨h.os, h.tape, h.output, ?_, hb⟩
  rcases Nat.lt_or_ge w.heap.size w0.heap.size with h | h
  · have := hb w.heap.size h
    rw [Array.getElem?_eq_none (Nat.le_refl _), Array.getElem?_eq_getElem h] at this
    cases this
  · exact h
theorem Sat.base_block {w0 w : World} {L : List HP} (h : Sat w0 w (base w0 :: L)) {b : Nat} {o : Obj} (hb : w0.heap[b]? = some o) : w.heap[b]? = some o := by
  have hlt : b < w0.heap.size := by
    rcases Nat.lt_or_ge b w0.heap.size with h | h
    · exact h
    · rw [Array.getElem?_eq_none h] at hb; cases hb
  rw [h.below.block b hlt]; exact hb
end Go.Proofs.Yteobjankkcdaoaa.Sep
