import Derived.Test.YteobjankkcdaoaaSepM
namespace Go.Proofs.Yteobjankkcdaoaa.Sep
open Go.RowKit
set_option linter.unusedSimpArgs false
set_option linter.unusedVariables false
/-! entries of a list of pairs; assertions, one for each of some things -/
section
variable {κ α β : Type} [DecidableEq κ]
theorem lk_map (f : α → β) (k : κ) : ∀ l : List (κ × α), lk (l.map fun q => (q.1, f q.2)) k = (lk l k).map f
  | [] => rfl
  | (k', v) :: l => by
    have ih := lk_map f k l
    simp only [List.map_cons, lk]
    split
    · rfl
    · exact ih
theorem lk_split {k : κ} {v : α} : ∀ {l : List (κ × α)}, lk l k = some v → ∃ l1 l2, l = l1 ++ (k, v) :: l2 ∧ lk l1 k = none
  | [], h => by cases h
  | (k', v') :: l, h => by
    simp only [lk] at h
    split at h
    · rename_i he
      cases h
      exact ⟨[], l, by rw [he]; rfl, rfl⟩
    · rename_i he
      obtain ⟨l1, l2, rfl, h1⟩ := lk_split h
      exact ⟨(k', v') :: l1, l2, rfl, by simp only [lk]; rw [if_neg he]; exact h1⟩
theorem lk_mid {k : κ} {v : α} : ∀ {l1 l2 : List (κ × α)}, lk l1 k = none → lk (l1 ++ (k, v) :: l2) k = some v
  | [], l2, _ => by simp [lk]
  | (k', u) :: l1, l2, h => by
    simp only [lk] at h
    split at h
    · cases h
    · rename_i he
      simp only [List.cons_append, lk, if_neg he, lk_mid h]
theorem ins_split {k : κ} {v v' : α} : ∀ {l1 l2 : List (κ × α)}, lk l1 k = none → ins (l1 ++ (k, v) :: l2) k v' = l1 ++ (k, v') :: l2
  | [], l2, _ => by simp [ins]
  | (k', u) :: l1, l2, h => by
    simp only [lk] at h
    split at h
    · cases h
    · rename_i he
      simp only [List.cons_append, ins, if_neg he, ins_split h]
theorem del_split {k : κ} {v : α} : ∀ {l1 l2 : List (κ × α)}, lk l1 k = none → del (l1 ++ (k, v) :: l2) k = l1 ++ l2
  | [], l2, _ => by simp [del]
  | (k', u) :: l1, l2, h => by
    simp only [lk] at h
    split at h
    · cases h
    · rename_i he
      simp only [List.cons_append, del, if_neg he, del_split h]
theorem ins_new {k : κ} {v : α} : ∀ {l : List (κ × α)}, lk l k = none → ins l k v = l ++ [(k, v)]
  | [], _ => rfl
  | (k', u) :: l, h => by
    simp only [lk] at h
    split at h
    · cases h
    · rename_i he
      simp only [List.cons_append, ins, if_neg he, ins_new h]
end
/-- Assertions, as one. -/
def SLA (L : List HP) : HP := fun H => SL L H
theorem SL_pack {A : HP} {L : List HP} : ∀ H, SL (A :: L) H → SL [A, SLA L] H := fun H ⟨H1, H2, d, u, hA, hL⟩ => ⟨H1, H2, d, u, hA, H2, fun _ => none, fun _ => .inr rfl, fun _ => by simp, hL, trivial⟩
theorem SL_unpack {A : HP} {L : List HP} : ∀ H, SL [A, SLA L] H → SL (A :: L) H := fun H ⟨H1, H2, d, u, hA, H3, H4, d', u', hL, _⟩ => ⟨H1, H2, d, u, hA, SL.weaken (fun b o hb => by rw [u' b, hb]; rfl) hL⟩
/-- One assertion for each. -/
def Star {β : Type} (f : β → HP) (M : List β) : HP := SLA (M.map f)
theorem find_mid' {β : Type} (f : β → HP) (q : β) : ∀ (M1 M2 : List β), Find ((M1 ++ q :: M2).map f) (f q) ((M1 ++ M2).map f)
  | [], M2 => .here
  | _ :: M1, M2 => .there (find_mid' f q M1 M2)
theorem Star.out {β : Type} {f : β → HP} {q : β} {M1 M2 : List β} : ∀ H, Star f (M1 ++ q :: M2) H → ∃ x : Unit, True ∧ SL [f q, Star f (M1 ++ M2)] H := fun H h => ⟨(), trivial, SL_pack H ((find_mid' f q M1 M2).fwd h)⟩
theorem Star.back {β : Type} {f : β → HP} {q : β} {M1 M2 : List β} : ∀ H, SL [f q, Star f (M1 ++ M2)] H → Star f (M1 ++ q :: M2) H := fun H h => (find_mid' f q M1 M2).bwd (SL_unpack H h)
theorem Star.add {β : Type} {f : β → HP} {q : β} {M : List β} : ∀ H, SL [f q, Star f M] H → Star f (M ++ [q]) H := fun H h => by
  have := Star.back (f := f) (q := q) (M1 := M) (M2 := []) H
  rw [List.append_nil] at this
  exact this h
theorem Star.nil {β : Type} {f : β → HP} {L : List HP} {H : PH} (h : SL L H) : SL (Star f [] :: L) H := ⟨fun _ => none, H, fun _ => .inl rfl, fun _ => by simp, trivial, h⟩
end Go.Proofs.Yteobjankkcdaoaa.Sep
