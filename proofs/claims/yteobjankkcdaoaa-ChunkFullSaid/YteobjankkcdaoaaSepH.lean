import Derived.Test.YteobjankkcdaoaaSepG
namespace Go.Proofs.Yteobjankkcdaoaa.Sep
open Go.RowKit
set_option linter.unusedSimpArgs false
set_option linter.unusedVariables false
/-! ranges over maps of which the entry is read behind the step -/
section
variable {P : Program} {w0 : World} {n : Nat} {Q : Exit → Act → World → Prop} {k : List KI} {e : Env} {L R : List HP} {all : Array Oper} {rest : List Oper} {ty : TypeId} {pos : String} {aft : Array Edge} {d : Nat}
variable {α κ : Type} {E' : E α} {ke : κ → Value} {ve : α → Value}
/-- A map that is gone through: p was met last. -/
def MpL {κ α : Type} (ke : κ → Value) (ve : α → Value) (b r : Nat) (l todo : List (κ × α)) (p : κ × α) : HP := fun H => (l.map (·.1)).Nodup ∧ ∃ es clock seen, ∃ en : MapEntry, H b = some (.map es clock) ∧ H r = some (.mapIter (some b) clock seen clock) ∧
  es.toList.map (fun e => (e.key, e.val)) = l.map (fun p => (ke p.1, ve p.2)) ∧ (∀ e ∈ es.toList, e.born < clock) ∧ (es.toList.map (·.born)).Nodup ∧
  (leftOf es seen).toList.map (fun e => (e.key, e.val)) = todo.map (fun p => (ke p.1, ve p.2)) ∧ en ∈ es.toList ∧ seen.back? = some en.born ∧ (en.key, en.val) = (ke p.1, ve p.2)
theorem MpL.on {b r : Nat} {l todo : List (κ × α)} {p : κ × α} : ∀ H, MpL ke ve b r l todo p H → MpI ke ve b r l todo H := by
  rintro H ⟨h1, es, clock, seen, en, h2, h3, h4, h5, h6, h7, _⟩
  exact ⟨h1, es, clock, seen, h2, h3, h4, h5, h6, h7⟩
theorem dv_nextL {b r : Nat} {l todo : List (κ × α)} {x : Operand} (hx : ev e x = some (.pointer (some ⟨r, 0, none⟩)) := by rfl) (hf : Find L (MpI ke ve b r l todo) R := by repeat (first | exact Find.here | apply Find.there)) :
    DV P w0 (.next x false) ty e L (fun v L' => (v = .tuple #[.bool false] ∧ todo = [] ∧ L' = MpI ke ve b r l [] :: R) ∨ ∃ t1 p t2, todo = t1 ++ p :: t2 ∧ v = .tuple #[.bool true, ke p.1, ve p.2] ∧ L' = MpL ke ve b r l (t1 ++ t2) p :: R) := dv_of_run fun tm w pos aft h2 h3 => by
  have h3' := h3.find hf
  obtain ⟨H0, hA0, hle0⟩ := h3'.atom
  obtain ⟨hn, es, clock, seen, hb, hr, hl, hold, hnd, htodo⟩ := hA0
  have hb1 := hle0 _ _ hb
  have hr1 := hle0 _ _ hr
  have hgr : (getObj r).run P w = .ok (.mapIter (some b) clock seen clock) w := by simp [getObj, Sem.run, hr1]
  have hgb : (getObj b).run P w = .ok (.map es clock) w := by simp [getObj, Sem.run, hb1]
  have htest := next_test_false seen es clock clock hold (Nat.le_refl _)
  have hmem : ∀ x ∈ (leftOf es seen).toList, x.born < clock := fun x hx => hold x (mem_left hx).1
  have e1 : (leftOf es seen).filter (fun x => decide (x.born < clock)) = leftOf es seen := Array.filter_eq_self.2 (fun x hx => by simpa using hmem x (by simpa using hx))
  have e2 : (leftOf es seen).filter (fun x => decide (x.born ≥ clock)) = #[] := by
    rw [Array.filter_eq_empty_iff]
    intro x hx
    have := hmem x (by simpa using hx)
    simp; omega
  have hexec : (execOp (Act.mk tm []).eval ⟨none, .next x false, ty, pos, aft, none⟩).run P w = ((Instr.next (.pointer (some ⟨r, 0, none⟩)) false ty).run P w).andThen fun v w => .ok (.value v) w := by
    simp [execOp, ev_sound h2 hx]
  rw [hexec]
  have hnx : (Instr.next (.pointer (some ⟨r, 0, none⟩)) false ty).run P w = ((choose (.mapNext (((if (leftOf es seen).isEmpty then #[none] else #[]) ++ (leftOf es seen).map some).size))).run P w).andThen fun j w => (match ((if (leftOf es seen).isEmpty then #[none] else #[]) ++ (leftOf es seen).map some)[j]? with
      | some (some e) => do
        setObj r (.mapIter (some b) clock (seen.push e.born) clock)
        pure (.tuple #[.bool true, e.key, e.val])
      | some none => pure (.tuple #[.bool false])
      | none => stuck "Next: no such candidate" : Sem Value).run P w := by
    unfold Instr.next
    simp only [Sem.run_bind, hgr, hgb, Result.andThen_ok, htest, Bool.false_eq_true, if_false]
    have e1' : Array.filter (fun x => decide (x.born < clock)) (Array.filter (fun e => !seen.contains e.born) es) = leftOf es seen := e1
    have e2' : Array.filter (fun x => decide (x.born ≥ clock)) (Array.filter (fun e => !seen.contains e.born) es) = #[] := e2
    rw [e1', e2']
    simp only [Array.append_empty]
    rfl
  rw [hnx]
  by_cases h0 : (leftOf es seen).size = 0
  · have hE : leftOf es seen = #[] := Array.eq_empty_of_size_eq_zero h0
    have ht : todo = [] := by rw [hE] at htodo; simpa using htodo.symm
    subst ht
    refine ⟨.tuple #[.bool false], w, _, ?_, .inl ⟨rfl, rfl, rfl⟩, h3'⟩
    rw [hE]
    simp [choose, Sem.run, Question.forced]
  · have hne : (leftOf es seen).isEmpty = false := by simp [Array.isEmpty, h0]
    have hch : ∃ (j : Nat) (w1 : World), j < (leftOf es seen).size ∧ (w1 = w ∨ w1 = w.drew) ∧ (choose (Question.mapNext (leftOf es seen).size)).run P w = .ok j w1 := by
      by_cases hf : (leftOf es seen).size ≤ 1
      · exact ⟨0, w, by omega, .inl rfl, by simp [choose, Sem.run, Question.forced, hf]⟩
      · exact ⟨_, w.drew, Nat.mod_lt _ (by omega), .inr rfl, by
          simp only [choose, Sem.run, Question.forced, decide_eq_true_eq, hf, if_false, Question.cut]
          rfl⟩
    obtain ⟨j, w1, hj, hw1, hrun⟩ := hch
    have hs1 : Sat w0 w1 (MpI ke ve b r l todo :: R) := by
      rcases hw1 with rfl | rfl
      · exact h3'
      · exact h3'.drew
    have hheap : w1.heap = w.heap := by rcases hw1 with rfl | rfl <;> rfl
    have hjt : j < todo.length := by
      have := congrArg List.length htodo
      simp at this; omega
    have hkv : ((leftOf es seen)[j].key, (leftOf es seen)[j].val) = (ke todo[j].1, ve todo[j].2) := by
      have := congrArg (fun q => q[j]?) htodo
      simp [hj, hjt] at this
      rw [Prod.mk.injEq]; exact this
    obtain ⟨hkv1, hkv2⟩ := Prod.mk.inj hkv
    refine ⟨.tuple #[.bool true, ke todo[j].1, ve todo[j].2], { w1 with heap := w1.heap.setIfInBounds r (.mapIter (some b) clock (seen.push (leftOf es seen)[j].born) clock) }, _, ?_, .inr ⟨todo.take j, todo[j], todo.drop (j + 1), by simp, rfl, rfl⟩, ?_⟩
    · simp only [hne, Bool.false_eq_true, if_false, Array.empty_append, Array.size_map, hrun, Result.andThen_ok, Array.getElem?_map, Array.getElem?_eq_getElem hj, Option.map_some, Sem.run_bind]
      have hr2 : w1.heap[r]? = some (.mapIter (some b) clock seen clock) := by rw [hheap]; exact hr1
      have : ∀ o' : Obj, (setObj r o').run P w1 = .ok () { w1 with heap := w1.heap.setIfInBounds r o' } := fun o' => by simp [setObj, Sem.run, hr2]
      rw [this]
      simp [hkv1, hkv2]
    · refine Sat.turn1w (b := r) hs1 (fun H hH => ?_) rfl rfl rfl (heap_set_at (by rw [hheap]; exact hr1)) (fun k hk => by simp [Array.getElem?_setIfInBounds_ne (Ne.symm hk)]) (fun H hH hleH => ?_)
      · obtain ⟨_, _, _, _, _, h, _⟩ := hH
        rw [h]; simp
      · obtain ⟨_, es', clock', seen', hb', hr', _⟩ := hH
        have hbe := hleH _ _ hb'
        rw [hheap, hb1] at hbe
        obtain ⟨rfl, rfl⟩ : es = es' ∧ clock = clock' := by simpa using hbe
        have hbr : b ≠ r := by
          rintro rfl
          rw [hb'] at hr'; cases hr'
        refine ⟨hn, es, clock, seen.push (leftOf es seen)[j].born, (leftOf es seen)[j], ?_, by simp, hl, hold, hnd, ?_, (mem_left (Array.mem_toList_iff.2 (Array.getElem_mem hj))).1, by simp, hkv⟩
        · show (if b = r then _ else H b) = _
          rw [if_neg hbr]; exact hb'
        · rw [leftOf_push hnd hj, List.map_append, List.map_take, List.map_drop, htodo, List.map_append, List.map_take, List.map_drop]
theorem rv_entry {b r : Nat} {l todo : List (κ × α)} {p : κ × α} {x : Operand} (hx : ev e x = some (.pointer (some ⟨r, 0, none⟩)) := by rfl) (hf : Find L (MpL ke ve b r l todo p) R := by repeat (first | exact Find.here | apply Find.there)) : RV P w0 (.entry x) ty e L (.tuple #[ke p.1, ve p.2]) :=
  fun tm w pos aft h2 h3 => by
    obtain ⟨H0, hA0, hle0⟩ := (h3.find hf).atom
    obtain ⟨hn, es, clock, seen, en, hb, hr, hl, hold, hnd, htodo, hmem, hback, hkv⟩ := hA0
    have hb1 := hle0 _ _ hb
    have hr1 := hle0 _ _ hr
    obtain ⟨hkv1, hkv2⟩ := Prod.mk.inj hkv
    have hgr : (getObj r).run P w = .ok (.mapIter (some b) clock seen clock) w := by simp [getObj, Sem.run, hr1]
    have hgb : (getObj b).run P w = .ok (.map es clock) w := by simp [getObj, Sem.run, hb1]
    have hfd : es.find? (·.born == en.born) = some en := by rw [← Array.find?_toList]; exact find_born en es.toList hnd hmem
    have hent : (Instr.entry (.pointer (some ⟨r, 0, none⟩))).run P w = .ok (.tuple #[ke p.1, ve p.2]) w := by
      simp only [Instr.entry, Sem.run_bind, hgr, Result.andThen_ok, hback, hgb, bne_self_eq_false, Bool.false_eq_true, if_false, hfd, hkv1, hkv2]
      rfl
    simp [execOp, ev_sound h2 hx, hent]
end
end Go.Proofs.Yteobjankkcdaoaa.Sep
