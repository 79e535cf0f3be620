import Derived.Test.YtgoocobeoejoaaaBn3
import Derived.Laws.IdiomStrings
import Derived.Test.YtgoocobeoejoaaaProg
import Derived.Test.YtgoocobeoejoaaaBn2
import Derived.KernelRfl
/- What the laws share: a separation logic over the model, and what the program's functions do, by it. Part 4 of 12: SepH SepY Word SepZ Mem SepT SepQ. -/
namespace Go.Proofs.Ytgoocobeoejoaaa.Sep
open Go.RowKit
set_option linter.unusedSimpArgs false
set_option linter.unusedVariables false
/-! ranges over maps of which the entry is read behind the step -/
section
variable {P : Program} {w0 : World} {n : Nat} {Q : Exit → Act → World → Prop} {k : List KI} {e : Env} {L R : List HP} {all : Array Oper} {rest : List Oper} {ty : TypeId} {pos : String} {aft : Array Edge} {d : Nat}
variable {α κ : Type} {E' : E α} {ke : κ → Value} {ve : α → Value}
/-- A map that is gone through: p was met last. -/
def MpL {κ α : Type} (ke : κ → Value) (ve : α → Value) (b r : Nat) (l todo : List (κ × α)) (p : κ × α) : HP := fun H => (l.map (·.1)).Nodup ∧ ∃ es clock seen, ∃ en : MapEntry, H b = some (.map es clock) ∧ H r = some (.mapIter (some b) clock seen clock) ∧
  es.toList.map (fun e => (e.key, e.val)) = l.map (fun p => (ke p.1, ve p.2)) ∧ (∀ e ∈ es.toList, e.born < clock) ∧ (es.toList.map (·.born)).Nodup ∧
  (leftOf es seen).toList.map (fun e => (e.key, e.val)) = todo.map (fun p => (ke p.1, ve p.2)) ∧ en ∈ es.toList ∧ seen.back? = some en.born ∧ (en.key, en.val) = (ke p.1, ve p.2)
theorem MpL.on {b r : Nat} {l todo : List (κ × α)} {p : κ × α} : ∀ H, MpL ke ve b r l todo p H → MpI ke ve b r l todo H := by
  rintro H ⟨h1, es, clock, seen, en, h2, h3, h4, h5, h6, h7, _⟩
  exact ⟨h1, es, clock, seen, h2, h3, h4, h5, h6, h7⟩
theorem dv_nextL {b r : Nat} {l todo : List (κ × α)} {x : Operand} (hx : ev e x = some (.pointer (some ⟨r, 0, none⟩)) := by rfl) (hf : Find L (MpI ke ve b r l todo) R := by repeat (first | exact Find.here | apply Find.there)) :
    DV P w0 (.next x false) ty e L (fun v L' => (v = .tuple #[.bool false] ∧ todo = [] ∧ L' = MpI ke ve b r l [] :: R) ∨ ∃ t1 p t2, todo = t1 ++ p :: t2 ∧ v = .tuple #[.bool true, ke p.1, ve p.2] ∧ L' = MpL ke ve b r l (t1 ++ t2) p :: R) := dv_of_run fun tm w pos aft h2 h3 => by
  have h3' := h3.find hf
  obtain ⟨H0, hA0, hle0⟩ := h3'.atom
  obtain ⟨hn, es, clock, seen, hb, hr, hl, hold, hnd, htodo⟩ := hA0
  have hb1 := hle0 _ _ hb
  have hr1 := hle0 _ _ hr
  have hgr : (getObj r).run P w = .ok (.mapIter (some b) clock seen clock) w := by simp [getObj, Sem.run, hr1]
  have hgb : (getObj b).run P w = .ok (.map es clock) w := by simp [getObj, Sem.run, hb1]
  have htest := next_test_false seen es clock clock hold (Nat.le_refl _)
  have hmem : ∀ x ∈ (leftOf es seen).toList, x.born < clock := fun x hx => hold x (mem_left hx).1
  have e1 : (leftOf es seen).filter (fun x => decide (x.born < clock)) = leftOf es seen := Array.filter_eq_self.2 (fun x hx => by simpa using hmem x (by simpa using hx))
  have e2 : (leftOf es seen).filter (fun x => decide (x.born ≥ clock)) = #[] := by
    rw [Array.filter_eq_empty_iff]
    intro x hx
    have := hmem x (by simpa using hx)
    simp; omega
  have hexec : (execOp (Act.mk tm []).eval ⟨none, .next x false, ty, pos, aft, none⟩).run P w = ((Instr.next (.pointer (some ⟨r, 0, none⟩)) false ty).run P w).andThen fun v w => .ok (.value v) w := by
    simp [execOp, ev_sound h2 hx]
  rw [hexec]
  have hnx : (Instr.next (.pointer (some ⟨r, 0, none⟩)) false ty).run P w = ((choose (.mapNext (((if (leftOf es seen).isEmpty then #[none] else #[]) ++ (leftOf es seen).map some).size))).run P w).andThen fun j w => (match ((if (leftOf es seen).isEmpty then #[none] else #[]) ++ (leftOf es seen).map some)[j]? with
      | some (some e) => do
        setObj r (.mapIter (some b) clock (seen.push e.born) clock)
        pure (.tuple #[.bool true, e.key, e.val])
      | some none => pure (.tuple #[.bool false])
      | none => stuck "Next: no such candidate" : Sem Value).run P w := by
    unfold Instr.next
    simp only [Sem.run_bind, hgr, hgb, Result.andThen_ok, htest, Bool.false_eq_true, if_false]
    have e1' : Array.filter (fun x => decide (x.born < clock)) (Array.filter (fun e => !seen.contains e.born) es) = leftOf es seen := e1
    have e2' : Array.filter (fun x => decide (x.born ≥ clock)) (Array.filter (fun e => !seen.contains e.born) es) = #[] := e2
    rw [e1', e2']
    simp only [Array.append_empty]
    rfl
  rw [hnx]
  by_cases h0 : (leftOf es seen).size = 0
  · have hE : leftOf es seen = #[] := Array.eq_empty_of_size_eq_zero h0
    have ht : todo = [] := by rw [hE] at htodo; simpa using htodo.symm
    subst ht
    refine ⟨.tuple #[.bool false], w, _, ?_, .inl ⟨rfl, rfl, rfl⟩, h3'⟩
    rw [hE]
    simp [choose, Sem.run, Question.forced]
  · have hne : (leftOf es seen).isEmpty = false := by simp [Array.isEmpty, h0]
    have hch : ∃ (j : Nat) (w1 : World), j < (leftOf es seen).size ∧ (w1 = w ∨ w1 = w.drew) ∧ (choose (Question.mapNext (leftOf es seen).size)).run P w = .ok j w1 := by
      by_cases hf : (leftOf es seen).size ≤ 1
      · exact ⟨0, w, by omega, .inl rfl, by simp [choose, Sem.run, Question.forced, hf]⟩
      · exact ⟨_, w.drew, Nat.mod_lt _ (by omega), .inr rfl, by
          simp only [choose, Sem.run, Question.forced, decide_eq_true_eq, hf, if_false, Question.cut]
          rfl⟩
    obtain ⟨j, w1, hj, hw1, hrun⟩ := hch
    have hs1 : Sat w0 w1 (MpI ke ve b r l todo :: R) := by
      rcases hw1 with rfl | rfl
      · exact h3'
      · exact h3'.drew
    have hheap : w1.heap = w.heap := by rcases hw1 with rfl | rfl <;> rfl
    have hjt : j < todo.length := by
      have := congrArg List.length htodo
      simp at this; omega
    have hkv : ((leftOf es seen)[j].key, (leftOf es seen)[j].val) = (ke todo[j].1, ve todo[j].2) := by
      have := congrArg (fun q => q[j]?) htodo
      simp [hj, hjt] at this
      rw [Prod.mk.injEq]; exact this
    obtain ⟨hkv1, hkv2⟩ := Prod.mk.inj hkv
    refine ⟨.tuple #[.bool true, ke todo[j].1, ve todo[j].2], { w1 with heap := w1.heap.setIfInBounds r (.mapIter (some b) clock (seen.push (leftOf es seen)[j].born) clock) }, _, ?_, .inr ⟨todo.take j, todo[j], todo.drop (j + 1), by simp, rfl, rfl⟩, ?_⟩
    · simp only [hne, Bool.false_eq_true, if_false, Array.empty_append, Array.size_map, hrun, Result.andThen_ok, Array.getElem?_map, Array.getElem?_eq_getElem hj, Option.map_some, Sem.run_bind]
      have hr2 : w1.heap[r]? = some (.mapIter (some b) clock seen clock) := by rw [hheap]; exact hr1
      have : ∀ o' : Obj, (setObj r o').run P w1 = .ok () { w1 with heap := w1.heap.setIfInBounds r o' } := fun o' => by simp [setObj, Sem.run, hr2]
      rw [this]
      simp [hkv1, hkv2]
    · refine Sat.turn1w (b := r) hs1 (fun H hH => ?_) rfl rfl rfl (heap_set_at (by rw [hheap]; exact hr1)) (fun k hk => by simp [Array.getElem?_setIfInBounds_ne (Ne.symm hk)]) (fun H hH hleH => ?_)
      · obtain ⟨_, _, _, _, _, h, _⟩ := hH
        rw [h]; simp
      · obtain ⟨_, es', clock', seen', hb', hr', _⟩ := hH
        have hbe := hleH _ _ hb'
        rw [hheap, hb1] at hbe
        obtain ⟨rfl, rfl⟩ : es = es' ∧ clock = clock' := by simpa using hbe
        have hbr : b ≠ r := by
          rintro rfl
          rw [hb'] at hr'; cases hr'
        refine ⟨hn, es, clock, seen.push (leftOf es seen)[j].born, (leftOf es seen)[j], ?_, by simp, hl, hold, hnd, ?_, (mem_left (Array.mem_toList_iff.2 (Array.getElem_mem hj))).1, by simp, hkv⟩
        · show (if b = r then _ else H b) = _
          rw [if_neg hbr]; exact hb'
        · rw [leftOf_push hnd hj, List.map_append, List.map_take, List.map_drop, htodo, List.map_append, List.map_take, List.map_drop]
theorem rv_entry {b r : Nat} {l todo : List (κ × α)} {p : κ × α} {x : Operand} (hx : ev e x = some (.pointer (some ⟨r, 0, none⟩)) := by rfl) (hf : Find L (MpL ke ve b r l todo p) R := by repeat (first | exact Find.here | apply Find.there)) : RV P w0 (.entry x) ty e L (.tuple #[ke p.1, ve p.2]) :=
  fun tm w pos aft h2 h3 => by
    obtain ⟨H0, hA0, hle0⟩ := (h3.find hf).atom
    obtain ⟨hn, es, clock, seen, en, hb, hr, hl, hold, hnd, htodo, hmem, hback, hkv⟩ := hA0
    have hb1 := hle0 _ _ hb
    have hr1 := hle0 _ _ hr
    obtain ⟨hkv1, hkv2⟩ := Prod.mk.inj hkv
    have hgr : (getObj r).run P w = .ok (.mapIter (some b) clock seen clock) w := by simp [getObj, Sem.run, hr1]
    have hgb : (getObj b).run P w = .ok (.map es clock) w := by simp [getObj, Sem.run, hb1]
    have hfd : es.find? (·.born == en.born) = some en := by rw [← Array.find?_toList]; exact find_born en es.toList hnd hmem
    have hent : (Instr.entry (.pointer (some ⟨r, 0, none⟩))).run P w = .ok (.tuple #[ke p.1, ve p.2]) w := by
      simp only [Instr.entry, Sem.run_bind, hgr, Result.andThen_ok, hback, hgb, bne_self_eq_false, Bool.false_eq_true, if_false, hfd, hkv1, hkv2]
      rfl
    simp [execOp, ev_sound h2 hx, hent]
/-- The entry that was met is deleted while the map is gone through. -/
theorem filter_eraseIdx {β : Type} (f : β → Bool) : ∀ (l : List β) (j : Nat) (hj : j < l.length), f l[j] = false → (l.eraseIdx j).filter f = l.filter f
  | [], j, hj, _ => absurd hj (Nat.not_lt_zero _)
  | x :: l, 0, hj, h => by
    have h' : f x = false := h
    simp [h']
  | x :: l, j + 1, hj, h => by
    have := filter_eraseIdx f l j (by simpa using hj) (by simpa using h)
    simp only [List.eraseIdx_cons_succ, List.filter_cons, this]
theorem dv_deleteI [DecidableEq κ] {T T' K el : Nat} {x ix : Operand} {b r : Nat} {l todo : List (κ × α)} (kk : κ) [hu : TU P T (.map K el)] (hx : ev e x = some (.map (some b)) := by rfl)
    (hf : Find L (MpI ke ve b r l todo) R := by repeat (first | exact Find.here | apply Find.there)) (hk : ev e ix = some (ke kk) := by rfl) (ht : TK P K ke := by infer_instance) (hnt : kk ∉ todo.map (·.1)) :
    DV P w0 (.call ⟨.builtin .delete, #[x, ix], #[T, T']⟩) ty e L (fun _ L' => L' = MpI ke ve b r (del l kk) todo :: R) := dv_of_run fun tm w pos aft h2 h3 => by
  have h3' := h3.find hf
  obtain ⟨H0, hA0, hle0⟩ := h3'.atom
  obtain ⟨hn, es, clock, seen, hb0, hr0, hes, hborn, hbn, htodo⟩ := hA0
  have hb := hle0 _ _ hb0
  have h4 : (underlying T).run P w = .ok (.map K el) w := run_und hu.out
  have h5 := run_findKey ht kk w hes
  have hdel := del_at l kk 0
  have hsz : es.size = l.length := by have := congrArg List.length hes; simpa using this
  have key : ∀ es' : Array MapEntry, es'.toList.map (fun e => (e.key, e.val)) = (del l kk).map (fun p => (ke p.1, ve p.2)) → es'.toList.Sublist es.toList → (leftOf es' seen).toList = (leftOf es seen).toList →
      Sat w0 { w with heap := w.heap.setIfInBounds b (.map es' clock) } (MpI ke ve b r (del l kk) todo :: R) := by
    intro es' he hsub hleft
    refine Sat.turn1w (b := b) (o' := .map es' clock) h3' (fun H hH => ?_) rfl rfl rfl (heap_set_at hb) (fun k hk => by simp [Array.getElem?_setIfInBounds_ne (Ne.symm hk)]) (fun H hH hleH => ?_)
    · obtain ⟨_, _, _, _, h, _⟩ := hH
      rw [h]; simp
    · obtain ⟨_, es2, clock2, seen2, hb2, hr2, _, _, _, htodo2⟩ := hH
      have hbe := hleH _ _ hb2
      rw [hb] at hbe
      obtain ⟨rfl, rfl⟩ : es = es2 ∧ clock = clock2 := by simpa using hbe
      have hre := hleH _ _ hr2
      have hre0 := hle0 _ _ hr0
      rw [hre0] at hre
      obtain rfl : seen = seen2 := by simpa using hre
      have hbr : r ≠ b := by
        rintro rfl
        rw [hb2] at hr2; cases hr2
      refine ⟨nodup_del hn kk, es', clock, seen, by simp, ?_, he, fun en hen => hborn en (hsub.subset hen), (hsub.map _).nodup hbn, by rw [hleft]; exact htodo⟩
      show (if r = b then _ else H r) = _
      rw [if_neg hbr]; exact hr2
  cases hfi : findIx l kk 0 with
  | none =>
    rw [hfi] at hdel h5
    refine ⟨.tuple #[], _, _, ?_, rfl, key es ?_ (List.Sublist.refl _) rfl⟩
    · simp [execOp, resolve, invoke, builtin, Builtin.delete_, ev_sound h2 hx, ev_sound h2 hk, h4, run_getMap hb, ht.check, h5, run_setMap hb]
    · simp only at hdel; rw [hdel]; exact hes
  | some p =>
    obtain ⟨j, u⟩ := p
    have hkey := ins_at l kk u 0
    rw [hfi] at hdel h5 hkey
    obtain ⟨m, hjm, hm, hdel⟩ := hdel
    obtain rfl : j = m := by omega
    obtain ⟨m2, hjm2, _, _, hkm⟩ := hkey
    obtain rfl : j = m2 := by omega
    have hjs : j < es.size := by omega
    have hent : es.toList[j].key = ke kk := by
      have h6 := congrArg (fun q => q[j]?) hes
      have h7 : l[j]? = some l[j] := List.getElem?_eq_getElem hm
      simp [hjs, hm] at h6
      rw [List.getElem?_map, h7] at hkm
      simp at hkm
      rw [← hkm]
      simpa using h6.1
    refine ⟨.tuple #[], _, _, ?_, rfl, key (es.eraseIdxIfInBounds j) ?_ ?_ ?_⟩
    · simp [execOp, resolve, invoke, builtin, Builtin.delete_, ev_sound h2 hx, ev_sound h2 hk, h4, run_getMap hb, ht.check, h5, run_setMap hb]
    · rw [hdel]
      simp only [Array.eraseIdxIfInBounds, hjs, dif_pos, Array.toList_eraseIdx]
      have he : ∀ {β γ : Type} (f : β → γ) (l : List β) (i : Nat), (l.eraseIdx i).map f = (l.map f).eraseIdx i := by
        intro β γ f l
        induction l with
        | nil => intro i; rfl
        | cons a l ih => intro i; cases i <;> simp [ih]
      rw [he, he, hes]
    · simp only [Array.eraseIdxIfInBounds, hjs, dif_pos, Array.toList_eraseIdx]
      exact List.eraseIdx_sublist _ _
    · simp only [Array.eraseIdxIfInBounds, hjs, dif_pos]
      unfold leftOf
      rw [Array.toList_filter, Array.toList_filter, Array.toList_eraseIdx]
      refine filter_eraseIdx _ _ _ (by simpa using hjs) ?_
      cases hc : (!seen.contains es.toList[j].born) with
      | false => rfl
      | true =>
        exfalso
        have hin : es.toList[j] ∈ (leftOf es seen).toList := by
          unfold leftOf
          rw [Array.toList_filter, List.mem_filter]
          exact ⟨List.getElem_mem _, hc⟩
        have h8 : (es.toList[j].key, es.toList[j].val) ∈ (leftOf es seen).toList.map (fun e => (e.key, e.val)) := List.mem_map.2 ⟨_, hin, rfl⟩
        rw [htodo] at h8
        obtain ⟨q, hq, hqe⟩ := List.mem_map.1 h8
        have h9 : ke q.1 = ke kk := by rw [← hent]; exact congrArg Prod.fst hqe
        exact hnt (List.mem_map.2 ⟨q, hq, ht.inj _ _ h9⟩)
end
end Go.Proofs.Ytgoocobeoejoaaa.Sep
namespace Go.Proofs.Ytgoocobeoejoaaa.Sep
open Go.RowKit
set_option linter.unusedSimpArgs false
set_option linter.unusedVariables false
set_option linter.unusedSectionVars false
/-! copying into a part of a slice -/
section
variable {P : Program} {w0 : World} {n : Nat} {Q : Exit → Act → World → Prop} {k : List KI} {e : Env} {L R : List HP} {all : Array Oper} {rest : List Oper} {ty : TypeId} {pos : String} {aft : Array Edge} {d : Nat}
variable {α : Type} {E' : E α}
theorem flat_take : ∀ (xs : List α) (m : Nat), flat E' (xs.take m) = (flat E' xs).take (m * E'.sz)
  | [], m => by simp
  | x :: xs, 0 => by simp
  | x :: xs, m + 1 => by
    rw [List.take_succ_cons, flat_cons, flat_cons, flat_take xs m, show (m + 1) * E'.sz = (E'.cells x).length + m * E'.sz from by rw [E'.len, Nat.add_mul]; omega, List.take_length_add_append]
/-- copy(x[i:..], y) -/
theorem dv_copyAt {dT sT el s by' : Nat} {x y : Operand} {a2 : Option Addr} {b o c m m1 c1 c2 : Nat} (i : Nat) {xs ys : List α} {A : HP} {z : Value} [hu : TU P dT (.slice el)] [hux : TU P sT (.slice el)] [hi : TI P el z s by'] (hx : ev e x = some (.slice (some ⟨b, o + i * s, none⟩) m1 c1)) (hy : ev e y = some (.slice a2 m c2))
    (hv : View A E' a2 ys) (hn : ys.length = min m m1) (hm1 : i + m1 ≤ xs.length) (hf : FindAll L [Sl E' (some ⟨b, o, none⟩) c xs, A] R := by repeat (first | exact FindAll.nil | exact Find.here | apply Find.there | apply FindAll.cons)) (hs : E'.sz = s := by rfl) :
    DV P w0 (.call ⟨.builtin .copy, #[x, y], #[dT, sT]⟩) ty e L (fun v L' => v = .int .i64 (ys.length : Int) ∧ L' = Sl E' (some ⟨b, o, none⟩) c (xs.take i ++ (ys ++ xs.drop (i + ys.length))) :: A :: R) := dv_of_run fun tm w pos aft h2 h3 => by
  subst hs
  have h3' := h3.findAll hf
  obtain ⟨i', hinf, hzero, hsz, hbytes⟩ := hi.out
  obtain ⟨H1, hA1, hle1⟩ := (Sat.drop h3').atom
  have hsrc := (src_of_view (P := P) (tx := sT) (c := c2) hv hA1 hle1 hux.out).cells
  have hsrc' : (Builtin.firstCells E'.sz ys.length (.slice a2 m c2)).run P w = .ok (flat E' ys).toArray w := by
    cases a2 <;> exact hsrc
  obtain ⟨H0, hA0, hle0⟩ := h3'.atom
  obtain ⟨hc, hsp, row, T, hrow, pre, post, hr, hp, hq⟩ := hA0
  simp only at hp hrow
  have hrw := hle0 _ _ hrow
  have hle : ys.length ≤ m1 := by rw [hn]; exact Nat.min_le_right _ _
  have hrl : row.size = o + xs.length * E'.sz + post.length := by rw [← Array.length_toList, hr]; simp [flat_length, hp]; omega
  have hge : i * E'.sz + ys.length * E'.sz ≤ xs.length * E'.sz := by rw [← Nat.add_mul]; exact Nat.mul_le_mul_right _ (by omega)
  have hst := run_storeCells_at P b (o + i * E'.sz) T (flat E' ys) 0 row w hrw (by rw [flat_length, hrl]; omega) (flat_one E' ys)
  simp only [Nat.add_zero] at hst
  have hrun : (Builtin.copy_ #[dT, sT] ty #[.slice (some ⟨b, o + i * E'.sz, none⟩) m1 c1, .slice a2 m c2]).run P w = .ok (.int .i64 (ys.length : Int)) (w.setRow b (row.toList.take (o + i * E'.sz) ++ flat E' ys ++ row.toList.drop (o + i * E'.sz + (flat E' ys).length)).toArray) := by
    have hn' : min m1 m = ys.length := by rw [hn, Nat.min_comm]
    simp [Builtin.copy_, run_und hu.out, Builtin.lenOf, sizeOf, typeInfo, hinf, hsz, ← hn, hsrc', hst, goInt]
  refine ⟨_, _, _, by simp [execOp, resolve, invoke, builtin, ev_sound h2 hx, ev_sound h2 hy, hrun]; rfl, ⟨rfl, rfl⟩, ?_⟩
  refine Sat.turn1 (b := b) h3' (fun H hH => ?_) rfl rfl rfl (setRow_at hrw) (fun k hk => setRow_ne hk) (fun H hH => ?_)
  · obtain ⟨_, _, row, T, hb, _⟩ := hH
    rw [hb]; simp
  · have hlen : (xs.take i ++ (ys ++ xs.drop (i + ys.length))).length = xs.length := by simp; omega
    refine ⟨by rw [hlen]; exact hc, rfl, _, T, by simp; rfl, pre, post, ?_, hp, by rw [hlen]; exact hq⟩
    have e1 : row.toList.take (o + i * E'.sz) = pre ++ flat E' (xs.take i) := by
      rw [hr, List.append_assoc, ← hp, List.take_length_add_append, flat_take, List.take_append_of_le_length (by rw [flat_length]; omega)]
    have e2 : row.toList.drop (o + i * E'.sz + (flat E' ys).length) = flat E' (xs.drop (i + ys.length)) ++ post := by
      rw [hr, flat_length, flat_drop, List.append_assoc, Nat.add_assoc, ← List.drop_drop, List.drop_left' hp, List.drop_append_of_le_length (by rw [flat_length]; exact hge), Nat.add_mul]
    rw [e1, e2, flat_append, flat_append]
    simp [List.append_assoc]
end
end Go.Proofs.Ytgoocobeoejoaaa.Sep
namespace Go.Proofs.Ytgoocobeoejoaaa.Sep
set_option linter.unusedSimpArgs false
set_option linter.unusedVariables false
/-! numbers as bytes, and bytes as numbers: plain -/
def leB : Nat → Int → List Int
  | 0, _ => []
  | k + 1, n => n % 256 :: leB k (n / 256)
def leN : List Int → Int
  | [] => 0
  | b :: l => b + 256 * leN l
def Byt (l : List Int) : Prop := ∀ b ∈ l, 0 ≤ b ∧ b ≤ 255
theorem leB_len : ∀ (k : Nat) (n : Int), (leB k n).length = k
  | 0, _ => rfl
  | k + 1, n => by simp [leB, leB_len k]
theorem leB_byt : ∀ (k : Nat) (n : Int), Byt (leB k n)
  | 0, _ => fun b hb => by cases hb
  | k + 1, n => fun b hb => by
    rcases List.mem_cons.1 hb with rfl | hb
    · omega
    · exact leB_byt k _ b hb
theorem pow_pos256 (i : Nat) : (0 : Int) < ((256 ^ i : Nat) : Int) := by have : 0 < 256 ^ i := Nat.pow_pos (by decide); omega
theorem div_div256 (n : Int) (i : Nat) : n / 256 / ((256 ^ i : Nat) : Int) = n / ((256 ^ (i + 1) : Nat) : Int) := by
  rw [Int.ediv_ediv_of_nonneg (by decide), Nat.pow_succ, Nat.mul_comm]
  rfl
theorem leB_get : ∀ (k : Nat) (n : Int) (i : Nat), i < k → (leB k n)[i]? = some (n / ((256 ^ i : Nat) : Int) % 256)
  | 0, _, i, h => by omega
  | k + 1, n, 0, h => by simp [leB]
  | k + 1, n, i + 1, h => by
    simp only [leB, List.getElem?_cons_succ]
    rw [leB_get k _ i (by omega), div_div256]
theorem leN_nn : ∀ {l : List Int}, Byt l → 0 ≤ leN l ∧ leN l < ((256 ^ l.length : Nat) : Int)
  | [], _ => by simp [leN]
  | b :: l, h => by
    have ih := leN_nn (l := l) (fun x hx => h x (by simp [hx]))
    have hb := h b (by simp)
    have e : ((256 ^ (l.length + 1) : Nat) : Int) = 256 * ((256 ^ l.length : Nat) : Int) := by rw [Nat.pow_succ, Nat.mul_comm]; rfl
    simp only [leN, List.length_cons, e]
    omega
theorem leN_leB : ∀ (k : Nat) (n : Int), 0 ≤ n → n < ((256 ^ k : Nat) : Int) → leN (leB k n) = n
  | 0, n, h0, h1 => by simp at h1; simp [leB, leN]; omega
  | k + 1, n, h0, h1 => by
    have e : ((256 ^ (k + 1) : Nat) : Int) = 256 * ((256 ^ k : Nat) : Int) := by rw [Nat.pow_succ, Nat.mul_comm]; rfl
    rw [e] at h1
    simp only [leB, leN]
    rw [leN_leB k (n / 256) (by omega) (by omega)]
    omega
/-- One byte more. -/
theorem leN_snoc : ∀ (l : List Int) (b : Int), leN (l ++ [b]) = leN l + b * ((256 ^ l.length : Nat) : Int)
  | [], b => by simp [leN]
  | a :: l, b => by
    have e : ((256 ^ (l.length + 1) : Nat) : Int) = 256 * ((256 ^ l.length : Nat) : Int) := by rw [Nat.pow_succ, Nat.mul_comm]; rfl
    simp only [List.cons_append, leN, leN_snoc l b, List.length_cons, e]
    rw [Int.mul_add, Int.add_assoc]
    congr 2
    rw [← Int.mul_assoc, ← Int.mul_assoc, Int.mul_comm 256 b]
theorem leN_take {l : List Int} {i : Nat} (h : i < l.length) : leN (l.take (i + 1)) = leN (l.take i) + l[i] * ((256 ^ i : Nat) : Int) := by
  rw [List.take_succ_eq_append_getElem h, leN_snoc, List.length_take, Nat.min_eq_left (by omega)]
/-- Bytes that lie above others are set beside them. -/
theorem or_add {a b i : Nat} (ha : a < 2 ^ (8 * i)) : a ||| (b * 2 ^ (8 * i)) = a + b * 2 ^ (8 * i) := by
  rw [Nat.or_comm, Nat.mul_comm, ← Nat.two_pow_add_eq_or_of_lt ha, Nat.add_comm]
theorem pow256 (i : Nat) : 256 ^ i = 2 ^ (8 * i) := by rw [Nat.pow_mul]

/-! bytes at places -/
def rdM (m : Int → Int) (at_ : Int) (n : Nat) : List Int := (List.range n).map fun i : Nat => m (at_ + i)
def wrM (m : Int → Int) (at_ : Int) (bs : List Int) : Int → Int := fun a => if at_ ≤ a ∧ a < at_ + bs.length then bs.getD (a - at_).toNat 0 else m a
def zrM (m : Int → Int) (at_ n : Int) : Int → Int := fun a => if at_ ≤ a ∧ a < at_ + n then 0 else m a
theorem rdM_len (m : Int → Int) (at_ : Int) (n : Nat) : (rdM m at_ n).length = n := by simp [rdM]
theorem rdM_get {m : Int → Int} {at_ : Int} {n i : Nat} (h : i < n) : (rdM m at_ n)[i]? = some (m (at_ + i)) := by simp [rdM, h]
theorem rdM_ext {m m' : Int → Int} {at_ : Int} {n : Nat} (h : ∀ a, at_ ≤ a → a < at_ + n → m a = m' a) : rdM m at_ n = rdM m' at_ n := by
  simp only [rdM]
  apply List.map_congr_left
  intro i hi
  have := List.mem_range.1 hi
  exact h _ (by omega) (by omega)
theorem rd_wr (m : Int → Int) (at_ : Int) (bs : List Int) : rdM (wrM m at_ bs) at_ bs.length = bs := by
  apply List.ext_getElem?
  intro i
  by_cases h : i < bs.length
  · rw [rdM_get h]
    simp only [wrM]
    rw [if_pos (by omega), show (at_ + (i : Int) - at_).toNat = i from by omega]
    simp [List.getD, h]
  · rw [List.getElem?_eq_none (by rw [rdM_len]; omega), List.getElem?_eq_none (by omega)]
theorem rd_wr_ne {m : Int → Int} {at_ a2 : Int} {bs : List Int} {n : Nat} (h : a2 + n ≤ at_ ∨ at_ + bs.length ≤ a2) : rdM (wrM m at_ bs) a2 n = rdM m a2 n :=
  rdM_ext fun a h1 h2 => by simp only [wrM]; rw [if_neg (by omega)]
theorem rd_zr_ne {m : Int → Int} {at_ a2 k : Int} {n : Nat} (h : a2 + n ≤ at_ ∨ at_ + k ≤ a2) : rdM (zrM m at_ k) a2 n = rdM m a2 n :=
  rdM_ext fun a h1 h2 => by simp only [zrM]; rw [if_neg (by omega)]

/-! headers of chunks -/
def magicB : List Int := [115, 116, 101, 97, 100, 105, 110, 103]
structure Hd where
  pages : Int
  kind : Int
  owner : Int
  next : Int
def HdOk (h : Hd) : Prop := 1 ≤ h.pages ∧ h.pages ≤ 1048576 ∧ 0 ≤ h.kind ∧ h.kind < 256
instance (h : Hd) : Decidable (HdOk h) := by unfold HdOk; exact inferInstance
def hdB (h : Hd) : List Int := magicB ++ ((leB 4 h.pages ++ leB 4 h.kind) ++ (leB 8 h.owner ++ leB 8 h.next))
/-- What 32 bytes tell. -/
def hdOf (l : List Int) : Hd := ⟨leN ((l.drop 8).take 4), leN ((l.drop 12).take 4), leN ((l.drop 16).take 8), leN ((l.drop 24).take 8)⟩
def hdRead (l : List Int) : Option Hd := if l.take 8 = magicB ∧ HdOk (hdOf l) then some (hdOf l) else none
theorem hdB_len (h : Hd) : (hdB h).length = 32 := by simp [hdB, magicB, leB_len]
theorem hd_back {h : Hd} (hk : HdOk h) (h0 : 0 ≤ h.owner) (h1 : h.owner < 18446744073709551616) (h2 : 0 ≤ h.next) (h3 : h.next < 18446744073709551616) : hdRead (hdB h) = some h := by
  obtain ⟨a1, a2, a3, a4⟩ := hk
  have e : hdOf (hdB h) = h := by
    obtain ⟨p, k, o, x⟩ := h
    simp only [hdOf, hdB, magicB, leB, List.cons_append, List.nil_append, List.drop, List.take, Hd.mk.injEq]
    simp only at a1 a2 a3 a4 h0 h1 h2 h3
    refine ⟨?_, ?_, ?_, ?_⟩
    · exact leN_leB 4 p (by omega) (by show p < 4294967296; omega)
    · exact leN_leB 4 k (by omega) (by show k < 4294967296; omega)
    · exact leN_leB 8 o h0 h1
    · exact leN_leB 8 x h2 h3
  unfold hdRead
  rw [e, if_pos ⟨rfl, a1, a2, a3, a4⟩]
end Go.Proofs.Ytgoocobeoejoaaa.Sep
namespace Go.Proofs.Ytgoocobeoejoaaa.Sep
open Go.RowKit
set_option linter.unusedSimpArgs false
set_option linter.unusedVariables false
set_option linter.unusedSectionVars false
/-! strings and their bytes; parts of arrays -/
section
variable {P : Program} {w0 : World} {n : Nat} {Q : Exit → Act → World → Prop} {k : List KI} {e : Env} {L R : List HP} {all : Array Oper} {rest : List Oper} {ty : TypeId} {pos : String} {aft : Array Edge} {d : Nat}
theorem flat_eI (kk : IntKind) : ∀ xs : List Int, flat (eI kk) xs = xs.map (.int kk)
  | [] => rfl
  | x :: xs => by rw [flat_cons, flat_eI kk xs]; rfl
/-- A row of bytes that nobody changes. -/
def Frz (b : Nat) (bs : List Int) : HP := fun H => ∃ (row : Array Value) (T : TypeId) (fr : Nat × Nat), H b = some (.cells row T fr) ∧ ∀ (j : Nat) (v : Value), (flat (eI .u8) bs)[j]? = some v → row[j]? = some v
theorem Frz.view {b : Nat} {bs : List Int} : View (Frz b bs) (eI .u8) (some ⟨b, 0, none⟩) bs := fun H ⟨row, T, fr, hb, h⟩ => .inr ⟨⟨b, 0, none⟩, rfl, rfl, row, T, fr, hb, fun j v hj => by simpa using h j v hj⟩
theorem bytes_len {s : ByteArray} {bs : List Int} (hb : s.data.toList.map (fun b => (b.toNat : Int)) = bs) : s.size = bs.length := by subst hb; simp
/-- []byte(s) -/
theorem dv_bytesOf {S T el : TypeId} {x : Operand} {s : ByteArray} (bs : List Int) [hs : TU P S .string] [ht : TU P T (.slice el)] [he : TU P el (.int .u8)] (hx : ev e x = some (.string s) := by rfl) (hb : s.data.toList.map (fun b => (b.toNat : Int)) = bs := by rfl) :
    DV P w0 (.convert S T x) ty e L (fun v L' => ∃ b c, v = .slice (some ⟨b, 0, none⟩) bs.length c ∧ L' = Frz b bs :: L) := dv_of_run fun tm w pos aft h2 h3 => by
  have hrun := run_bytes_of_string (P := P) w S T el s hs.out ht.out he.out
  refine ⟨.slice (some ⟨w.heap.size, 0, none⟩) s.size (grownCap w s.size 0 el), w.drew.alloc (.cells (bytesRow s (grownCap w s.size 0 el)) el ((bytesRow s (grownCap w s.size 0 el)).size, (bytesRow s (grownCap w s.size 0 el)).size + 1)), Frz w.heap.size bs :: L, by simp [execOp, ev_sound h2 hx, hrun], ⟨w.heap.size, _, by rw [bytes_len hb], rfl⟩, ?_⟩
  refine ((h3.drew).alloc (o := .cells (bytesRow s (grownCap w s.size 0 el)) el ((bytesRow s (grownCap w s.size 0 el)).size, (bytesRow s (grownCap w s.size 0 el)).size + 1))).map fun _ => SL.head fun H hH => ⟨_, _, _, hH, fun j v hj => ?_⟩
  subst hb
  rw [flat_eI, List.map_map] at hj
  have hl : j < s.data.size := by
    have := (List.getElem?_eq_some_iff.1 hj).1
    simpa using this
  rw [bytesRow_at s _ j hl]
  simpa [Array.getElem?_eq_getElem hl] using hj
/-- string(b) -/
theorem rv_stringOf {S T el : TypeId} {x : Operand} {b o m c : Nat} {A : HP} {ns : List Int} (l : List UInt8) [hs : TU P S (.slice el)] [ht : TU P T .string] [he : TU P el (.int .u8)] (hx : ev e x = some (.slice (some ⟨b, o, none⟩) m c)) (hV : View A (eI .u8) (some ⟨b, o, none⟩) ns)
    (hm : m ≤ ns.length) (hl : l.map (fun b => (b.toNat : Int)) = ns.take m) (hf : Find L A R := by repeat (first | exact Find.here | apply Find.there)) : RV P w0 (.convert S T x) ty e L (.string ⟨l.toArray⟩) := fun tm w pos aft h2 h3 => by
  obtain ⟨H1, hA, hle⟩ := (h3.find hf).atom
  have hlm : l.length = m := by have := congrArg List.length hl; simp at this; omega
  have hc : ∀ j (hj : j < l.length), w.cell? ((⟨b, o, none⟩ : Addr).add j) = some (.int .u8 (l[j].toNat : Int)) := by
    intro j hj
    rcases hV H1 hA with rfl | ⟨ad, ha, hsp, row, T', fr, hb, hrow⟩
    · simp at hm; omega
    · cases ha
      have h5 : (flat (eI .u8) ns)[j]? = some (.int .u8 (l[j].toNat : Int)) := by
        rw [flat_eI, List.getElem?_map]
        have h6 : (ns.take m)[j]? = some (l[j].toNat : Int) := by rw [← hl]; simp [hj]
        rw [List.getElem?_take_of_lt (by omega)] at h6
        rw [h6]; rfl
      have h7 := hrow j _ h5
      have h8 : (⟨b, o, none⟩ : Addr).add j = ⟨b, o + j, none⟩ := by unfold Addr.add; split <;> simp_all
      rw [h8]
      simp only [World.cell?, hle _ _ hb]
      simpa using h7
  have hrun := run_convert_bytes_back (P := P) w S T el ⟨b, o, none⟩ c l hs.out he.out ht.out hc
  rw [hlm] at hrun
  simp [execOp, ev_sound h2 hx, hrun]
theorem run_guard_str {op : BinOp} {t : TypeId} {x y : Operand} {b : ByteArray} {v : Value} {w : World} : (eqGuard op t x y (.string b) v).run P w = .ok () w := by
  cases op <;> simp [eqGuard]
theorem run_eqStr {t : TypeId} {a b : ByteArray} (ht : P.underlying t = some .string) {w : World} : (Op.equal t (.string a) (.string b)).run P w = .ok (a == b) w :=
  equal_at P w t _ _ fun d => by simp [Op.equalIn, run_und ht]
theorem pv_neStr {t t' : TypeId} {x y : Operand} {a b : ByteArray} [ht : TU P t .string] (hx : ev e x = some (.string a) := by rfl) (hy : ev e y = some (.string b) := by rfl) : PV P (.binOp .neq t x y t') ty e (.bool (!(a.toList == b.toList))) :=
  fun tm w pos aft h => by
    simp only [execOp, ev_sound h hx, ev_sound h hy, Sem.run_bind, run_guard_str, Result.andThen_ok]
    simp [binOp, Op.stringOp, run_eqStr ht.out, bne]
/-- Parts of an array behind a pointer. -/
theorem pv_sliceArrL {T el s by' len : Nat} {x lo : Operand} {z : Value} {b o : Nat} {kl : IntKind} {l : Int} [hu : TU P T (.array len el)] [hi : TI P el z s by'] (hx : ev e x = some (.pointer (some ⟨b, o, none⟩)) := by rfl) (hlo : ev e lo = some (.int kl l) := by rfl) (h0 : 0 ≤ l := by omega) (h1 : l ≤ (len : Int) := by omega) :
    PV P (.slice T x (some lo) none none) ty e (.slice (subA (some ⟨b, o, none⟩) l.toNat len s) (len - l.toNat) (len - l.toNat)) :=
  fun tm w pos aft h => by
    have h2 : (underlying T).run P w = .ok (.array len el) w := run_und hu.out
    have h4 : P.elem T = el := by unfold Program.elem; rw [hu.out]
    have h5 : P.arrayLen T = len := by unfold Program.arrayLen; rw [hu.out]
    have h6 := run_sliceAt_array_l (P := P) w T ⟨b, o, none⟩ (by rw [h4, h5]; exact hu.out) kl l h0 (by rw [h5]; exact h1)
    rw [h4, h5] at h6
    simp [execOp, ev_sound h hx, ev_sound h hlo, h6, run_size hi, slicedAt, subA]
    split <;> rfl
theorem pv_sliceArrLH {T el s by' len : Nat} {x lo hi : Operand} {z : Value} {b o : Nat} {kl kh : IntKind} {l h : Int} [hu : TU P T (.array len el)] [hti : TI P el z s by'] (hx : ev e x = some (.pointer (some ⟨b, o, none⟩)) := by rfl) (hlo : ev e lo = some (.int kl l) := by rfl) (hhi : ev e hi = some (.int kh h) := by rfl)
    (h0 : 0 ≤ l := by omega) (h1 : l ≤ h := by omega) (h2 : h ≤ (len : Int) := by omega) :
    PV P (.slice T x (some lo) (some hi) none) ty e (.slice (subA (some ⟨b, o, none⟩) l.toNat len s) (h.toNat - l.toNat) (len - l.toNat)) :=
  fun tm w pos aft ha => by
    have h3 : (underlying T).run P w = .ok (.array len el) w := run_und hu.out
    have h4 : P.elem T = el := by unfold Program.elem; rw [hu.out]
    have h5 : P.arrayLen T = len := by unfold Program.arrayLen; rw [hu.out]
    have h6 := run_sliceAt_array_lh (P := P) w T ⟨b, o, none⟩ (by rw [h4, h5]; exact hu.out) kl kh l h h0 h1 (by rw [h5]; exact h2)
    rw [h4, h5] at h6
    simp [execOp, ev_sound ha hx, ev_sound ha hlo, ev_sound ha hhi, h6, run_size hti, slicedAt, subA]
    split <;> rfl
theorem zeros_eq (kk : IntKind) (m : Nat) : (Builtin.zeroCells #[Value.int kk 0] m).toList = flat (eI kk) (List.replicate m 0) := by
  rw [flat_eI]
  apply List.ext_getElem?
  intro i
  by_cases h : i < m
  · simp [Builtin.zeroCells, h, Nat.mod_one]
  · simp [Builtin.zeroCells, h]
/-- clear(x[i:i+m]) of numbers -/
theorem dv_clearAt {t el by' : Nat} {x : Operand} {b o c m c2 : Nat} {kk : IntKind} (i : Nat) {xs : List Int} [hu : TU P t (.slice el)] [hi : TI P el (.int kk 0) 1 by'] (hx : ev e x = some (.slice (some ⟨b, o + i, none⟩) m c2))
    (hf : Find L (Sl (eI kk) (some ⟨b, o, none⟩) c xs) R := by repeat (first | exact Find.here | apply Find.there)) (hm : i + m ≤ xs.length) :
    DV P w0 (.call ⟨.builtin .clear, #[x], #[t]⟩) ty e L (fun _ L' => L' = Sl (eI kk) (some ⟨b, o, none⟩) c (xs.take i ++ (List.replicate m 0 ++ xs.drop (i + m))) :: R) := dv_of_run fun tm w pos aft h2 h3 => by
  have h3' := h3.find hf
  by_cases hm0 : m = 0
  · subst hm0
    refine ⟨.tuple #[], w, _, ?_, rfl, by simpa using h3'⟩
    have h4 : (Builtin.clear_ #[t] ty #[.slice (some ⟨b, o + i, none⟩) 0 c2]).run P w = .ok (.tuple #[]) w := by simp [Builtin.clear_, run_und hu.out]
    simp [execOp, resolve, invoke, builtin, ev_sound h2 hx, h4]
  obtain ⟨H0, hA0, hle0⟩ := h3'.atom
  obtain ⟨hc, hsp, row, T, hrow, pre, post, hr, hp, hq⟩ := hA0
  have hrw := hle0 _ _ hrow
  simp only at hp hrow hrw
  have hzl : (Builtin.zeroCells #[Value.int kk 0] m).toList.length = m := by rw [zeros_eq, flat_eI]; simp
  have hzo : ∀ v ∈ (Builtin.zeroCells #[Value.int kk 0] m).toList, v.oneCell' = true := by rw [zeros_eq]; exact flat_one _ _
  have hsize : row.size = o + xs.length + post.length := by rw [← Array.length_toList, hr]; simp [flat_length, hp, eI]; omega
  have hst := run_storeCells_at P b (o + i) T (Builtin.zeroCells #[Value.int kk 0] m).toList 0 row w hrw (by rw [hzl, hsize]; omega) hzo
  simp only [Nat.add_zero] at hst
  have hzc : (Value.int kk 0).cells = #[Value.int kk 0] := rfl
  have hrun : (Builtin.clear_ #[t] ty #[.slice (some ⟨b, o + i, none⟩) m c2]).run P w = .ok (.tuple #[]) (w.setRow b (row.toList.take (o + i) ++ (Builtin.zeroCells #[Value.int kk 0] m).toList ++ row.toList.drop (o + i + (Builtin.zeroCells #[Value.int kk 0] m).toList.length)).toArray) := by
    obtain ⟨m', rfl⟩ : ∃ m', m = m' + 1 := ⟨m - 1, by omega⟩
    simp only [Builtin.clear_, Sem.run_bind, run_und hu.out, Result.andThen_ok, run_zero hi, hst]
    simp [run_und hu.out, run_zero hi, hst, hzc]
  have hop : ∀ (res : Result Value), (Builtin.clear_ #[t] ty #[.slice (some ⟨b, o + i, none⟩) m c2]).run P w = res →
      (execOp (Act.mk tm []).eval ⟨none, .call ⟨.builtin .clear, #[x], #[t]⟩, ty, pos, aft, none⟩).run P w = res.andThen fun v w => .ok (.value v) w := by
    intro res h
    simp [execOp, resolve, invoke, builtin, ev_sound h2 hx, h]
  refine ⟨_, _, _, by rw [hop _ hrun]; rfl, rfl, ?_⟩
  refine Sat.turn1 (b := b) h3' (fun H hH => ?_) rfl rfl rfl (setRow_at hrw) (fun k hk => setRow_ne hk) (fun H hH => ?_)
  · obtain ⟨_, _, row, T, hb, _⟩ := hH
    rw [hb]; simp
  · have hlen : (xs.take i ++ (List.replicate m 0 ++ xs.drop (i + m))).length = xs.length := by simp; omega
    refine ⟨by rw [hlen]; exact hc, rfl, _, T, by simp; rfl, pre, post, ?_, hp, by rw [hlen]; exact hq⟩
    have e1 : row.toList.take (o + i) = pre ++ flat (eI kk) (xs.take i) := by
      rw [hr, List.append_assoc, ← hp, List.take_length_add_append, flat_take, List.take_append_of_le_length (by rw [flat_length]; simp [eI]; omega)]
      simp [eI]
    have hzs : (Builtin.zeroCells #[Value.int kk 0] m).size = m := by simpa using hzl
    have e2 : row.toList.drop (o + i + m) = flat (eI kk) (xs.drop (i + m)) ++ post := by
      rw [hr, flat_drop, List.append_assoc, Nat.add_assoc, ← List.drop_drop, List.drop_left' hp, List.drop_append_of_le_length (by rw [flat_length]; simp [eI]; omega)]
      simp [eI]
    rw [e1, hzs, e2, zeros_eq, flat_append, flat_append]
    simp [List.append_assoc]
/-- A page's number, as two halves: a key. -/
def keyV (p : Int) : Value := .agg #[.int .u16 (p / 65536), .int .u16 (p % 65536)]
theorem run_eqPage {T el by' : Nat} {z : Value} (hu : P.underlying T = some (.array 2 el)) (he : P.underlying el = some (.int .u16)) (hi : TI P el z 1 by') (d : Nat) (a b : Int) (w : World) :
    (Op.equalIn (d + 2) T (keyV a) (keyV b)).run P w = .ok (a / 65536 == b / 65536 && a % 65536 == b % 65536) w := by
  have e1 := run_eqInt he d (a / 65536) (b / 65536) w
  have e2 := run_eqInt he d (a % 65536) (b % 65536) w
  have hs : (sizeOf el).run P w = .ok 1 w := run_size hi
  unfold Op.equalIn
  simp only [Sem.run_bind, run_und hu, Result.andThen_ok, keyV, hs]
  simp [Std.Legacy.Range.forIn_eq_forIn_range', Std.Legacy.Range.size, List.range', part, run_isAgg he, aggD, e1, e2]
  by_cases h1 : a / 65536 = b / 65536 <;> by_cases h2 : a % 65536 = b % 65536 <;> simp [*]
theorem tk_page {T el by' : Nat} {z : Value} [hu : TU P T (.array 2 el)] [he : TU P el (.int .u16)] [hi : TI P el z 1 by'] : TK P T keyV where
  inj := fun a b h => by
    simp only [keyV, Value.agg.injEq, Array.mk.injEq, List.cons.injEq, Value.int.injEq, true_and, and_true] at h
    omega
  check := fun em w a => by
    have key : ∀ d, (Instr.checkKey em (d + 2) T (keyV a)).run P w = .ok () w := fun d => by
      have e1 := run_checkInt he.out em d (a / 65536) w
      have e2 := run_checkInt he.out em d (a % 65536) w
      have hs : (sizeOf el).run P w = .ok 1 w := run_size hi
      unfold Instr.checkKey
      simp only [Sem.run_bind, run_und hu.out, Result.andThen_ok, keyV, hs]
      simp [Std.Legacy.Range.forIn_eq_forIn_range', Std.Legacy.Range.size, List.range', part, run_isAgg he.out, aggD, e1, e2, hs]
    exact key 9998
  eq := fun a b w => by
    have : (Op.equal T (keyV a) (keyV b)).run P w = _ := run_eqPage hu.out he.out hi 9998 a b w
    rw [this]
    refine congrArg (fun x => Result.ok x w) ?_
    by_cases e : a = b
    · subst e; simp
    · have : ¬ (a / 65536 = b / 65536 ∧ a % 65536 = b % 65536) := by omega
      by_cases e1 : a / 65536 = b / 65536 <;> by_cases e2 : a % 65536 = b % 65536 <;> simp [e1, e2, e] <;> omega
  bits := fun a => by simp [Instr.sameBits, keyV]
  now := ⟨_, hu.out, .inr fun a b => rfl⟩
/-- An array that is written out. -/
theorem pv_buildArr {T el len m s by' by2 : Nat} {parts : Array (Nat × Operand)} {z z2 : Value} {vs : List Value} (cells : List Value) [hu : TU P T (.array m el)] [hi : TI P T z len by'] [he : TI P el z2 s by2]
    (hv : evl e (parts.toList.map (·.2)) = some vs := by rfl) (hf : Instr.fill (fun i => some (i * s, s)) z.cells ((parts.toList.map (·.1)).zip vs) = some cells.toArray := by rfl) : PV P (.build T parts) ty e (.agg cells.toArray) := fun tm w pos aft h2 => by
  have h4 := evl_sound (ds := []) h2 hv
  have hparts : parts.toList.map (fun x => (x.fst, (Act.mk tm []).eval x.snd)) = (parts.toList.map (·.1)).zip vs := by
    rw [← h4]
    generalize parts.toList = l
    induction l with
    | nil => rfl
    | cons p l ih => simp [ih]
  have hus : (underlying T).run P w = .ok (.array m el) w := run_und hu.out
  have hsz : (sizeOf el).run P w = .ok s w := run_size he
  simp only [execOp, Instr.build, Sem.run_bind, run_zero hi, Result.andThen_ok, hus, hsz]
  have hp2 : (Array.map (fun x : Nat × Operand => match x with | (i, x) => (i, (Act.mk tm []).eval x)) parts).toList = (parts.toList.map (·.1)).zip vs := by rw [Array.toList_map]; exact hparts
  rw [hp2]
  have hf' : Instr.fill (fun i => some (i * s, s)) z.cells ((parts.toList.map (·.1)).zip vs) = some cells.toArray := hf
  rw [hf']
  rfl
end
end Go.Proofs.Ytgoocobeoejoaaa.Sep
namespace Go.Proofs.Ytgoocobeoejoaaa.Sep
set_option linter.unusedSimpArgs false
set_option linter.unusedVariables false
/-! the pages of a space: plain -/
def memOf (M : List (Int × Nat × List Int)) (a : Int) : Int := match lk M (a / 4096) with
  | none => 0
  | some q => q.2.getD (a % 4096).toNat 0
def POk (P : Int) (M : List (Int × Nat × List Int)) : Prop := ∀ q ∈ M, 0 ≤ q.1 ∧ q.1 < P ∧ q.2.2.length = 4096
def cutIn (xs : List Int) (i : Nat) (bs : List Int) : List Int := xs.take i ++ (bs ++ xs.drop (i + bs.length))
theorem cutIn_len {xs bs : List Int} {i : Nat} (h : i + bs.length ≤ xs.length) : (cutIn xs i bs).length = xs.length := by simp [cutIn]; omega
theorem cutIn_get {xs bs : List Int} {i j : Nat} (h : i + bs.length ≤ xs.length) : (cutIn xs i bs).getD j 0 = if i ≤ j ∧ j < i + bs.length then bs.getD (j - i) 0 else xs.getD j 0 := by
  simp only [List.getD, cutIn]
  congr 1
  by_cases h1 : j < i
  · rw [List.getElem?_append_left (by simp; omega), List.getElem?_take_of_lt h1, if_neg (by omega)]
  · rw [List.getElem?_append_right (by simp; omega), List.length_take, Nat.min_eq_left (by omega)]
    by_cases h2 : j < i + bs.length
    · rw [if_pos ⟨by omega, h2⟩, List.getElem?_append_left (by omega)]
    · rw [if_neg (by omega), List.getElem?_append_right (by omega), List.getElem?_drop, show i + bs.length + (j - i - bs.length) = j from by omega]
theorem rep0 (n j : Nat) : (List.replicate n (0 : Int)).getD j 0 = 0 := by
  simp only [List.getD, List.getElem?_replicate]
  split <;> rfl
theorem memOf_new {M : List (Int × Nat × List Int)} {p : Int} {b : Nat} (h : lk M p = none) (a : Int) : memOf (ins M p (b, List.replicate 4096 0)) a = memOf M a := by
  unfold memOf
  rw [lk_ins]
  by_cases e : a / 4096 = p
  · rw [if_pos e, e, h]
    exact rep0 _ _
  · rw [if_neg e]
theorem memOf_put {M : List (Int × Nat × List Int)} {p : Int} {b : Nat} {xs bs : List Int} {i : Nat} (h : lk M p = some (b, xs)) (hl : xs.length = 4096) (hi : i + bs.length ≤ 4096) (a : Int) :
    memOf (ins M p (b, cutIn xs i bs)) a = wrM (memOf M) (p * 4096 + i) bs a := by
  simp only [memOf, wrM, lk_ins]
  by_cases e : a / 4096 = p
  · rw [if_pos e, e, h]
    simp only
    rw [cutIn_get (by omega)]
    by_cases h2 : i ≤ (a % 4096).toNat ∧ (a % 4096).toNat < i + bs.length
    · rw [if_pos h2, if_pos (by omega)]
      congr 1; omega
    · rw [if_neg h2, if_neg (by omega)]
  · rw [if_neg e, if_neg (by omega)]
theorem wr_nil (m : Int → Int) (at_ : Int) : wrM m at_ [] = m := by
  funext a; simp only [wrM]; rw [if_neg (by simp only [List.length_nil]; omega)]
theorem wr_wr (m : Int → Int) (at_ : Int) (bs cs : List Int) : wrM (wrM m at_ bs) (at_ + bs.length) cs = wrM m at_ (bs ++ cs) := by
  funext a
  simp only [wrM, List.length_append]
  by_cases h1 : at_ + bs.length ≤ a ∧ a < at_ + bs.length + cs.length
  · rw [if_pos h1, if_pos (by omega)]
    simp only [List.getD]
    rw [List.getElem?_append_right (by omega)]
    congr 2; omega
  · rw [if_neg h1]
    by_cases h2 : at_ ≤ a ∧ a < at_ + bs.length
    · rw [if_pos h2, if_pos (by omega)]
      simp only [List.getD]
      rw [List.getElem?_append_left (by omega)]
    · rw [if_neg h2, if_neg (by omega)]
theorem rd_app (m : Int → Int) (at_ : Int) (n k : Nat) : rdM m at_ (n + k) = rdM m at_ n ++ rdM m (at_ + n) k := by
  simp only [rdM, List.range_add, List.map_append, List.map_map]
  congr 1
  apply List.map_congr_left
  intro i _
  simp [Int.add_assoc]
theorem rd_page {M : List (Int × Nat × List Int)} {p : Int} {b : Nat} {xs : List Int} {i n : Nat} (h : lk M p = some (b, xs)) (hl : xs.length = 4096) (hi : i + n ≤ 4096) : rdM (memOf M) (p * 4096 + i) n = (xs.drop i).take n := by
  apply List.ext_getElem?
  intro j
  by_cases hj : j < n
  · simp only [rdM, List.getElem?_map, List.getElem?_range hj, Option.map_some, memOf]
    rw [show (p * 4096 + (i : Int) + (j : Int)) / 4096 = p from by omega, h]
    simp only
    rw [show ((p * 4096 + (i : Int) + (j : Int)) % 4096).toNat = i + j from by omega, List.getElem?_take_of_lt hj, List.getElem?_drop, List.getD]
    have : i + j < xs.length := by omega
    simp [this]
  · rw [List.getElem?_eq_none (by simp [rdM]; omega), List.getElem?_eq_none (by simp; omega)]
theorem rd_none {M : List (Int × Nat × List Int)} {p : Int} {i n : Nat} (h : lk M p = none) (hi : i + n ≤ 4096) : rdM (memOf M) (p * 4096 + i) n = List.replicate n 0 := by
  apply List.ext_getElem?
  intro j
  by_cases hj : j < n
  · simp only [rdM, List.getElem?_map, List.getElem?_range hj, Option.map_some, memOf]
    rw [show (p * 4096 + (i : Int) + (j : Int)) / 4096 = p from by omega, h]
    simp [hj]
  · rw [List.getElem?_eq_none (by simp [rdM]; omega), List.getElem?_eq_none (by simp; omega)]
/-- Bytes, and what was touched. -/
structure Mm where
  f : Int → Int
  t : Int
/-- How many pages some bytes touch. -/
def touchI (at_ n : Int) : Int := if n = 0 then 1 else (at_ + n - 1) / 4096 - at_ / 4096 + 1
def tkM (m : Mm) (k : Int) : Mm := ⟨m.f, IntKind.i64.wrap (m.t + k)⟩
def stM (m : Mm) (at_ : Int) (bs : List Int) : Mm := ⟨wrM m.f at_ bs, IntKind.i64.wrap (m.t + touchI at_ bs.length)⟩
def zzM (m : Mm) (at_ n : Int) : Mm := ⟨zrM m.f at_ n, IntKind.i64.wrap (m.t + touchI at_ n)⟩
def ldM (m : Mm) (at_ n : Int) : Mm := ⟨m.f, IntKind.i64.wrap (m.t + touchI at_ n)⟩
theorem touch_hdr (page : Int) : touchI (page * 4096) 32 = 1 := by unfold touchI; rw [if_neg (by decide)]; omega
end Go.Proofs.Ytgoocobeoejoaaa.Sep
namespace Go.Proofs.Ytgoocobeoejoaaa.Sep
open Go.Proofs
theorem tu0 : TU Try.prog 0 Try.t0.desc := ⟨Try.underlying0⟩
theorem ti0 : TI Try.prog 0 (Try.t0.zero.getD undef) 1 0 := ⟨Try.t0, (by kernel_rfl), rfl, rfl, rfl⟩
theorem tu1 : TU Try.prog 1 Try.t1.desc := ⟨Try.underlying1⟩
theorem ti1 : TI Try.prog 1 (Try.t1.zero.getD undef) 1 8 := ⟨Try.t1, (by kernel_rfl), rfl, rfl, rfl⟩
theorem tu2 : TU Try.prog 2 Try.t2.desc := ⟨Try.underlying2⟩
theorem tk2 : TK Try.prog 2 (fun n : Int => Value.int .i64 n) := tk_int (h := ⟨Try.underlying2⟩)
theorem ti2 : TI Try.prog 2 (Try.t2.zero.getD undef) 1 8 := ⟨Try.t2, (by kernel_rfl), rfl, rfl, rfl⟩
theorem tu3 : TU Try.prog 3 Try.t3.desc := ⟨Try.underlying3⟩
theorem tk3 : TK Try.prog 3 (fun n : Int => Value.int .i64 n) := tk_int (h := ⟨Try.underlying3⟩)
theorem ti3 : TI Try.prog 3 (Try.t3.zero.getD undef) 1 8 := ⟨Try.t3, (by kernel_rfl), rfl, rfl, rfl⟩
theorem tu4 : TU Try.prog 4 Try.t4.desc := ⟨Try.underlying4⟩
theorem ti4 : TI Try.prog 4 (Try.t4.zero.getD undef) 1 1 := ⟨Try.t4, (by kernel_rfl), rfl, rfl, rfl⟩
theorem tu5 : TU Try.prog 5 Try.t5.desc := ⟨Try.underlying5⟩
theorem tk5 : TK Try.prog 5 (fun n : Int => Value.int .u8 n) := tk_int (h := ⟨Try.underlying5⟩)
theorem ti5 : TI Try.prog 5 (Try.t5.zero.getD undef) 1 1 := ⟨Try.t5, (by kernel_rfl), rfl, rfl, rfl⟩
theorem tu6 : TU Try.prog 6 Try.t5.desc := ⟨Try.underlying6⟩
theorem tk6 : TK Try.prog 6 (fun n : Int => Value.int .u8 n) := tk_int (h := ⟨Try.underlying6⟩)
theorem ti6 : TI Try.prog 6 (Try.t6.zero.getD undef) 1 1 := ⟨Try.t6, (by kernel_rfl), rfl, rfl, rfl⟩
theorem tu7 : TU Try.prog 7 Try.t7.desc := ⟨Try.underlying7⟩
theorem ti7 : TI Try.prog 7 (Try.t7.zero.getD undef) 4 24 := ⟨Try.t7, (by kernel_rfl), rfl, rfl, rfl⟩
theorem tu8 : TU Try.prog 8 Try.t7.desc := ⟨Try.underlying8⟩
theorem ti8 : TI Try.prog 8 (Try.t8.zero.getD undef) 4 24 := ⟨Try.t8, (by kernel_rfl), rfl, rfl, rfl⟩
theorem tu9 : TU Try.prog 9 Try.t9.desc := ⟨Try.underlying9⟩
theorem ti9 : TI Try.prog 9 (Try.t9.zero.getD undef) 1 16 := ⟨Try.t9, (by kernel_rfl), rfl, rfl, rfl⟩
theorem tu10 : TU Try.prog 10 Try.t9.desc := ⟨Try.underlying10⟩
theorem ti10 : TI Try.prog 10 (Try.t10.zero.getD undef) 1 16 := ⟨Try.t10, (by kernel_rfl), rfl, rfl, rfl⟩
theorem tu11 : TU Try.prog 11 Try.t9.desc := ⟨Try.underlying11⟩
theorem ti11 : TI Try.prog 11 (Try.t11.zero.getD undef) 1 16 := ⟨Try.t11, (by kernel_rfl), rfl, rfl, rfl⟩
theorem tu12 : TU Try.prog 12 Try.t12.desc := ⟨Try.underlying12⟩
theorem tk12 : TK Try.prog 12 (fun n : Int => Value.int .u64 n) := tk_int (h := ⟨Try.underlying12⟩)
theorem ti12 : TI Try.prog 12 (Try.t12.zero.getD undef) 1 8 := ⟨Try.t12, (by kernel_rfl), rfl, rfl, rfl⟩
theorem tu13 : TU Try.prog 13 Try.t13.desc := ⟨Try.underlying13⟩
theorem ti13 : TI Try.prog 13 (Try.t13.zero.getD undef) 2 24 := ⟨Try.t13, (by kernel_rfl), rfl, rfl, rfl⟩
theorem tu14 : TU Try.prog 14 Try.t13.desc := ⟨Try.underlying14⟩
theorem ti14 : TI Try.prog 14 (Try.t14.zero.getD undef) 2 24 := ⟨Try.t14, (by kernel_rfl), rfl, rfl, rfl⟩
theorem tu15 : TU Try.prog 15 Try.t15.desc := ⟨Try.underlying15⟩
theorem ti15 : TI Try.prog 15 (Try.t15.zero.getD undef) 1 8 := ⟨Try.t15, (by kernel_rfl), rfl, rfl, rfl⟩
theorem tu16 : TU Try.prog 16 Try.t16.desc := ⟨Try.underlying16⟩
theorem ti16 : TI Try.prog 16 (Try.t16.zero.getD undef) 1 8 := ⟨Try.t16, (by kernel_rfl), rfl, rfl, rfl⟩
theorem tu17 : TU Try.prog 17 Try.t17.desc := ⟨Try.underlying17⟩
theorem ti17 : TI Try.prog 17 (Try.t17.zero.getD undef) 1 8 := ⟨Try.t17, (by kernel_rfl), rfl, rfl, rfl⟩
theorem tu18 : TU Try.prog 18 Try.t18.desc := ⟨Try.underlying18⟩
theorem ti18 : TI Try.prog 18 (Try.t18.zero.getD undef) 1 8 := ⟨Try.t18, (by kernel_rfl), rfl, rfl, rfl⟩
theorem tu19 : TU Try.prog 19 Try.t18.desc := ⟨Try.underlying19⟩
theorem ti19 : TI Try.prog 19 (Try.t19.zero.getD undef) 1 8 := ⟨Try.t19, (by kernel_rfl), rfl, rfl, rfl⟩
theorem tu20 : TU Try.prog 20 Try.t20.desc := ⟨Try.underlying20⟩
theorem ti20 : TI Try.prog 20 (Try.t20.zero.getD undef) 1 16 := ⟨Try.t20, (by kernel_rfl), rfl, rfl, rfl⟩
theorem tu21 : TU Try.prog 21 Try.t21.desc := ⟨Try.underlying21⟩
theorem tk21 : TK Try.prog 21 (fun n : Int => Value.int .i32 n) := tk_int (h := ⟨Try.underlying21⟩)
theorem ti21 : TI Try.prog 21 (Try.t21.zero.getD undef) 1 4 := ⟨Try.t21, (by kernel_rfl), rfl, rfl, rfl⟩
theorem tu22 : TU Try.prog 22 Try.t22.desc := ⟨Try.underlying22⟩
theorem ti22 : TI Try.prog 22 (Try.t22.zero.getD undef) 1 24 := ⟨Try.t22, (by kernel_rfl), rfl, rfl, rfl⟩
theorem tu23 : TU Try.prog 23 Try.t23.desc := ⟨Try.underlying23⟩
theorem ti23 : TI Try.prog 23 (Try.t23.zero.getD undef) 1 8 := ⟨Try.t23, (by kernel_rfl), rfl, rfl, rfl⟩
theorem tu24 : TU Try.prog 24 Try.t24.desc := ⟨Try.underlying24⟩
theorem ti24 : TI Try.prog 24 (Try.t24.zero.getD undef) 1 8 := ⟨Try.t24, (by kernel_rfl), rfl, rfl, rfl⟩
theorem tu25 : TU Try.prog 25 Try.t25.desc := ⟨Try.underlying25⟩
theorem ti25 : TI Try.prog 25 (Try.t25.zero.getD undef) 1 8 := ⟨Try.t25, (by kernel_rfl), rfl, rfl, rfl⟩
theorem tu26 : TU Try.prog 26 Try.t26.desc := ⟨Try.underlying26⟩
theorem ti26 : TI Try.prog 26 (Try.t26.zero.getD undef) 1 8 := ⟨Try.t26, (by kernel_rfl), rfl, rfl, rfl⟩
theorem tu27 : TU Try.prog 27 Try.t27.desc := ⟨Try.underlying27⟩
theorem ti27 : TI Try.prog 27 (Try.t27.zero.getD undef) 1 8 := ⟨Try.t27, (by kernel_rfl), rfl, rfl, rfl⟩
theorem tu28 : TU Try.prog 28 Try.t28.desc := ⟨Try.underlying28⟩
theorem tk28 : TK Try.prog 28 (fun n : Int => Value.int .u64 n) := tk_int (h := ⟨Try.underlying28⟩)
theorem ti28 : TI Try.prog 28 (Try.t28.zero.getD undef) 1 8 := ⟨Try.t28, (by kernel_rfl), rfl, rfl, rfl⟩
theorem tu29 : TU Try.prog 29 Try.t29.desc := ⟨Try.underlying29⟩
theorem ti29 : TI Try.prog 29 (Try.t29.zero.getD undef) 1 24 := ⟨Try.t29, (by kernel_rfl), rfl, rfl, rfl⟩
theorem tu30 : TU Try.prog 30 Try.t30.desc := ⟨Try.underlying30⟩
theorem ti30 : TI Try.prog 30 (Try.t30.zero.getD undef) 1 24 := ⟨Try.t30, (by kernel_rfl), rfl, rfl, rfl⟩
theorem tu31 : TU Try.prog 31 Try.t31.desc := ⟨Try.underlying31⟩
theorem ti31 : TI Try.prog 31 (Try.t31.zero.getD undef) 1 24 := ⟨Try.t31, (by kernel_rfl), rfl, rfl, rfl⟩
theorem tu32 : TU Try.prog 32 Try.t32.desc := ⟨Try.underlying32⟩
theorem ti32 : TI Try.prog 32 (Try.t32.zero.getD undef) 5 40 := ⟨Try.t32, (by kernel_rfl), rfl, rfl, rfl⟩
theorem tu33 : TU Try.prog 33 Try.t32.desc := ⟨Try.underlying33⟩
theorem ti33 : TI Try.prog 33 (Try.t33.zero.getD undef) 5 40 := ⟨Try.t33, (by kernel_rfl), rfl, rfl, rfl⟩
theorem tu34 : TU Try.prog 34 Try.t34.desc := ⟨Try.underlying34⟩
theorem ti34 : TI Try.prog 34 (Try.t34.zero.getD undef) 10 72 := ⟨Try.t34, (by kernel_rfl), rfl, rfl, rfl⟩
theorem tu35 : TU Try.prog 35 Try.t34.desc := ⟨Try.underlying35⟩
theorem ti35 : TI Try.prog 35 (Try.t35.zero.getD undef) 10 72 := ⟨Try.t35, (by kernel_rfl), rfl, rfl, rfl⟩
theorem tu36 : TU Try.prog 36 Try.t3.desc := ⟨Try.underlying36⟩
theorem tk36 : TK Try.prog 36 (fun n : Int => Value.int .i64 n) := tk_int (h := ⟨Try.underlying36⟩)
theorem ti36 : TI Try.prog 36 (Try.t36.zero.getD undef) 1 8 := ⟨Try.t36, (by kernel_rfl), rfl, rfl, rfl⟩
theorem tu37 : TU Try.prog 37 Try.t37.desc := ⟨Try.underlying37⟩
theorem ti37 : TI Try.prog 37 (Try.t37.zero.getD undef) 1 0 := ⟨Try.t37, (by kernel_rfl), rfl, rfl, rfl⟩
theorem tu38 : TU Try.prog 38 Try.t38.desc := ⟨Try.underlying38⟩
theorem ti38 : TI Try.prog 38 (Try.t38.zero.getD undef) 1 8 := ⟨Try.t38, (by kernel_rfl), rfl, rfl, rfl⟩
theorem tu39 : TU Try.prog 39 Try.t39.desc := ⟨Try.underlying39⟩
theorem ti39 : TI Try.prog 39 (Try.t39.zero.getD undef) 1 24 := ⟨Try.t39, (by kernel_rfl), rfl, rfl, rfl⟩
theorem tu40 : TU Try.prog 40 Try.t40.desc := ⟨Try.underlying40⟩
theorem ti40 : TI Try.prog 40 (Try.t40.zero.getD undef) 1 0 := ⟨Try.t40, (by kernel_rfl), rfl, rfl, rfl⟩
theorem tu41 : TU Try.prog 41 Try.t41.desc := ⟨Try.underlying41⟩
theorem ti41 : TI Try.prog 41 (Try.t41.zero.getD undef) 1 8 := ⟨Try.t41, (by kernel_rfl), rfl, rfl, rfl⟩
theorem tu42 : TU Try.prog 42 Try.t42.desc := ⟨Try.underlying42⟩
theorem ti42 : TI Try.prog 42 (Try.t42.zero.getD undef) 1 8 := ⟨Try.t42, (by kernel_rfl), rfl, rfl, rfl⟩
theorem tu43 : TU Try.prog 43 Try.t43.desc := ⟨Try.underlying43⟩
theorem ti43 : TI Try.prog 43 (Try.t43.zero.getD undef) 1 8 := ⟨Try.t43, (by kernel_rfl), rfl, rfl, rfl⟩
theorem tu44 : TU Try.prog 44 Try.t44.desc := ⟨Try.underlying44⟩
theorem ti44 : TI Try.prog 44 (Try.t44.zero.getD undef) 1 8 := ⟨Try.t44, (by kernel_rfl), rfl, rfl, rfl⟩
theorem tu45 : TU Try.prog 45 Try.t45.desc := ⟨Try.underlying45⟩
theorem ti45 : TI Try.prog 45 (Try.t45.zero.getD undef) 1 8 := ⟨Try.t45, (by kernel_rfl), rfl, rfl, rfl⟩
theorem tu46 : TU Try.prog 46 Try.t46.desc := ⟨Try.underlying46⟩
theorem ti46 : TI Try.prog 46 (Try.t46.zero.getD undef) 1 8 := ⟨Try.t46, (by kernel_rfl), rfl, rfl, rfl⟩
theorem tu47 : TU Try.prog 47 Try.t47.desc := ⟨Try.underlying47⟩
theorem ti47 : TI Try.prog 47 (Try.t47.zero.getD undef) 1 8 := ⟨Try.t47, (by kernel_rfl), rfl, rfl, rfl⟩
theorem tu48 : TU Try.prog 48 Try.t48.desc := ⟨Try.underlying48⟩
theorem ti48 : TI Try.prog 48 (Try.t48.zero.getD undef) 1 8 := ⟨Try.t48, (by kernel_rfl), rfl, rfl, rfl⟩
theorem tu49 : TU Try.prog 49 Try.t49.desc := ⟨Try.underlying49⟩
theorem ti49 : TI Try.prog 49 (Try.t49.zero.getD undef) 1 8 := ⟨Try.t49, (by kernel_rfl), rfl, rfl, rfl⟩
theorem tu50 : TU Try.prog 50 Try.t50.desc := ⟨Try.underlying50⟩
theorem ti50 : TI Try.prog 50 (Try.t50.zero.getD undef) 1 24 := ⟨Try.t50, (by kernel_rfl), rfl, rfl, rfl⟩
theorem tu51 : TU Try.prog 51 Try.t51.desc := ⟨Try.underlying51⟩
theorem ti51 : TI Try.prog 51 (Try.t51.zero.getD undef) 1 0 := ⟨Try.t51, (by kernel_rfl), rfl, rfl, rfl⟩
theorem tu52 : TU Try.prog 52 Try.t52.desc := ⟨Try.underlying52⟩
theorem ti52 : TI Try.prog 52 (Try.t52.zero.getD undef) 1 8 := ⟨Try.t52, (by kernel_rfl), rfl, rfl, rfl⟩
theorem tu53 : TU Try.prog 53 Try.t53.desc := ⟨Try.underlying53⟩
theorem ti53 : TI Try.prog 53 (Try.t53.zero.getD undef) 2 16 := ⟨Try.t53, (by kernel_rfl), rfl, rfl, rfl⟩
theorem tu54 : TU Try.prog 54 Try.t53.desc := ⟨Try.underlying54⟩
theorem ti54 : TI Try.prog 54 (Try.t54.zero.getD undef) 2 16 := ⟨Try.t54, (by kernel_rfl), rfl, rfl, rfl⟩
theorem tu55 : TU Try.prog 55 Try.t55.desc := ⟨Try.underlying55⟩
theorem ti55 : TI Try.prog 55 (Try.t55.zero.getD undef) 1 8 := ⟨Try.t55, (by kernel_rfl), rfl, rfl, rfl⟩
theorem tu56 : TU Try.prog 56 Try.t56.desc := ⟨Try.underlying56⟩
theorem ti56 : TI Try.prog 56 (Try.t56.zero.getD undef) 8 64 := ⟨Try.t56, (by kernel_rfl), rfl, rfl, rfl⟩
theorem tu57 : TU Try.prog 57 Try.t56.desc := ⟨Try.underlying57⟩
theorem ti57 : TI Try.prog 57 (Try.t57.zero.getD undef) 8 64 := ⟨Try.t57, (by kernel_rfl), rfl, rfl, rfl⟩
theorem tu58 : TU Try.prog 58 Try.t58.desc := ⟨Try.underlying58⟩
theorem ti58 : TI Try.prog 58 (Try.t58.zero.getD undef) 1 8 := ⟨Try.t58, (by kernel_rfl), rfl, rfl, rfl⟩
theorem tu59 : TU Try.prog 59 Try.t59.desc := ⟨Try.underlying59⟩
theorem ti59 : TI Try.prog 59 (Try.t59.zero.getD undef) 1 8 := ⟨Try.t59, (by kernel_rfl), rfl, rfl, rfl⟩
theorem tu60 : TU Try.prog 60 Try.t60.desc := ⟨Try.underlying60⟩
theorem ti60 : TI Try.prog 60 (Try.t60.zero.getD undef) 1 8 := ⟨Try.t60, (by kernel_rfl), rfl, rfl, rfl⟩
theorem tu61 : TU Try.prog 61 Try.t61.desc := ⟨Try.underlying61⟩
theorem ti61 : TI Try.prog 61 (Try.t61.zero.getD undef) 1 8 := ⟨Try.t61, (by kernel_rfl), rfl, rfl, rfl⟩
theorem tu62 : TU Try.prog 62 Try.t62.desc := ⟨Try.underlying62⟩
theorem ti62 : TI Try.prog 62 (Try.t62.zero.getD undef) 1 8 := ⟨Try.t62, (by kernel_rfl), rfl, rfl, rfl⟩
theorem tu63 : TU Try.prog 63 Try.t63.desc := ⟨Try.underlying63⟩
theorem ti63 : TI Try.prog 63 (Try.t63.zero.getD undef) 1 8 := ⟨Try.t63, (by kernel_rfl), rfl, rfl, rfl⟩
theorem tu64 : TU Try.prog 64 Try.t64.desc := ⟨Try.underlying64⟩
theorem ti64 : TI Try.prog 64 (Try.t64.zero.getD undef) 3 24 := ⟨Try.t64, (by kernel_rfl), rfl, rfl, rfl⟩
theorem tu65 : TU Try.prog 65 Try.t64.desc := ⟨Try.underlying65⟩
theorem ti65 : TI Try.prog 65 (Try.t65.zero.getD undef) 3 24 := ⟨Try.t65, (by kernel_rfl), rfl, rfl, rfl⟩
theorem tu66 : TU Try.prog 66 Try.t66.desc := ⟨Try.underlying66⟩
theorem ti66 : TI Try.prog 66 (Try.t66.zero.getD undef) 2 16 := ⟨Try.t66, (by kernel_rfl), rfl, rfl, rfl⟩
theorem tu67 : TU Try.prog 67 Try.t66.desc := ⟨Try.underlying67⟩
theorem ti67 : TI Try.prog 67 (Try.t67.zero.getD undef) 2 16 := ⟨Try.t67, (by kernel_rfl), rfl, rfl, rfl⟩
theorem tu68 : TU Try.prog 68 Try.t68.desc := ⟨Try.underlying68⟩
theorem ti68 : TI Try.prog 68 (Try.t68.zero.getD undef) 1 8 := ⟨Try.t68, (by kernel_rfl), rfl, rfl, rfl⟩
theorem tu69 : TU Try.prog 69 Try.t69.desc := ⟨Try.underlying69⟩
theorem ti69 : TI Try.prog 69 (Try.t69.zero.getD undef) 2 16 := ⟨Try.t69, (by kernel_rfl), rfl, rfl, rfl⟩
theorem tu70 : TU Try.prog 70 Try.t70.desc := ⟨Try.underlying70⟩
theorem ti70 : TI Try.prog 70 (Try.t70.zero.getD undef) 1 24 := ⟨Try.t70, (by kernel_rfl), rfl, rfl, rfl⟩
theorem tu71 : TU Try.prog 71 Try.t71.desc := ⟨Try.underlying71⟩
theorem ti71 : TI Try.prog 71 (Try.t71.zero.getD undef) 6 64 := ⟨Try.t71, (by kernel_rfl), rfl, rfl, rfl⟩
theorem tu72 : TU Try.prog 72 Try.t71.desc := ⟨Try.underlying72⟩
theorem ti72 : TI Try.prog 72 (Try.t72.zero.getD undef) 6 64 := ⟨Try.t72, (by kernel_rfl), rfl, rfl, rfl⟩
theorem tu73 : TU Try.prog 73 Try.t73.desc := ⟨Try.underlying73⟩
theorem ti73 : TI Try.prog 73 (Try.t73.zero.getD undef) 1 8 := ⟨Try.t73, (by kernel_rfl), rfl, rfl, rfl⟩
theorem tu74 : TU Try.prog 74 Try.t74.desc := ⟨Try.underlying74⟩
theorem ti74 : TI Try.prog 74 (Try.t74.zero.getD undef) 1 8 := ⟨Try.t74, (by kernel_rfl), rfl, rfl, rfl⟩
theorem tu75 : TU Try.prog 75 Try.t75.desc := ⟨Try.underlying75⟩
theorem ti75 : TI Try.prog 75 (Try.t75.zero.getD undef) 1 8 := ⟨Try.t75, (by kernel_rfl), rfl, rfl, rfl⟩
theorem tu76 : TU Try.prog 76 Try.t76.desc := ⟨Try.underlying76⟩
theorem ti76 : TI Try.prog 76 (Try.t76.zero.getD undef) 1 8 := ⟨Try.t76, (by kernel_rfl), rfl, rfl, rfl⟩
theorem tu77 : TU Try.prog 77 Try.t77.desc := ⟨Try.underlying77⟩
theorem ti77 : TI Try.prog 77 (Try.t77.zero.getD undef) 2 16 := ⟨Try.t77, (by kernel_rfl), rfl, rfl, rfl⟩
theorem tu78 : TU Try.prog 78 Try.t77.desc := ⟨Try.underlying78⟩
theorem ti78 : TI Try.prog 78 (Try.t78.zero.getD undef) 2 16 := ⟨Try.t78, (by kernel_rfl), rfl, rfl, rfl⟩
theorem tu79 : TU Try.prog 79 Try.t79.desc := ⟨Try.underlying79⟩
theorem ti79 : TI Try.prog 79 (Try.t79.zero.getD undef) 3 24 := ⟨Try.t79, (by kernel_rfl), rfl, rfl, rfl⟩
theorem tu80 : TU Try.prog 80 Try.t79.desc := ⟨Try.underlying80⟩
theorem ti80 : TI Try.prog 80 (Try.t80.zero.getD undef) 3 24 := ⟨Try.t80, (by kernel_rfl), rfl, rfl, rfl⟩
theorem tu81 : TU Try.prog 81 Try.t81.desc := ⟨Try.underlying81⟩
theorem ti81 : TI Try.prog 81 (Try.t81.zero.getD undef) 1 8 := ⟨Try.t81, (by kernel_rfl), rfl, rfl, rfl⟩
theorem tu82 : TU Try.prog 82 Try.t82.desc := ⟨Try.underlying82⟩
theorem ti82 : TI Try.prog 82 (Try.t82.zero.getD undef) 1 8 := ⟨Try.t82, (by kernel_rfl), rfl, rfl, rfl⟩
theorem tu83 : TU Try.prog 83 Try.t83.desc := ⟨Try.underlying83⟩
theorem ti83 : TI Try.prog 83 (Try.t83.zero.getD undef) 1 0 := ⟨Try.t83, (by kernel_rfl), rfl, rfl, rfl⟩
theorem tu84 : TU Try.prog 84 Try.t84.desc := ⟨Try.underlying84⟩
theorem ti84 : TI Try.prog 84 (Try.t84.zero.getD undef) 1 8 := ⟨Try.t84, (by kernel_rfl), rfl, rfl, rfl⟩
theorem tu85 : TU Try.prog 85 Try.t85.desc := ⟨Try.underlying85⟩
theorem ti85 : TI Try.prog 85 (Try.t85.zero.getD undef) 1 0 := ⟨Try.t85, (by kernel_rfl), rfl, rfl, rfl⟩
theorem tu86 : TU Try.prog 86 Try.t86.desc := ⟨Try.underlying86⟩
theorem ti86 : TI Try.prog 86 (Try.t86.zero.getD undef) 1 8 := ⟨Try.t86, (by kernel_rfl), rfl, rfl, rfl⟩
theorem tu87 : TU Try.prog 87 Try.t87.desc := ⟨Try.underlying87⟩
theorem ti87 : TI Try.prog 87 (Try.t87.zero.getD undef) 1 8 := ⟨Try.t87, (by kernel_rfl), rfl, rfl, rfl⟩
theorem tu88 : TU Try.prog 88 Try.t88.desc := ⟨Try.underlying88⟩
theorem ti88 : TI Try.prog 88 (Try.t88.zero.getD undef) 1 8 := ⟨Try.t88, (by kernel_rfl), rfl, rfl, rfl⟩
theorem tu89 : TU Try.prog 89 Try.t89.desc := ⟨Try.underlying89⟩
theorem ti89 : TI Try.prog 89 (Try.t89.zero.getD undef) 1 8 := ⟨Try.t89, (by kernel_rfl), rfl, rfl, rfl⟩
theorem tu90 : TU Try.prog 90 Try.t90.desc := ⟨Try.underlying90⟩
theorem ti90 : TI Try.prog 90 (Try.t90.zero.getD undef) 1 8 := ⟨Try.t90, (by kernel_rfl), rfl, rfl, rfl⟩
theorem tu91 : TU Try.prog 91 Try.t91.desc := ⟨Try.underlying91⟩
theorem ti91 : TI Try.prog 91 (Try.t91.zero.getD undef) 1 8 := ⟨Try.t91, (by kernel_rfl), rfl, rfl, rfl⟩
theorem tu92 : TU Try.prog 92 Try.t92.desc := ⟨Try.underlying92⟩
theorem ti92 : TI Try.prog 92 (Try.t92.zero.getD undef) 3 24 := ⟨Try.t92, (by kernel_rfl), rfl, rfl, rfl⟩
theorem tu93 : TU Try.prog 93 Try.t92.desc := ⟨Try.underlying93⟩
theorem ti93 : TI Try.prog 93 (Try.t93.zero.getD undef) 3 24 := ⟨Try.t93, (by kernel_rfl), rfl, rfl, rfl⟩
theorem tu94 : TU Try.prog 94 Try.t94.desc := ⟨Try.underlying94⟩
theorem ti94 : TI Try.prog 94 (Try.t94.zero.getD undef) 1 8 := ⟨Try.t94, (by kernel_rfl), rfl, rfl, rfl⟩
theorem tu95 : TU Try.prog 95 Try.t95.desc := ⟨Try.underlying95⟩
theorem ti95 : TI Try.prog 95 (Try.t95.zero.getD undef) 1 8 := ⟨Try.t95, (by kernel_rfl), rfl, rfl, rfl⟩
theorem tu96 : TU Try.prog 96 Try.t96.desc := ⟨Try.underlying96⟩
theorem ti96 : TI Try.prog 96 (Try.t96.zero.getD undef) 1 8 := ⟨Try.t96, (by kernel_rfl), rfl, rfl, rfl⟩
theorem tu97 : TU Try.prog 97 Try.t97.desc := ⟨Try.underlying97⟩
theorem ti97 : TI Try.prog 97 (Try.t97.zero.getD undef) 1 8 := ⟨Try.t97, (by kernel_rfl), rfl, rfl, rfl⟩
theorem tu98 : TU Try.prog 98 Try.t98.desc := ⟨Try.underlying98⟩
theorem ti98 : TI Try.prog 98 (Try.t98.zero.getD undef) 1 8 := ⟨Try.t98, (by kernel_rfl), rfl, rfl, rfl⟩
theorem tu99 : TU Try.prog 99 Try.t99.desc := ⟨Try.underlying99⟩
theorem ti99 : TI Try.prog 99 (Try.t99.zero.getD undef) 1 8 := ⟨Try.t99, (by kernel_rfl), rfl, rfl, rfl⟩
theorem tu100 : TU Try.prog 100 Try.t100.desc := ⟨Try.underlying100⟩
theorem ti100 : TI Try.prog 100 (Try.t100.zero.getD undef) 1 0 := ⟨Try.t100, (by kernel_rfl), rfl, rfl, rfl⟩
theorem tu101 : TU Try.prog 101 Try.t101.desc := ⟨Try.underlying101⟩
theorem ti101 : TI Try.prog 101 (Try.t101.zero.getD undef) 1 8 := ⟨Try.t101, (by kernel_rfl), rfl, rfl, rfl⟩
theorem tu102 : TU Try.prog 102 Try.t102.desc := ⟨Try.underlying102⟩
theorem tk102 : TK Try.prog 102 (fun n : Int => Value.int .u64 n) := tk_int (h := ⟨Try.underlying102⟩)
theorem ti102 : TI Try.prog 102 (Try.t102.zero.getD undef) 1 8 := ⟨Try.t102, (by kernel_rfl), rfl, rfl, rfl⟩
theorem tu103 : TU Try.prog 103 Try.t103.desc := ⟨Try.underlying103⟩
theorem ti103 : TI Try.prog 103 (Try.t103.zero.getD undef) 3 40 := ⟨Try.t103, (by kernel_rfl), rfl, rfl, rfl⟩
theorem tu104 : TU Try.prog 104 Try.t103.desc := ⟨Try.underlying104⟩
theorem ti104 : TI Try.prog 104 (Try.t104.zero.getD undef) 3 40 := ⟨Try.t104, (by kernel_rfl), rfl, rfl, rfl⟩
theorem tu105 : TU Try.prog 105 Try.t105.desc := ⟨Try.underlying105⟩
theorem ti105 : TI Try.prog 105 (Try.t105.zero.getD undef) 4 32 := ⟨Try.t105, (by kernel_rfl), rfl, rfl, rfl⟩
theorem tu106 : TU Try.prog 106 Try.t106.desc := ⟨Try.underlying106⟩
theorem ti106 : TI Try.prog 106 (Try.t106.zero.getD undef) 5 40 := ⟨Try.t106, (by kernel_rfl), rfl, rfl, rfl⟩
theorem tu107 : TU Try.prog 107 Try.t106.desc := ⟨Try.underlying107⟩
theorem ti107 : TI Try.prog 107 (Try.t107.zero.getD undef) 5 40 := ⟨Try.t107, (by kernel_rfl), rfl, rfl, rfl⟩
theorem tu108 : TU Try.prog 108 Try.t108.desc := ⟨Try.underlying108⟩
theorem ti108 : TI Try.prog 108 (Try.t108.zero.getD undef) 35 280 := ⟨Try.t108, (by kernel_rfl), rfl, rfl, rfl⟩
theorem tu109 : TU Try.prog 109 Try.t109.desc := ⟨Try.underlying109⟩
theorem ti109 : TI Try.prog 109 (Try.t109.zero.getD undef) 35 280 := ⟨Try.t109, (by kernel_rfl), rfl, rfl, rfl⟩
theorem tu110 : TU Try.prog 110 Try.t109.desc := ⟨Try.underlying110⟩
theorem ti110 : TI Try.prog 110 (Try.t110.zero.getD undef) 35 280 := ⟨Try.t110, (by kernel_rfl), rfl, rfl, rfl⟩
theorem tu111 : TU Try.prog 111 Try.t111.desc := ⟨Try.underlying111⟩
theorem ti111 : TI Try.prog 111 (Try.t111.zero.getD undef) 4 48 := ⟨Try.t111, (by kernel_rfl), rfl, rfl, rfl⟩
theorem tu112 : TU Try.prog 112 Try.t111.desc := ⟨Try.underlying112⟩
theorem ti112 : TI Try.prog 112 (Try.t112.zero.getD undef) 4 48 := ⟨Try.t112, (by kernel_rfl), rfl, rfl, rfl⟩
theorem tu113 : TU Try.prog 113 Try.t113.desc := ⟨Try.underlying113⟩
theorem ti113 : TI Try.prog 113 (Try.t113.zero.getD undef) 1 8 := ⟨Try.t113, (by kernel_rfl), rfl, rfl, rfl⟩
theorem tu114 : TU Try.prog 114 Try.t114.desc := ⟨Try.underlying114⟩
theorem ti114 : TI Try.prog 114 (Try.t114.zero.getD undef) 1 0 := ⟨Try.t114, (by kernel_rfl), rfl, rfl, rfl⟩
theorem tu115 : TU Try.prog 115 Try.t115.desc := ⟨Try.underlying115⟩
theorem ti115 : TI Try.prog 115 (Try.t115.zero.getD undef) 1 8 := ⟨Try.t115, (by kernel_rfl), rfl, rfl, rfl⟩
theorem tu116 : TU Try.prog 116 Try.t116.desc := ⟨Try.underlying116⟩
theorem ti116 : TI Try.prog 116 (Try.t116.zero.getD undef) 1 0 := ⟨Try.t116, (by kernel_rfl), rfl, rfl, rfl⟩
theorem tu117 : TU Try.prog 117 Try.t117.desc := ⟨Try.underlying117⟩
theorem ti117 : TI Try.prog 117 (Try.t117.zero.getD undef) 1 8 := ⟨Try.t117, (by kernel_rfl), rfl, rfl, rfl⟩
theorem tu118 : TU Try.prog 118 Try.t118.desc := ⟨Try.underlying118⟩
theorem ti118 : TI Try.prog 118 (Try.t118.zero.getD undef) 1 8 := ⟨Try.t118, (by kernel_rfl), rfl, rfl, rfl⟩
theorem tu119 : TU Try.prog 119 Try.t119.desc := ⟨Try.underlying119⟩
theorem ti119 : TI Try.prog 119 (Try.t119.zero.getD undef) 1 8 := ⟨Try.t119, (by kernel_rfl), rfl, rfl, rfl⟩
theorem tu120 : TU Try.prog 120 Try.t120.desc := ⟨Try.underlying120⟩
theorem ti120 : TI Try.prog 120 (Try.t120.zero.getD undef) 1 8 := ⟨Try.t120, (by kernel_rfl), rfl, rfl, rfl⟩
theorem tu121 : TU Try.prog 121 Try.t121.desc := ⟨Try.underlying121⟩
theorem ti121 : TI Try.prog 121 (Try.t121.zero.getD undef) 1 8 := ⟨Try.t121, (by kernel_rfl), rfl, rfl, rfl⟩
theorem tu122 : TU Try.prog 122 Try.t122.desc := ⟨Try.underlying122⟩
theorem tk122 : TK Try.prog 122 (fun n : Int => Value.int .u16 n) := tk_int (h := ⟨Try.underlying122⟩)
theorem ti122 : TI Try.prog 122 (Try.t122.zero.getD undef) 1 2 := ⟨Try.t122, (by kernel_rfl), rfl, rfl, rfl⟩
theorem tu123 : TU Try.prog 123 Try.t123.desc := ⟨Try.underlying123⟩
theorem ti123 : TI Try.prog 123 (Try.t123.zero.getD undef) 2 4 := ⟨Try.t123, (by kernel_rfl), rfl, rfl, rfl⟩
theorem tu124 : TU Try.prog 124 Try.t123.desc := ⟨Try.underlying124⟩
theorem ti124 : TI Try.prog 124 (Try.t124.zero.getD undef) 2 4 := ⟨Try.t124, (by kernel_rfl), rfl, rfl, rfl⟩
theorem tu125 : TU Try.prog 125 Try.t125.desc := ⟨Try.underlying125⟩
theorem ti125 : TI Try.prog 125 (Try.t125.zero.getD undef) 1 8 := ⟨Try.t125, (by kernel_rfl), rfl, rfl, rfl⟩
theorem tu126 : TU Try.prog 126 Try.t126.desc := ⟨Try.underlying126⟩
theorem ti126 : TI Try.prog 126 (Try.t126.zero.getD undef) 1 8 := ⟨Try.t126, (by kernel_rfl), rfl, rfl, rfl⟩
theorem tu127 : TU Try.prog 127 Try.t127.desc := ⟨Try.underlying127⟩
theorem ti127 : TI Try.prog 127 (Try.t127.zero.getD undef) 1 8 := ⟨Try.t127, (by kernel_rfl), rfl, rfl, rfl⟩
theorem tu128 : TU Try.prog 128 Try.t128.desc := ⟨Try.underlying128⟩
theorem ti128 : TI Try.prog 128 (Try.t128.zero.getD undef) 1 8 := ⟨Try.t128, (by kernel_rfl), rfl, rfl, rfl⟩
theorem tu129 : TU Try.prog 129 Try.t129.desc := ⟨Try.underlying129⟩
theorem ti129 : TI Try.prog 129 (Try.t129.zero.getD undef) 1 8 := ⟨Try.t129, (by kernel_rfl), rfl, rfl, rfl⟩
theorem tu130 : TU Try.prog 130 Try.t130.desc := ⟨Try.underlying130⟩
theorem ti130 : TI Try.prog 130 (Try.t130.zero.getD undef) 4096 4096 := ⟨Try.t130, (by kernel_rfl), rfl, rfl, rfl⟩
theorem tu131 : TU Try.prog 131 Try.t131.desc := ⟨Try.underlying131⟩
theorem ti131 : TI Try.prog 131 (Try.t131.zero.getD undef) 1 8 := ⟨Try.t131, (by kernel_rfl), rfl, rfl, rfl⟩
theorem tu132 : TU Try.prog 132 Try.t132.desc := ⟨Try.underlying132⟩
theorem ti132 : TI Try.prog 132 (Try.t132.zero.getD undef) 4 32 := ⟨Try.t132, (by kernel_rfl), rfl, rfl, rfl⟩
theorem tu133 : TU Try.prog 133 Try.t132.desc := ⟨Try.underlying133⟩
theorem ti133 : TI Try.prog 133 (Try.t133.zero.getD undef) 4 32 := ⟨Try.t133, (by kernel_rfl), rfl, rfl, rfl⟩
theorem tu134 : TU Try.prog 134 Try.t134.desc := ⟨Try.underlying134⟩
theorem ti134 : TI Try.prog 134 (Try.t134.zero.getD undef) 1 0 := ⟨Try.t134, (by kernel_rfl), rfl, rfl, rfl⟩
theorem tu135 : TU Try.prog 135 Try.t135.desc := ⟨Try.underlying135⟩
theorem ti135 : TI Try.prog 135 (Try.t135.zero.getD undef) 1 8 := ⟨Try.t135, (by kernel_rfl), rfl, rfl, rfl⟩
theorem tu136 : TU Try.prog 136 Try.t136.desc := ⟨Try.underlying136⟩
theorem ti136 : TI Try.prog 136 (Try.t136.zero.getD undef) 1 8 := ⟨Try.t136, (by kernel_rfl), rfl, rfl, rfl⟩
theorem tu137 : TU Try.prog 137 Try.t137.desc := ⟨Try.underlying137⟩
theorem ti137 : TI Try.prog 137 (Try.t137.zero.getD undef) 1 8 := ⟨Try.t137, (by kernel_rfl), rfl, rfl, rfl⟩
theorem tu138 : TU Try.prog 138 Try.t138.desc := ⟨Try.underlying138⟩
theorem ti138 : TI Try.prog 138 (Try.t138.zero.getD undef) 1 8 := ⟨Try.t138, (by kernel_rfl), rfl, rfl, rfl⟩
theorem tu139 : TU Try.prog 139 Try.t139.desc := ⟨Try.underlying139⟩
theorem ti139 : TI Try.prog 139 (Try.t139.zero.getD undef) 1 8 := ⟨Try.t139, (by kernel_rfl), rfl, rfl, rfl⟩
theorem tu140 : TU Try.prog 140 Try.t140.desc := ⟨Try.underlying140⟩
theorem ti140 : TI Try.prog 140 (Try.t140.zero.getD undef) 1 0 := ⟨Try.t140, (by kernel_rfl), rfl, rfl, rfl⟩
theorem tu141 : TU Try.prog 141 Try.t141.desc := ⟨Try.underlying141⟩
theorem ti141 : TI Try.prog 141 (Try.t141.zero.getD undef) 1 8 := ⟨Try.t141, (by kernel_rfl), rfl, rfl, rfl⟩
theorem tu142 : TU Try.prog 142 Try.t142.desc := ⟨Try.underlying142⟩
theorem ti142 : TI Try.prog 142 (Try.t142.zero.getD undef) 1 8 := ⟨Try.t142, (by kernel_rfl), rfl, rfl, rfl⟩
theorem tu143 : TU Try.prog 143 Try.t143.desc := ⟨Try.underlying143⟩
theorem ti143 : TI Try.prog 143 (Try.t143.zero.getD undef) 1 8 := ⟨Try.t143, (by kernel_rfl), rfl, rfl, rfl⟩
theorem tu144 : TU Try.prog 144 Try.t144.desc := ⟨Try.underlying144⟩
theorem ti144 : TI Try.prog 144 (Try.t144.zero.getD undef) 1 8 := ⟨Try.t144, (by kernel_rfl), rfl, rfl, rfl⟩
theorem tu145 : TU Try.prog 145 Try.t145.desc := ⟨Try.underlying145⟩
theorem ti145 : TI Try.prog 145 (Try.t145.zero.getD undef) 1 0 := ⟨Try.t145, (by kernel_rfl), rfl, rfl, rfl⟩
theorem tu146 : TU Try.prog 146 Try.t146.desc := ⟨Try.underlying146⟩
theorem ti146 : TI Try.prog 146 (Try.t146.zero.getD undef) 1 8 := ⟨Try.t146, (by kernel_rfl), rfl, rfl, rfl⟩
theorem tu147 : TU Try.prog 147 Try.t147.desc := ⟨Try.underlying147⟩
theorem ti147 : TI Try.prog 147 (Try.t147.zero.getD undef) 1 0 := ⟨Try.t147, (by kernel_rfl), rfl, rfl, rfl⟩
theorem tu148 : TU Try.prog 148 Try.t148.desc := ⟨Try.underlying148⟩
theorem ti148 : TI Try.prog 148 (Try.t148.zero.getD undef) 1 8 := ⟨Try.t148, (by kernel_rfl), rfl, rfl, rfl⟩
theorem tu149 : TU Try.prog 149 Try.t149.desc := ⟨Try.underlying149⟩
theorem ti149 : TI Try.prog 149 (Try.t149.zero.getD undef) 1 8 := ⟨Try.t149, (by kernel_rfl), rfl, rfl, rfl⟩
theorem tu150 : TU Try.prog 150 Try.t150.desc := ⟨Try.underlying150⟩
theorem ti150 : TI Try.prog 150 (Try.t150.zero.getD undef) 1 8 := ⟨Try.t150, (by kernel_rfl), rfl, rfl, rfl⟩
theorem tu151 : TU Try.prog 151 Try.t151.desc := ⟨Try.underlying151⟩
theorem ti151 : TI Try.prog 151 (Try.t151.zero.getD undef) 1 8 := ⟨Try.t151, (by kernel_rfl), rfl, rfl, rfl⟩
theorem tu152 : TU Try.prog 152 Try.t152.desc := ⟨Try.underlying152⟩
theorem ti152 : TI Try.prog 152 (Try.t152.zero.getD undef) 1 8 := ⟨Try.t152, (by kernel_rfl), rfl, rfl, rfl⟩
theorem tu153 : TU Try.prog 153 Try.t153.desc := ⟨Try.underlying153⟩
theorem ti153 : TI Try.prog 153 (Try.t153.zero.getD undef) 1 8 := ⟨Try.t153, (by kernel_rfl), rfl, rfl, rfl⟩
theorem tu154 : TU Try.prog 154 Try.t154.desc := ⟨Try.underlying154⟩
theorem ti154 : TI Try.prog 154 (Try.t154.zero.getD undef) 1 8 := ⟨Try.t154, (by kernel_rfl), rfl, rfl, rfl⟩
theorem tu155 : TU Try.prog 155 Try.t155.desc := ⟨Try.underlying155⟩
theorem ti155 : TI Try.prog 155 (Try.t155.zero.getD undef) 1 8 := ⟨Try.t155, (by kernel_rfl), rfl, rfl, rfl⟩
theorem tu156 : TU Try.prog 156 Try.t156.desc := ⟨Try.underlying156⟩
theorem ti156 : TI Try.prog 156 (Try.t156.zero.getD undef) 1 8 := ⟨Try.t156, (by kernel_rfl), rfl, rfl, rfl⟩
theorem tu157 : TU Try.prog 157 Try.t157.desc := ⟨Try.underlying157⟩
theorem ti157 : TI Try.prog 157 (Try.t157.zero.getD undef) 1 8 := ⟨Try.t157, (by kernel_rfl), rfl, rfl, rfl⟩
theorem tu158 : TU Try.prog 158 Try.t158.desc := ⟨Try.underlying158⟩
theorem ti158 : TI Try.prog 158 (Try.t158.zero.getD undef) 1 0 := ⟨Try.t158, (by kernel_rfl), rfl, rfl, rfl⟩
theorem tu159 : TU Try.prog 159 Try.t159.desc := ⟨Try.underlying159⟩
theorem ti159 : TI Try.prog 159 (Try.t159.zero.getD undef) 1 8 := ⟨Try.t159, (by kernel_rfl), rfl, rfl, rfl⟩
theorem tu160 : TU Try.prog 160 Try.t160.desc := ⟨Try.underlying160⟩
theorem ti160 : TI Try.prog 160 (Try.t160.zero.getD undef) 1 8 := ⟨Try.t160, (by kernel_rfl), rfl, rfl, rfl⟩
theorem tu161 : TU Try.prog 161 Try.t161.desc := ⟨Try.underlying161⟩
theorem ti161 : TI Try.prog 161 (Try.t161.zero.getD undef) 1 8 := ⟨Try.t161, (by kernel_rfl), rfl, rfl, rfl⟩
theorem tu162 : TU Try.prog 162 Try.t162.desc := ⟨Try.underlying162⟩
theorem ti162 : TI Try.prog 162 (Try.t162.zero.getD undef) 1 24 := ⟨Try.t162, (by kernel_rfl), rfl, rfl, rfl⟩
theorem tu163 : TU Try.prog 163 Try.t163.desc := ⟨Try.underlying163⟩
theorem ti163 : TI Try.prog 163 (Try.t163.zero.getD undef) 1 8 := ⟨Try.t163, (by kernel_rfl), rfl, rfl, rfl⟩
theorem tu164 : TU Try.prog 164 Try.t164.desc := ⟨Try.underlying164⟩
theorem ti164 : TI Try.prog 164 (Try.t164.zero.getD undef) 1 8 := ⟨Try.t164, (by kernel_rfl), rfl, rfl, rfl⟩
theorem tu165 : TU Try.prog 165 Try.t165.desc := ⟨Try.underlying165⟩
theorem ti165 : TI Try.prog 165 (Try.t165.zero.getD undef) 1 0 := ⟨Try.t165, (by kernel_rfl), rfl, rfl, rfl⟩
theorem tu166 : TU Try.prog 166 Try.t166.desc := ⟨Try.underlying166⟩
theorem ti166 : TI Try.prog 166 (Try.t166.zero.getD undef) 1 8 := ⟨Try.t166, (by kernel_rfl), rfl, rfl, rfl⟩
theorem tu167 : TU Try.prog 167 Try.t167.desc := ⟨Try.underlying167⟩
theorem ti167 : TI Try.prog 167 (Try.t167.zero.getD undef) 1 8 := ⟨Try.t167, (by kernel_rfl), rfl, rfl, rfl⟩
theorem tu168 : TU Try.prog 168 Try.t168.desc := ⟨Try.underlying168⟩
theorem ti168 : TI Try.prog 168 (Try.t168.zero.getD undef) 1 8 := ⟨Try.t168, (by kernel_rfl), rfl, rfl, rfl⟩
theorem tu169 : TU Try.prog 169 Try.t169.desc := ⟨Try.underlying169⟩
theorem ti169 : TI Try.prog 169 (Try.t169.zero.getD undef) 1 8 := ⟨Try.t169, (by kernel_rfl), rfl, rfl, rfl⟩
theorem tu170 : TU Try.prog 170 Try.t170.desc := ⟨Try.underlying170⟩
theorem ti170 : TI Try.prog 170 (Try.t170.zero.getD undef) 1 8 := ⟨Try.t170, (by kernel_rfl), rfl, rfl, rfl⟩
theorem tu171 : TU Try.prog 171 Try.t171.desc := ⟨Try.underlying171⟩
theorem ti171 : TI Try.prog 171 (Try.t171.zero.getD undef) 1 8 := ⟨Try.t171, (by kernel_rfl), rfl, rfl, rfl⟩
theorem tu172 : TU Try.prog 172 Try.t172.desc := ⟨Try.underlying172⟩
theorem ti172 : TI Try.prog 172 (Try.t172.zero.getD undef) 1 8 := ⟨Try.t172, (by kernel_rfl), rfl, rfl, rfl⟩
theorem tu173 : TU Try.prog 173 Try.t173.desc := ⟨Try.underlying173⟩
theorem ti173 : TI Try.prog 173 (Try.t173.zero.getD undef) 1 8 := ⟨Try.t173, (by kernel_rfl), rfl, rfl, rfl⟩
theorem tu174 : TU Try.prog 174 Try.t174.desc := ⟨Try.underlying174⟩
theorem ti174 : TI Try.prog 174 (Try.t174.zero.getD undef) 1 8 := ⟨Try.t174, (by kernel_rfl), rfl, rfl, rfl⟩
theorem tu175 : TU Try.prog 175 Try.t175.desc := ⟨Try.underlying175⟩
theorem ti175 : TI Try.prog 175 (Try.t175.zero.getD undef) 4 40 := ⟨Try.t175, (by kernel_rfl), rfl, rfl, rfl⟩
theorem tu176 : TU Try.prog 176 Try.t175.desc := ⟨Try.underlying176⟩
theorem ti176 : TI Try.prog 176 (Try.t176.zero.getD undef) 4 40 := ⟨Try.t176, (by kernel_rfl), rfl, rfl, rfl⟩
theorem tu177 : TU Try.prog 177 Try.t177.desc := ⟨Try.underlying177⟩
theorem ti177 : TI Try.prog 177 (Try.t177.zero.getD undef) 0 0 := ⟨Try.t177, (by kernel_rfl), rfl, rfl, rfl⟩
theorem tu178 : TU Try.prog 178 Try.t178.desc := ⟨Try.underlying178⟩
theorem ti178 : TI Try.prog 178 (Try.t178.zero.getD undef) 0 0 := ⟨Try.t178, (by kernel_rfl), rfl, rfl, rfl⟩
theorem tu179 : TU Try.prog 179 Try.t178.desc := ⟨Try.underlying179⟩
theorem ti179 : TI Try.prog 179 (Try.t179.zero.getD undef) 0 0 := ⟨Try.t179, (by kernel_rfl), rfl, rfl, rfl⟩
theorem tu180 : TU Try.prog 180 Try.t180.desc := ⟨Try.underlying180⟩
theorem tk180 : TK Try.prog 180 (fun n : Int => Value.int .u32 n) := tk_int (h := ⟨Try.underlying180⟩)
theorem ti180 : TI Try.prog 180 (Try.t180.zero.getD undef) 1 4 := ⟨Try.t180, (by kernel_rfl), rfl, rfl, rfl⟩
theorem tu181 : TU Try.prog 181 Try.t5.desc := ⟨Try.underlying181⟩
theorem tk181 : TK Try.prog 181 (fun n : Int => Value.int .u8 n) := tk_int (h := ⟨Try.underlying181⟩)
theorem ti181 : TI Try.prog 181 (Try.t181.zero.getD undef) 1 1 := ⟨Try.t181, (by kernel_rfl), rfl, rfl, rfl⟩
theorem tu182 : TU Try.prog 182 Try.t5.desc := ⟨Try.underlying182⟩
theorem tk182 : TK Try.prog 182 (fun n : Int => Value.int .u8 n) := tk_int (h := ⟨Try.underlying182⟩)
theorem ti182 : TI Try.prog 182 (Try.t182.zero.getD undef) 1 1 := ⟨Try.t182, (by kernel_rfl), rfl, rfl, rfl⟩
theorem tu183 : TU Try.prog 183 Try.t183.desc := ⟨Try.underlying183⟩
theorem ti183 : TI Try.prog 183 (Try.t183.zero.getD undef) 1 8 := ⟨Try.t183, (by kernel_rfl), rfl, rfl, rfl⟩
theorem tu184 : TU Try.prog 184 Try.t184.desc := ⟨Try.underlying184⟩
theorem ti184 : TI Try.prog 184 (Try.t184.zero.getD undef) 1 8 := ⟨Try.t184, (by kernel_rfl), rfl, rfl, rfl⟩
theorem tu185 : TU Try.prog 185 Try.t21.desc := ⟨Try.underlying185⟩
theorem tk185 : TK Try.prog 185 (fun n : Int => Value.int .i32 n) := tk_int (h := ⟨Try.underlying185⟩)
theorem ti185 : TI Try.prog 185 (Try.t185.zero.getD undef) 1 4 := ⟨Try.t185, (by kernel_rfl), rfl, rfl, rfl⟩
theorem tu186 : TU Try.prog 186 Try.t21.desc := ⟨Try.underlying186⟩
theorem tk186 : TK Try.prog 186 (fun n : Int => Value.int .i32 n) := tk_int (h := ⟨Try.underlying186⟩)
theorem ti186 : TI Try.prog 186 (Try.t186.zero.getD undef) 1 4 := ⟨Try.t186, (by kernel_rfl), rfl, rfl, rfl⟩
theorem tu187 : TU Try.prog 187 Try.t187.desc := ⟨Try.underlying187⟩
theorem ti187 : TI Try.prog 187 (Try.t187.zero.getD undef) 11 48 := ⟨Try.t187, (by kernel_rfl), rfl, rfl, rfl⟩
theorem tu188 : TU Try.prog 188 Try.t187.desc := ⟨Try.underlying188⟩
theorem ti188 : TI Try.prog 188 (Try.t188.zero.getD undef) 11 48 := ⟨Try.t188, (by kernel_rfl), rfl, rfl, rfl⟩
theorem tu189 : TU Try.prog 189 Try.t189.desc := ⟨Try.underlying189⟩
theorem ti189 : TI Try.prog 189 (Try.t189.zero.getD undef) 1 8 := ⟨Try.t189, (by kernel_rfl), rfl, rfl, rfl⟩
theorem en2 : IsEnt Try.prog 2 := ⟨Try.call2⟩
theorem en3 : IsEnt Try.prog 3 := ⟨Try.call3⟩
theorem en4 : IsEnt Try.prog 4 := ⟨Try.call4⟩
theorem en5 : IsEnt Try.prog 5 := ⟨Try.call5⟩
theorem en6 : IsEnt Try.prog 6 := ⟨Try.call6⟩
theorem en7 : IsEnt Try.prog 7 := ⟨Try.call7⟩
theorem en8 : IsEnt Try.prog 8 := ⟨Try.call8⟩
theorem en9 : IsEnt Try.prog 9 := ⟨Try.call9⟩
theorem en10 : IsEnt Try.prog 10 := ⟨Try.call10⟩
theorem en11 : IsEnt Try.prog 11 := ⟨Try.call11⟩
theorem en12 : IsEnt Try.prog 12 := ⟨Try.call12⟩
theorem en13 : IsEnt Try.prog 13 := ⟨Try.call13⟩
theorem en14 : IsEnt Try.prog 14 := ⟨Try.call14⟩
theorem en15 : IsEnt Try.prog 15 := ⟨Try.call15⟩
theorem en16 : IsEnt Try.prog 16 := ⟨Try.call16⟩
theorem en17 : IsEnt Try.prog 17 := ⟨Try.call17⟩
theorem en18 : IsEnt Try.prog 18 := ⟨Try.call18⟩
theorem en19 : IsEnt Try.prog 19 := ⟨Try.call19⟩
theorem en20 : IsEnt Try.prog 20 := ⟨Try.call20⟩
theorem en21 : IsEnt Try.prog 21 := ⟨Try.call21⟩
theorem en22 : IsEnt Try.prog 22 := ⟨Try.call22⟩
theorem en23 : IsEnt Try.prog 23 := ⟨Try.call23⟩
theorem en24 : IsEnt Try.prog 24 := ⟨Try.call24⟩
theorem en25 : IsEnt Try.prog 25 := ⟨Try.call25⟩
theorem en26 : IsEnt Try.prog 26 := ⟨Try.call26⟩
theorem en27 : IsEnt Try.prog 27 := ⟨Try.call27⟩
theorem en28 : IsEnt Try.prog 28 := ⟨Try.call28⟩
theorem en29 : IsEnt Try.prog 29 := ⟨Try.call29⟩
theorem en30 : IsEnt Try.prog 30 := ⟨Try.call30⟩
theorem en31 : IsEnt Try.prog 31 := ⟨Try.call31⟩
theorem en32 : IsEnt Try.prog 32 := ⟨Try.call32⟩
theorem en33 : IsEnt Try.prog 33 := ⟨Try.call33⟩
theorem en34 : IsEnt Try.prog 34 := ⟨Try.call34⟩
theorem en35 : IsEnt Try.prog 35 := ⟨Try.call35⟩
theorem en36 : IsEnt Try.prog 36 := ⟨Try.call36⟩
theorem en37 : IsEnt Try.prog 37 := ⟨Try.call37⟩
theorem en38 : IsEnt Try.prog 38 := ⟨Try.call38⟩
theorem en39 : IsEnt Try.prog 39 := ⟨Try.call39⟩
theorem en40 : IsEnt Try.prog 40 := ⟨Try.call40⟩
theorem en41 : IsEnt Try.prog 41 := ⟨Try.call41⟩
theorem en42 : IsEnt Try.prog 42 := ⟨Try.call42⟩
theorem en43 : IsEnt Try.prog 43 := ⟨Try.call43⟩
theorem en44 : IsEnt Try.prog 44 := ⟨Try.call44⟩
theorem en45 : IsEnt Try.prog 45 := ⟨Try.call45⟩
theorem en46 : IsEnt Try.prog 46 := ⟨Try.call46⟩
theorem en47 : IsEnt Try.prog 47 := ⟨Try.call47⟩
theorem en48 : IsEnt Try.prog 48 := ⟨Try.call48⟩
theorem en49 : IsEnt Try.prog 49 := ⟨Try.call49⟩
theorem en50 : IsEnt Try.prog 50 := ⟨Try.call50⟩
theorem en51 : IsEnt Try.prog 51 := ⟨Try.call51⟩
theorem en52 : IsEnt Try.prog 52 := ⟨Try.call52⟩
theorem en53 : IsEnt Try.prog 53 := ⟨Try.call53⟩
theorem en54 : IsEnt Try.prog 54 := ⟨Try.call54⟩
theorem en55 : IsEnt Try.prog 55 := ⟨Try.call55⟩
theorem en56 : IsEnt Try.prog 56 := ⟨Try.call56⟩
theorem en57 : IsEnt Try.prog 57 := ⟨Try.call57⟩
theorem en58 : IsEnt Try.prog 58 := ⟨Try.call58⟩
theorem en59 : IsEnt Try.prog 59 := ⟨Try.call59⟩
theorem en60 : IsEnt Try.prog 60 := ⟨Try.call60⟩
theorem en61 : IsEnt Try.prog 61 := ⟨Try.call61⟩
theorem en62 : IsEnt Try.prog 62 := ⟨Try.call62⟩
theorem en63 : IsEnt Try.prog 63 := ⟨Try.call63⟩
theorem en64 : IsEnt Try.prog 64 := ⟨Try.call64⟩
theorem en65 : IsEnt Try.prog 65 := ⟨Try.call65⟩
theorem en66 : IsEnt Try.prog 66 := ⟨Try.call66⟩
theorem en67 : IsEnt Try.prog 67 := ⟨Try.call67⟩
theorem en68 : IsEnt Try.prog 68 := ⟨Try.call68⟩
theorem en69 : IsEnt Try.prog 69 := ⟨Try.call69⟩
theorem en70 : IsEnt Try.prog 70 := ⟨Try.call70⟩
theorem en71 : IsEnt Try.prog 71 := ⟨Try.call71⟩
theorem en72 : IsEnt Try.prog 72 := ⟨Try.call72⟩
theorem en73 : IsEnt Try.prog 73 := ⟨Try.call73⟩
theorem en74 : IsEnt Try.prog 74 := ⟨Try.call74⟩
theorem en75 : IsEnt Try.prog 75 := ⟨Try.call75⟩
theorem en76 : IsEnt Try.prog 76 := ⟨Try.call76⟩
theorem en77 : IsEnt Try.prog 77 := ⟨Try.call77⟩
theorem en78 : IsEnt Try.prog 78 := ⟨Try.call78⟩
theorem en79 : IsEnt Try.prog 79 := ⟨Try.call79⟩
theorem en80 : IsEnt Try.prog 80 := ⟨Try.call80⟩
theorem en81 : IsEnt Try.prog 81 := ⟨Try.call81⟩
theorem en82 : IsEnt Try.prog 82 := ⟨Try.call82⟩
theorem en83 : IsEnt Try.prog 83 := ⟨Try.call83⟩
theorem en84 : IsEnt Try.prog 84 := ⟨Try.call84⟩
theorem en85 : IsEnt Try.prog 85 := ⟨Try.call85⟩
theorem en86 : IsEnt Try.prog 86 := ⟨Try.call86⟩
theorem en87 : IsEnt Try.prog 87 := ⟨Try.call87⟩
theorem en88 : IsEnt Try.prog 88 := ⟨Try.call88⟩
theorem en89 : IsEnt Try.prog 89 := ⟨Try.call89⟩
theorem en90 : IsEnt Try.prog 90 := ⟨Try.call90⟩
theorem en91 : IsEnt Try.prog 91 := ⟨Try.call91⟩
theorem en92 : IsEnt Try.prog 92 := ⟨Try.call92⟩
theorem en93 : IsEnt Try.prog 93 := ⟨Try.call93⟩
theorem en94 : IsEnt Try.prog 94 := ⟨Try.call94⟩
theorem en95 : IsEnt Try.prog 95 := ⟨Try.call95⟩
theorem en96 : IsEnt Try.prog 96 := ⟨Try.call96⟩
theorem en97 : IsEnt Try.prog 97 := ⟨Try.call97⟩
theorem en98 : IsEnt Try.prog 98 := ⟨Try.call98⟩
theorem en99 : IsEnt Try.prog 99 := ⟨Try.call99⟩
theorem mixed : Mixed Try.prog := ⟨(by kernel_rfl)⟩
attribute [instance] tu0 ti0 tu1 ti1 tu2 tk2 ti2 tu3 tk3 ti3 tu4 ti4 tu5 tk5 ti5 tu6 tk6 ti6 tu7 ti7 tu8 ti8 tu9 ti9 tu10 ti10 tu11 ti11 tu12 tk12 ti12 tu13 ti13 tu14 ti14 tu15 ti15 tu16 ti16 tu17 ti17 tu18 ti18 tu19 ti19 tu20 ti20 tu21 tk21 ti21 tu22 ti22 tu23 ti23 tu24 ti24 tu25 ti25 tu26 ti26 tu27 ti27 tu28 tk28 ti28 tu29 ti29 tu30 ti30 tu31 ti31 tu32 ti32 tu33 ti33 tu34 ti34 tu35 ti35 tu36 tk36 ti36 tu37 ti37 tu38 ti38 tu39 ti39 tu40 ti40 tu41 ti41 tu42 ti42 tu43 ti43 tu44 ti44 tu45 ti45 tu46 ti46 tu47 ti47 tu48 ti48 tu49 ti49 tu50 ti50 tu51 ti51 tu52 ti52 tu53 ti53 tu54 ti54 tu55 ti55 tu56 ti56 tu57 ti57 tu58 ti58 tu59 ti59 tu60 ti60 tu61 ti61 tu62 ti62 tu63 ti63 tu64 ti64 tu65 ti65 tu66 ti66 tu67 ti67 tu68 ti68 tu69 ti69 tu70 ti70 tu71 ti71 tu72 ti72 tu73 ti73 tu74 ti74 tu75 ti75 tu76 ti76 tu77 ti77 tu78 ti78 tu79 ti79 tu80 ti80 tu81 ti81 tu82 ti82 tu83 ti83 tu84 ti84 tu85 ti85 tu86 ti86 tu87 ti87 tu88 ti88 tu89 ti89 tu90 ti90 tu91 ti91 tu92 ti92 tu93 ti93 tu94 ti94 tu95 ti95 tu96 ti96 tu97 ti97 tu98 ti98 tu99 ti99 tu100 ti100 tu101 ti101 tu102 tk102 ti102 tu103 ti103 tu104 ti104 tu105 ti105 tu106 ti106 tu107 ti107 tu108 ti108 tu109 ti109 tu110 ti110 tu111 ti111 tu112 ti112 tu113 ti113 tu114 ti114 tu115 ti115 tu116 ti116 tu117 ti117 tu118 ti118 tu119 ti119 tu120 ti120 tu121 ti121 tu122 tk122 ti122 tu123 ti123 tu124 ti124 tu125 ti125 tu126 ti126 tu127 ti127 tu128 ti128 tu129 ti129 tu130 ti130 tu131 ti131 tu132 ti132 tu133 ti133 tu134 ti134 tu135 ti135 tu136 ti136 tu137 ti137 tu138 ti138 tu139 ti139 tu140 ti140 tu141 ti141 tu142 ti142 tu143 ti143 tu144 ti144 tu145 ti145 tu146 ti146 tu147 ti147 tu148 ti148 tu149 ti149 tu150 ti150 tu151 ti151 tu152 ti152 tu153 ti153 tu154 ti154 tu155 ti155 tu156 ti156 tu157 ti157 tu158 ti158 tu159 ti159 tu160 ti160 tu161 ti161 tu162 ti162 tu163 ti163 tu164 ti164 tu165 ti165 tu166 ti166 tu167 ti167 tu168 ti168 tu169 ti169 tu170 ti170 tu171 ti171 tu172 ti172 tu173 ti173 tu174 ti174 tu175 ti175 tu176 ti176 tu177 ti177 tu178 ti178 tu179 ti179 tu180 tk180 ti180 tu181 tk181 ti181 tu182 tk182 ti182 tu183 ti183 tu184 ti184 tu185 tk185 ti185 tu186 tk186 ti186 tu187 ti187 tu188 ti188 tu189 ti189 en2 en3 en4 en5 en6 en7 en8 en9 en10 en11 en12 en13 en14 en15 en16 en17 en18 en19 en20 en21 en22 en23 en24 en25 en26 en27 en28 en29 en30 en31 en32 en33 en34 en35 en36 en37 en38 en39 en40 en41 en42 en43 en44 en45 en46 en47 en48 en49 en50 en51 en52 en53 en54 en55 en56 en57 en58 en59 en60 en61 en62 en63 en64 en65 en66 en67 en68 en69 en70 en71 en72 en73 en74 en75 en76 en77 en78 en79 en80 en81 en82 en83 en84 en85 en86 en87 en88 en89 en90 en91 en92 en93 en94 en95 en96 en97 en98 en99 mixed
end Go.Proofs.Ytgoocobeoejoaaa.Sep
namespace Go.Proofs.Ytgoocobeoejoaaa.Sep
open Go.RowKit
set_option linter.unusedSimpArgs false
set_option linter.unusedVariables false
/-! elements of slices, with what is known of them among the hypotheses -/
section
variable {P : Program} {w0 : World} {e : Env} {L R : List HP} {ty : TypeId} {α : Type} {E' : E α}
theorem rv_vA {T : TypeId} {x : Operand} {A : HP} {b o oo i f : Nat} {xs : List α} {x' : α} {v : Value} {dd : TypeDesc} [hu : TU P T dd] (hx : ev e x = some (.pointer (some ⟨b, oo, none⟩)) := by rfl) (hg : aggD dd = false := by rfl) (hV : View A E' (some ⟨b, o, none⟩) xs := by assumption) (hget : xs[i]? = some x' := by assumption)
    (ho : oo = o + i * E'.sz + f := by rfl) (hv : (E'.cells x')[f]? = some v := by rfl) (hf : Find L A R := by repeat (first | exact Find.here | apply Find.there)) : RV P w0 (.load T x) ty e L v := by
  subst ho; exact rv_velfG i f x' hV hf hx hg rfl hv hget
theorem rv_vA0 {T : TypeId} {x : Operand} {A : HP} {b o oo i : Nat} {xs : List α} {x' : α} {v : Value} {dd : TypeDesc} [hu : TU P T dd] (hx : ev e x = some (.pointer (some ⟨b, oo, none⟩)) := by rfl) (hg : aggD dd = false := by rfl) (hV : View A E' (some ⟨b, o, none⟩) xs := by assumption) (hget : xs[i]? = some x' := by assumption)
    (ho : oo = o + i * E'.sz := by rfl) (hv : (E'.cells x')[0]? = some v := by rfl) (hf : Find L A R := by repeat (first | exact Find.here | apply Find.there)) : RV P w0 (.load T x) ty e L v := by
  subst ho; exact rv_velfG i 0 x' hV hf hx hg rfl hv hget
theorem rv_veA {T : TypeId} {x : Operand} {A : HP} {b o oo i : Nat} {xs : List α} {x' : α} {dd : TypeDesc} {z : Value} {s' by' : Nat} [hu : TU P T dd] [hi : TI P T z s' by'] (hx : ev e x = some (.pointer (some ⟨b, oo, none⟩)) := by rfl) (hV : View A E' (some ⟨b, o, none⟩) xs := by assumption) (hg : aggD dd = E'.agg := by rfl) (hget : xs[i]? = some x' := by assumption)
    (ho : oo = o + i * E'.sz := by rfl) (hs' : s' = E'.sz := by rfl) (hf : Find L A R := by repeat (first | exact Find.here | apply Find.there)) : RV P w0 (.load T x) ty e L (E'.val x') := by
  subst ho; exact rv_velG i x' hV hf hx hg rfl hs' hget
theorem rv_sA {T : TypeId} {x : Operand} {b o oo i f c : Nat} {xs : List α} {x' : α} {v : Value} {dd : TypeDesc} [hu : TU P T dd] (hx : ev e x = some (.pointer (some ⟨b, oo, none⟩)) := by rfl) (hg : aggD dd = false := by rfl) (hf : Find L (Sl E' (some ⟨b, o, none⟩) c xs) R := by repeat (first | exact Find.here | apply Find.there)) (hget : xs[i]? = some x' := by assumption)
    (ho : oo = o + i * E'.sz + f := by rfl) (hv : (E'.cells x')[f]? = some v := by rfl) : RV P w0 (.load T x) ty e L v := by
  subst ho; exact rv_elfG i f x' hf hx hg rfl hv hget
theorem rv_sA0 {T : TypeId} {x : Operand} {b o oo i c : Nat} {xs : List α} {x' : α} {v : Value} {dd : TypeDesc} [hu : TU P T dd] (hx : ev e x = some (.pointer (some ⟨b, oo, none⟩)) := by rfl) (hg : aggD dd = false := by rfl) (hf : Find L (Sl E' (some ⟨b, o, none⟩) c xs) R := by repeat (first | exact Find.here | apply Find.there)) (hget : xs[i]? = some x' := by assumption)
    (ho : oo = o + i * E'.sz := by rfl) (hv : (E'.cells x')[0]? = some v := by rfl) : RV P w0 (.load T x) ty e L v := by
  subst ho; exact rv_elfG i 0 x' hf hx hg rfl hv hget
theorem rv_seA {T : TypeId} {x : Operand} {b o oo i c : Nat} {xs : List α} {x' : α} {dd : TypeDesc} {z : Value} {s' by' : Nat} [hu : TU P T dd] [hi : TI P T z s' by'] (hx : ev e x = some (.pointer (some ⟨b, oo, none⟩)) := by rfl) (hf : Find L (Sl E' (some ⟨b, o, none⟩) c xs) R := by repeat (first | exact Find.here | apply Find.there)) (hg : aggD dd = E'.agg := by rfl) (hget : xs[i]? = some x' := by assumption)
    (ho : oo = o + i * E'.sz := by rfl) (hs' : s' = E'.sz := by rfl) : RV P w0 (.load T x) ty e L (E'.val x') := by
  subst ho; exact rv_elG i x' hf hx hg rfl hs' hget
end
theorem pv_extractL {P : Program} {e : Env} {ty : TypeId} {x : Operand} {i : Nat} {vs : List Value} {v : Value} (hx : ev e x = some (.tuple vs.toArray) := by rfl) (hv : vs[i]? = some v := by rfl) : PV P (.extract x i) ty e (v) := pv_extract hx (by simpa using hv)
/-! one step, whatever it is: the lists of rules stand in the defaults of these theorems, and not in each proof -/
section
variable {P : Program} {w0 : World} {n : Nat} {Q : Exit → Act → World → Prop} {k : List KI} {e : Env} {L : List HP} {all ops : Array Oper} {rest : List Oper} {op : Op} {ty : TypeId} {pos : String} {aft : Array Edge} {d i : Nat} {D : Pend} {vl : List Nat} {v : Value}
theorem Zq (hk : XO ⟨P, w0, n, Q⟩ all k rest ((d, v) :: e) L)
    (h : PV P op ty e v := by first | exact pv_move | exact pv_assign | exact pv_field | exact pv_nil_ptr | exact pv_cmp | exact pv_arith | exact pv_extractL | exact pv_extract | exact pv_len_slice | exact pv_index | exact pv_not | exact pv_pickT | exact pv_pickF | exact pv_conv_int | exact pv_build | exact pv_eqb | exact pv_neb | exact pv_eqnil | exact pv_nenil | exact pv_max | exact pv_min | exact pv_bits | exact pv_shr12 | exact pv_shl12 | exact pv_quo | exact pv_rem | exact pv_neg | exact pv_sliceH | exact pv_build0 | exact pv_makeFunc | exact pv_indexArr | exact pv_sliceArr | exact pv_sliceL | exact pv_nil_fn) (hd : d < n := by exact Nat.le_of_ble_eq_true rfl) : XO ⟨P, w0, n, Q⟩ all k (⟨some d, op, ty, pos, aft, none⟩ :: rest) e L := XO_pv h hd hk
theorem Zs (hk : XO ⟨P, w0, n, Q⟩ all k rest ((d, v) :: e) L)
    (h : RV P w0 op ty e L v := by first | exact rv_load | exact rv_loadW | exact rv_loadS | exact rv_vA | exact rv_vA0 | exact rv_sA | exact rv_sA0 | exact rv_veA | exact rv_seA) (hd : d < n := by exact Nat.le_of_ble_eq_true rfl) : XO ⟨P, w0, n, Q⟩ all k (⟨some d, op, ty, pos, aft, none⟩ :: rest) e L := XO_rv h hd hk
theorem Zc {g g' : Prop} (h : g') (s : g' → g := by first | exact XO_nil | exact X_seq | exact X_region | exact X_block | exact X_skip | exact X_exit | exact X_ret | exact XE_code | exact XE_block | exact XE_code_exit | exact XE_block_exit | exact XE_code_ret | exact XE_block_ret | exact XE_pred_ret | exact XE_pred_exit | exact XE_block_other rfl) : g := s h
theorem Dq {g : Option (Nat × Bool)} (h : XD ⟨P, w0, n, Q⟩ ops k ((i, v, true) :: D) (i :: vl) ((d, v) :: e) L)
    (hv : PV P op ty (restr e (Oper.looksAt ops ⟨some d, op, ty, pos, aft, g⟩)) v := by first | exact pv_move | exact pv_assign | exact pv_field | exact pv_nil_ptr | exact pv_cmp | exact pv_arith | exact pv_extractL | exact pv_extract | exact pv_len_slice | exact pv_index | exact pv_not | exact pv_pickT | exact pv_pickF | exact pv_conv_int | exact pv_build | exact pv_eqb | exact pv_neb | exact pv_eqnil | exact pv_nenil | exact pv_max | exact pv_min | exact pv_bits | exact pv_shr12 | exact pv_shl12 | exact pv_quo | exact pv_rem | exact pv_neg | exact pv_sliceH | exact pv_build0 | exact pv_makeFunc | exact pv_indexArr | exact pv_sliceArr | exact pv_sliceL) (hg : GOK ops e g := by first | exact True.intro | exact ⟨_, rfl, rfl⟩)
    (hl : (Oper.looksAt ops ⟨some d, op, ty, pos, aft, g⟩).contains d = false := by kernel_rfl) (hdis : (D.all fun p => match ops[p.1]? with | some oj => !(oj.looksAt ops).contains d | none => true) = true := by kernel_rfl) (hdn : d < n := by exact Nat.le_of_ble_eq_true rfl) : XDi ⟨P, w0, n, Q⟩ ops k D vl e L i ⟨some d, op, ty, pos, aft, g⟩ := Dp hv h hg hl hdis hdn
theorem Ds {g : Option (Nat × Bool)} (h : XD ⟨P, w0, n, Q⟩ ops k ((i, v, false) :: D) (i :: vl) ((d, v) :: e) L)
    (hv : RV P w0 op ty (restr e (Oper.looksAt ops ⟨some d, op, ty, pos, aft, g⟩)) L v := by first | exact rv_load | exact rv_loadW | exact rv_loadS | exact rv_vA | exact rv_vA0 | exact rv_sA | exact rv_sA0 | exact rv_veA | exact rv_seA) (hg : GOK ops e g := by first | exact True.intro | exact ⟨_, rfl, rfl⟩)
    (hl : (Oper.looksAt ops ⟨some d, op, ty, pos, aft, g⟩).contains d = false := by kernel_rfl) (hdis : (D.all fun p => match ops[p.1]? with | some oj => !(oj.looksAt ops).contains d | none => true) = true := by kernel_rfl) (hdn : d < n := by exact Nat.le_of_ble_eq_true rfl) : XDi ⟨P, w0, n, Q⟩ ops k D vl e L i ⟨some d, op, ty, pos, aft, g⟩ := Dr hv h hg hl hdis hdn
theorem keeps_takeQ {f : Nat × Value × Bool → Bool} {j : Nat} {K : Pend} {b : Bool} {g : Option (Nat × Bool)} (ho : ops[j]? = some ⟨some d, op, ty, pos, aft, g⟩ := by rfl) (hv : RV P w0 op ty (restr e (Oper.looksAt ops ⟨some d, op, ty, pos, aft, g⟩)) L v := by first | exact rv_load | exact rv_loadW | exact rv_loadS | exact rv_vA | exact rv_vA0 | exact rv_sA | exact rv_sA0 | exact rv_veA | exact rv_seA) (hg : GOK ops e g := by first | exact True.intro | exact ⟨_, rfl, rfl⟩) (hb : b = false := by rfl) (h : Keeps ⟨P, w0, n, Q⟩ ops e L (List.filter f K)) :
    Keeps ⟨P, w0, n, Q⟩ ops e L (List.filter f ((j, v, b) :: K)) := keeps_takeA ho hv hg hb h
end
end Go.Proofs.Ytgoocobeoejoaaa.Sep
