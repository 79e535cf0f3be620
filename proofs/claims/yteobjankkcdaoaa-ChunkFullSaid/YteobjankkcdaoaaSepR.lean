import Derived.Test.YteobjankkcdaoaaSepF
import Derived.Test.YteobjankkcdaoaaRow
import Derived.Laws.StructEq
import Derived.Laws.IdiomRangeMap
namespace Go.Proofs.Yteobjankkcdaoaa.Sep
open Go.RowKit
set_option linter.unusedSimpArgs false
set_option linter.unusedVariables false
/-! arrays, structs that are compared, ranges over maps, parts of elements -/
section
variable {P : Program} {w0 : World} {n : Nat} {Q : Exit → Act → World → Prop} {k : List KI} {e : Env} {L R : List HP} {all : Array Oper} {rest : List Oper} {ty : TypeId} {pos : String} {aft : Array Edge} {d : Nat}
variable {α κ : Type} {E' : E α}
/-- The place of an element of an array. -/
theorem pv_indexArr {T el s by' len : Nat} {x i : Operand} {z : Value} {b o : Nat} {kk : IntKind} {iv : Int} [hu : TU P T (.array len el)] [hi : TI P el z s by'] (hx : ev e x = some (.pointer (some ⟨b, o, none⟩)) := by rfl) (hiv : ev e i = some (.int kk iv) := by rfl)
    (h0 : 0 ≤ iv := by omega) (h1 : iv < (len : Int) := by omega) : PV P (.indexAddr T x i) ty e (.pointer (some ⟨b, o + iv.toNat * s, none⟩)) :=
  fun tm w pos aft h => by
    have h2 : (underlying T).run P w = .ok (.array len el) w := run_und hu.out
    have h3 : (Addr.mk b o none).add (iv.toNat * s) = ⟨b, o + iv.toNat * s, none⟩ := by unfold Addr.add; split <;> simp_all
    simp [execOp, Instr.indexAt, ev_sound h hx, ev_sound h hiv, asIntOf, Instr.sureAddr, h2, h0, h1, run_size hi, h3]
/-- All of an array, as a slice. -/
theorem pv_sliceArr {T el s by' len : Nat} {x : Operand} {z : Value} {b o : Nat} [hu : TU P T (.array len el)] [hi : TI P el z s by'] (hx : ev e x = some (.pointer (some ⟨b, o, none⟩)) := by rfl) : PV P (.slice T x none none none) ty e (.slice (some ⟨b, o, none⟩) len len) :=
  fun tm w pos aft h => by
    have h2 : (underlying T).run P w = .ok (.array len el) w := run_und hu.out
    have h3 : ∀ m, (Addr.mk b o none).add (0 * m) = ⟨b, o, none⟩ := fun m => by unfold Addr.add; split <;> simp_all
    have h4 : P.elem T = el := by unfold Program.elem; rw [hu.out]
    have h5 : P.arrayLen T = len := by unfold Program.arrayLen; rw [hu.out]
    have h6 := run_sliceAt_array_all (P := P) w T ⟨b, o, none⟩ (by rw [h4, h5]; exact hu.out)
    rw [h4, h5] at h6
    have h7 := h3 0
    rw [Nat.zero_mul] at h7
    simp [execOp, ev_sound h hx, h6, run_size hi, slicedAt, h7]
/-- Fields that are numbers of one cell each, one behind the other. -/
def RecAre (P : Program) : Nat → List Field → List IntKind → Prop
  | _, [], [] => True
  | o, f :: fs, k :: ks => f.name ≠ "_" ∧ f.offset = o ∧ P.underlying f.type = some (.int k) ∧ RecAre P (o + 1) fs ks
  | _, _, _ => False
class TEq (P : Program) (T : TypeId) (ks : outParam (List IntKind)) : Prop where
  out : ∃ fl : List Field, P.underlying T = some (.struct fl.toArray) ∧ P.stoodInHeld T = false ∧ P.eqGuardType P.depth T = false ∧ RecAre P 0 fl ks
theorem run_part1 {t : TypeId} {kk : IntKind} (h : P.underlying t = some (.int kk)) {X : Array Value} {o : Nat} {v : Value} (hv : X[o]? = some v) (w : World) : (part t X o).run P w = .ok v w := by
  simp [part, run_isAgg h, aggD, hv]
theorem run_eqFields {w : World} {d : Nat} {X Y : Array Value} : ∀ (fl : List Field) (ks : List IntKind) (o : Nat) (xs ys : List Int), RecAre P o fl ks → xs.length = ks.length → ys.length = ks.length →
    (∀ j v, (recCells ks xs)[j]? = some v → X[o + j]? = some v) → (∀ j v, (recCells ks ys)[j]? = some v → Y[o + j]? = some v) → (Op.eqFields (d + 1) X Y fl).run P w = .ok (decide (xs = ys)) w
  | [], [], o, xs, ys, _, hx, hy, _, _ => by
    obtain rfl : xs = [] := List.length_eq_zero_iff.1 hx
    obtain rfl : ys = [] := List.length_eq_zero_iff.1 hy
    simp [Op.eqFields]
  | [], _ :: _, _, _, _, h, _, _, _, _ => by cases h
  | _ :: _, [], _, _, _, h, _, _, _, _ => by cases h
  | f :: fs, kk :: ks, o, [], _, _, hx, _, _, _ => by cases hx
  | f :: fs, kk :: ks, o, _ :: _, [], _, _, hy, _, _ => by cases hy
  | f :: fs, kk :: ks, o, x :: xs, y :: ys, h, hx, hy, hX, hY => by
    obtain ⟨h1, h2, h3, h4⟩ := h
    have ih := run_eqFields (w := w) (d := d) (X := X) (Y := Y) fs ks (o + 1) xs ys h4 (by simpa using hx) (by simpa using hy)
      (fun j v hj => by have := hX (j + 1) v (by simpa [recCells] using hj); rwa [show o + 1 + j = o + (j + 1) from by omega])
      (fun j v hj => by have := hY (j + 1) v (by simpa [recCells] using hj); rwa [show o + 1 + j = o + (j + 1) from by omega])
    have e1 : X[o]? = some (.int kk x) := hX 0 _ (by simp [recCells])
    have e2 : Y[o]? = some (.int kk y) := hY 0 _ (by simp [recCells])
    unfold Op.eqFields
    rw [if_pos h1, h2]
    simp only [Sem.run_bind, run_part1 h3 e1, run_part1 h3 e2, Result.andThen_ok, run_eqInt h3, Sem.run_ite, ih]
    by_cases hxy : x = y
    · simp [hxy]
    · simp [hxy]
theorem run_eqRec {T : TypeId} {ks : List IntKind} (ht : TEq P T ks) (xs ys : List Int) (hx : xs.length = ks.length) (hy : ys.length = ks.length) (w : World) :
    (Op.equal T (.agg (recCells ks xs).toArray) (.agg (recCells ks ys).toArray)).run P w = .ok (decide (xs = ys)) w := by
  obtain ⟨fl, hu, hs, _, hr⟩ := ht.out
  have hf : P.fieldsOf T = fl.toArray := by unfold Program.fieldsOf; rw [hu]
  have h1 : (Op.equal T (.agg (recCells ks xs).toArray) (.agg (recCells ks ys).toArray)).run P w = _ := run_equalIn_struct (P := P) w 9999 T (recCells ks xs).toArray (recCells ks ys).toArray (by rw [hf]; exact hu) hs
  rw [hf] at h1
  rw [h1]
  exact run_eqFields (d := 9998) fl ks 0 xs ys hr hx hy (fun j v hj => by simpa using hj) (fun j v hj => by simpa using hj)
theorem run_guard_agg {op : BinOp} {t : TypeId} {x y : Operand} {a b : Array Value} (h : P.eqGuardType P.depth t = false) {w : World} : (eqGuard op t x y (.agg a) (.agg b)).run P w = .ok () w := by
  cases op <;> simp [eqGuard, h]
theorem pv_eqRec {t t' : TypeId} {x y : Operand} {ks : List IntKind} (xs ys : List Int) [ht : TEq P t ks] (hx : ev e x = some (.agg (recCells ks xs).toArray) := by rfl) (hy : ev e y = some (.agg (recCells ks ys).toArray) := by rfl) (lx : xs.length = ks.length := by rfl) (ly : ys.length = ks.length := by rfl) :
    PV P (.binOp .eql t x y t') ty e (.bool (decide (xs = ys))) :=
  fun tm w pos aft h => by
    obtain ⟨_, _, _, hq, _⟩ := ht.out
    simp only [execOp, ev_sound h hx, ev_sound h hy, Sem.run_bind, run_guard_agg hq, Result.andThen_ok]
    simp [binOp, run_eqRec ht xs ys lx ly]
theorem pv_neRec {t t' : TypeId} {x y : Operand} {ks : List IntKind} (xs ys : List Int) [ht : TEq P t ks] (hx : ev e x = some (.agg (recCells ks xs).toArray) := by rfl) (hy : ev e y = some (.agg (recCells ks ys).toArray) := by rfl) (lx : xs.length = ks.length := by rfl) (ly : ys.length = ks.length := by rfl) :
    PV P (.binOp .neq t x y t') ty e (.bool (!decide (xs = ys))) :=
  fun tm w pos aft h => by
    obtain ⟨_, _, _, hq, _⟩ := ht.out
    simp only [execOp, ev_sound h hx, ev_sound h hy, Sem.run_bind, run_guard_agg hq, Result.andThen_ok]
    simp [binOp, run_eqRec ht xs ys lx ly]
/-- Some cells of an element, as a struct. -/
theorem rv_elS {T : TypeId} {x : Operand} {b o c s m by' : Nat} {xs : List α} {vs : List Value} {dd : TypeDesc} {z : Value} (i f : Nat) [hu : TU P T dd] [hi : TI P T z m by'] (hf : Find L (Sl E' (some ⟨b, o, none⟩) c xs) R := by repeat (first | exact Find.here | apply Find.there)) (hx : ev e x = some (.pointer (some ⟨b, o + i * s + f, none⟩)) := by rfl)
    (hg : aggD dd = true := by rfl) (hs : E'.sz = s := by rfl) (hl : i < xs.length := by omega) (hv : ((E'.cells xs[i]).drop f).take m = vs := by rfl) (hm : vs.length = m := by rfl) (hfit : f + m ≤ E'.sz := by decide) : RV P w0 (.load T x) ty e L (.agg vs.toArray) := by
  subst hs
  have hget : xs[i]? = some xs[i] := by simp [hl]
  exact rv_loadA hg hf hx hm (holds_sl (f := f) (vs := vs) hget (by rw [hm]; exact hv) (by rw [hm]; exact hfit))
/-! ranges over maps -/
theorem Sat.turn1w {w0 w w' : World} {A B : HP} {L : List HP} {b : Nat} {o' : Obj} (h : Sat w0 w (A :: L)) (hA : ∀ H, A H → H b ≠ none) (h1 : w'.os = w.os) (h2 : w'.tape = w.tape) (h3 : w'.output = w.output)
    (hb : w'.heap[b]? = some o') (hk : ∀ k, k ≠ b → w'.heap[k]? = w.heap[k]?) (hB : ∀ H, A H → PH.le H w → B (fun k => if k = b then some o' else H k)) : Sat w0 w' (B :: L) := by
  refine h.turn h1 h2 h3 fun H1 hA1 hle => ⟨fun k => if k = b then some o' else H1 k, hB H1 hA1 hle, fun k o ho => ?_, fun k hne => ?_, fun k hn hne => ?_⟩
  · by_cases e : k = b
    · subst e; simp at ho; rw [← ho]; exact hb
    · simp [e] at ho; rw [hk k e]; exact hle k o ho
  · by_cases e : k = b
    · left; rw [e]; exact hA H1 hA1
    · simp [e] at hne; exact .inl hne
  · have e : k ≠ b := by rintro rfl; exact hA H1 hA1 hn
    exact hk k e
theorem leftOf_push {es : Array MapEntry} {seen : Array Nat} (hnd : (es.toList.map (·.born)).Nodup) {j : Nat} (hj : j < (leftOf es seen).size) : (leftOf es (seen.push (leftOf es seen)[j].born)).toList = (leftOf es seen).toList.take j ++ (leftOf es seen).toList.drop (j + 1) := by
  have h1 : leftOf es (seen.push (leftOf es seen)[j].born) = (leftOf es seen).filter (fun x => x.born != (leftOf es seen)[j].born) := by
    unfold leftOf
    rw [Array.filter_filter]
    congr 1; funext x
    rw [contains_push]
    cases seen.contains x.born <;> simp [bne]
  rw [h1, Array.toList_filter]
  have hnd2 : ((leftOf es seen).toList.map (·.born)).Nodup := by
    have : (leftOf es seen).toList = es.toList.filter (fun e => !seen.contains e.born) := by unfold leftOf; rw [Array.toList_filter]
    rw [this]
    exact (List.Sublist.map _ List.filter_sublist).nodup hnd
  have hj' : j < (leftOf es seen).toList.length := by simpa using hj
  have hget : (leftOf es seen)[j] = (leftOf es seen).toList[j] := by simp
  rw [hget]
  clear hget h1 hnd hj
  generalize (leftOf es seen).toList = l at hnd2 hj' ⊢
  induction l generalizing j with
  | nil => simp at hj'
  | cons x l ih =>
    rw [List.map_cons, List.nodup_cons] at hnd2
    cases j with
    | zero =>
      simp only [List.getElem_cons_zero, List.take_zero, List.nil_append, Nat.zero_add, List.drop_succ_cons, List.drop_zero]
      rw [List.filter_cons_of_neg (by simp)]
      rw [List.filter_eq_self]
      intro y hy
      simp only [bne_iff_ne, ne_eq]
      intro h
      exact hnd2.1 (List.mem_map.2 ⟨y, hy, h⟩)
    | succ j =>
      simp only [List.getElem_cons_succ, List.take_succ_cons, List.drop_succ_cons, List.cons_append]
      have hj2 : j < l.length := by simpa using hj'
      rw [List.filter_cons_of_pos, ih hnd2.2 hj2]
      simp only [bne_iff_ne, ne_eq]
      intro h
      exact hnd2.1 (List.mem_map.2 ⟨l[j], List.getElem_mem hj2, h.symm⟩)
variable {ke : κ → Value} {ve : α → Value}
/-- A map that is gone through, by the iterator in r: what has not been met is told. -/
def MpI {κ α : Type} (ke : κ → Value) (ve : α → Value) (b r : Nat) (l todo : List (κ × α)) : HP := fun H => (l.map (·.1)).Nodup ∧ ∃ es clock seen, H b = some (.map es clock) ∧ H r = some (.mapIter (some b) clock seen clock) ∧
  es.toList.map (fun e => (e.key, e.val)) = l.map (fun p => (ke p.1, ve p.2)) ∧ (∀ e ∈ es.toList, e.born < clock) ∧ (es.toList.map (·.born)).Nodup ∧
  (leftOf es seen).toList.map (fun e => (e.key, e.val)) = todo.map (fun p => (ke p.1, ve p.2))
theorem MpI.done {b r : Nat} {l todo : List (κ × α)} : ∀ H, MpI ke ve b r l todo H → Mp ke ve b l H := by
  rintro H ⟨h1, es, clock, seen, h2, h3, h4, h5, h6, h7⟩
  exact ⟨h1, es, clock, h2, h4, h5, h6⟩
theorem leftOf_none (es : Array MapEntry) : leftOf es #[] = es := by
  unfold leftOf
  exact Array.filter_eq_self.2 (fun x _ => by simp)
theorem dv_range {T K el : Nat} {x : Operand} {b : Nat} {l : List (κ × α)} [hu : TU P T (.map K el)] (hx : ev e x = some (.map (some b)) := by rfl) (hf : Find L (Mp ke ve b l) R := by repeat (first | exact Find.here | apply Find.there)) :
    DV P w0 (.range T x) ty e L (fun v L' => ∃ r, v = .pointer (some ⟨r, 0, none⟩) ∧ L' = MpI ke ve b r l l :: R) := dv_of_run fun tm w pos aft h2 h3 => by
  have h3' := h3.find hf
  obtain ⟨hn, es, clock, hb, hl, hold, hnd⟩ := Mp.at h3'
  refine ⟨_, _, _, by simp only [execOp, ev_sound h2 hx, run_range_map w T K el b es clock hu.out hb, Sem.run_bind, Result.andThen_ok, Sem.run_pure]; rfl, ⟨_, rfl, rfl⟩, ?_⟩
  have hlt : b < w.heap.size := (Array.getElem?_eq_some_iff.1 hb).1
  refine Sat.turn h3' rfl rfl rfl (fun H1 hA hle => ?_)
  refine ⟨fun x => if x = w.heap.size then some (.mapIter (some b) clock #[] clock) else H1 x, ?_, ?_, ?_, ?_⟩
  · obtain ⟨_, es', clock', hb', _⟩ := hA
    have := hle _ _ hb'
    rw [hb] at this
    obtain ⟨rfl, rfl⟩ : es = es' ∧ clock = clock' := by simpa using this
    refine ⟨hn, es, clock, #[], ?_, by simp, hl, hold, hnd, by rw [leftOf_none]; exact hl⟩
    show (if b = w.heap.size then _ else H1 b) = _
    rw [if_neg (by omega)]; exact hb'
  · intro x o hx
    by_cases hxr : x = w.heap.size
    · simp [hxr] at hx; subst hx; rw [hxr]; exact heap_alloc_new w _
    · simp [hxr] at hx
      have := hle _ _ hx
      rw [heap_alloc_old w _ (Array.getElem?_eq_some_iff.1 this).1]; exact this
  · intro x hx
    by_cases hxr : x = w.heap.size
    · right; subst hxr; exact Array.getElem?_eq_none (Nat.le_refl _)
    · left; simpa [hxr] using hx
  · intro x _ hx
    have : x < w.heap.size := by
      rcases Nat.lt_or_ge x w.heap.size with h | h
      · exact h
      · exact absurd (Array.getElem?_eq_none h) hx
    rw [heap_alloc_old w _ this]
theorem dv_next {b r : Nat} {l todo : List (κ × α)} {x : Operand} (hx : ev e x = some (.pointer (some ⟨r, 0, none⟩)) := by rfl) (hf : Find L (MpI ke ve b r l todo) R := by repeat (first | exact Find.here | apply Find.there)) :
    DV P w0 (.next x false) ty e L (fun v L' => (v = .tuple #[.bool false] ∧ todo = [] ∧ L' = MpI ke ve b r l [] :: R) ∨ ∃ t1 p t2, todo = t1 ++ p :: t2 ∧ v = .tuple #[.bool true, ke p.1, ve p.2] ∧ L' = MpI ke ve b r l (t1 ++ t2) :: R) := dv_of_run fun tm w pos aft h2 h3 => by
  have h3' := h3.find hf
  obtain ⟨H0, hA0, hle0⟩ := h3'.atom
  obtain ⟨hn, es, clock, seen, hb, hr, hl, hold, hnd, htodo⟩ := hA0
  have hb1 := hle0 _ _ hb
  have hr1 := hle0 _ _ hr
  have hgr : (getObj r).run P w = .ok (.mapIter (some b) clock seen clock) w := by simp [getObj, Sem.run, hr1]
  have hgb : (getObj b).run P w = .ok (.map es clock) w := by simp [getObj, Sem.run, hb1]
  have htest := next_test_false seen es clock clock hold (Nat.le_refl _)
  have hmem : ∀ x ∈ (leftOf es seen).toList, x.born < clock := fun x hx => hold x (mem_left hx).1
  have e1 : (leftOf es seen).filter (fun x => decide (x.born < clock)) = leftOf es seen := Array.filter_eq_self.2 (fun x hx => by simpa using hmem x (by simpa using hx))
  have e2 : (leftOf es seen).filter (fun x => decide (x.born ≥ clock)) = #[] := by
    rw [Array.filter_eq_empty_iff]
    intro x hx
    have := hmem x (by simpa using hx)
    simp; omega
  have hexec : (execOp (Act.mk tm []).eval ⟨none, .next x false, ty, pos, aft, none⟩).run P w = ((Instr.next (.pointer (some ⟨r, 0, none⟩)) false ty).run P w).andThen fun v w => .ok (.value v) w := by
    simp [execOp, ev_sound h2 hx]
  rw [hexec]
  have hnx : (Instr.next (.pointer (some ⟨r, 0, none⟩)) false ty).run P w = ((choose (.mapNext (((if (leftOf es seen).isEmpty then #[none] else #[]) ++ (leftOf es seen).map some).size))).run P w).andThen fun j w => (match ((if (leftOf es seen).isEmpty then #[none] else #[]) ++ (leftOf es seen).map some)[j]? with
      | some (some e) => do
        setObj r (.mapIter (some b) clock (seen.push e.born) clock)
        pure (.tuple #[.bool true, e.key, e.val])
      | some none => pure (.tuple #[.bool false])
      | none => stuck "Next: no such candidate" : Sem Value).run P w := by
    unfold Instr.next
    simp only [Sem.run_bind, hgr, hgb, Result.andThen_ok, htest, Bool.false_eq_true, if_false]
    have e1' : Array.filter (fun x => decide (x.born < clock)) (Array.filter (fun e => !seen.contains e.born) es) = leftOf es seen := e1
    have e2' : Array.filter (fun x => decide (x.born ≥ clock)) (Array.filter (fun e => !seen.contains e.born) es) = #[] := e2
    rw [e1', e2']
    simp only [Array.append_empty]
    rfl
  rw [hnx]
  by_cases h0 : (leftOf es seen).size = 0
  · have hE : leftOf es seen = #[] := Array.eq_empty_of_size_eq_zero h0
    have ht : todo = [] := by rw [hE] at htodo; simpa using htodo.symm
    subst ht
    refine ⟨.tuple #[.bool false], w, _, ?_, .inl ⟨rfl, rfl, rfl⟩, h3'⟩
    rw [hE]
    simp [choose, Sem.run, Question.forced]
  · have hne : (leftOf es seen).isEmpty = false := by simp [Array.isEmpty, h0]
    have hch : ∃ (j : Nat) (w1 : World), j < (leftOf es seen).size ∧ (w1 = w ∨ w1 = w.drew) ∧ (choose (Question.mapNext (leftOf es seen).size)).run P w = .ok j w1 := by
      by_cases hf : (leftOf es seen).size ≤ 1
      · exact ⟨0, w, by omega, .inl rfl, by simp [choose, Sem.run, Question.forced, hf]⟩
      · exact ⟨_, w.drew, Nat.mod_lt _ (by omega), .inr rfl, by
          simp only [choose, Sem.run, Question.forced, decide_eq_true_eq, hf, if_false, Question.cut]
          rfl⟩
    obtain ⟨j, w1, hj, hw1, hrun⟩ := hch
    have hs1 : Sat w0 w1 (MpI ke ve b r l todo :: R) := by
      rcases hw1 with rfl | rfl
      · exact h3'
      · exact h3'.drew
    have hheap : w1.heap = w.heap := by rcases hw1 with rfl | rfl <;> rfl
    have hjt : j < todo.length := by
      have := congrArg List.length htodo
      simp at this; omega
    have hkv : ((leftOf es seen)[j].key, (leftOf es seen)[j].val) = (ke todo[j].1, ve todo[j].2) := by
      have := congrArg (fun q => q[j]?) htodo
      simp [hj, hjt] at this
      rw [Prod.mk.injEq]; exact this
    obtain ⟨hkv1, hkv2⟩ := Prod.mk.inj hkv
    refine ⟨.tuple #[.bool true, ke todo[j].1, ve todo[j].2], { w1 with heap := w1.heap.setIfInBounds r (.mapIter (some b) clock (seen.push (leftOf es seen)[j].born) clock) }, _, ?_, .inr ⟨todo.take j, todo[j], todo.drop (j + 1), by simp, rfl, rfl⟩, ?_⟩
    · simp only [hne, Bool.false_eq_true, if_false, Array.empty_append, Array.size_map, hrun, Result.andThen_ok, Array.getElem?_map, Array.getElem?_eq_getElem hj, Option.map_some, Sem.run_bind]
      have hr2 : w1.heap[r]? = some (.mapIter (some b) clock seen clock) := by rw [hheap]; exact hr1
      have : ∀ o' : Obj, (setObj r o').run P w1 = .ok () { w1 with heap := w1.heap.setIfInBounds r o' } := fun o' => by simp [setObj, Sem.run, hr2]
      rw [this]
      simp [hkv1, hkv2]
    · refine Sat.turn1w (b := r) hs1 (fun H hH => ?_) rfl rfl rfl (heap_set_at (by rw [hheap]; exact hr1)) (fun k hk => by simp [Array.getElem?_setIfInBounds_ne (Ne.symm hk)]) (fun H hH hleH => ?_)
      · obtain ⟨_, _, _, _, _, h, _⟩ := hH
        rw [h]; simp
      · obtain ⟨_, es', clock', seen', hb', hr', _⟩ := hH
        have hbe := hleH _ _ hb'
        rw [hheap, hb1] at hbe
        obtain ⟨rfl, rfl⟩ : es = es' ∧ clock = clock' := by simpa using hbe
        have hbr : b ≠ r := by
          rintro rfl
          rw [hb'] at hr'; cases hr'
        refine ⟨hn, es, clock, seen.push (leftOf es seen)[j].born, ?_, by simp, hl, hold, hnd, ?_⟩
        · show (if b = r then _ else H b) = _
          rw [if_neg hbr]; exact hb'
        · rw [leftOf_push hnd hj, List.map_append, List.map_take, List.map_drop, htodo, List.map_append, List.map_take, List.map_drop]
end
/-! drawn regions: guards, known or not -/
section
variable {P : Program} {w0 : World} {n : Nat} {Q : Exit → Act → World → Prop} {ops : Array Oper} {k : List KI} {D : Pend} {vl : List Nat} {e : Env} {L R : List HP} {i d : Nat} {op : Op} {ty : TypeId} {pos : String} {aft : Array Edge} {v : Value}
def GOK (ops : Array Oper) (e : Env) : Option (Nat × Bool) → Prop
  | none => True
  | some (j, want) => ∃ t, (ops[j]?).bind (·.dst) = some t ∧ e.get t = some (.bool want)
theorem gok_wanted {g : Option (Nat × Bool)} (hg : GOK ops e g) {tm : Array Value} (ha : Agree (restr e (Oper.looksAt ops ⟨some d, op, ty, pos, aft, g⟩)) tm) : Region.wanted ⟨some d, op, ty, pos, aft, g⟩ (yielded ops tm) = true := by
  cases g with
  | none => rfl
  | some q =>
    obtain ⟨j, want⟩ := q
    obtain ⟨t, hj, ht⟩ := hg
    rw [wanted_of hj ht ha]; simp
theorem XDi_pvA {g : Option (Nat × Bool)} (hv : PV P op ty (restr e (Oper.looksAt ops ⟨some d, op, ty, pos, aft, g⟩)) v) (hg : GOK ops e g := by first | exact True.intro | exact ⟨_, rfl, rfl⟩)
    (hl : (Oper.looksAt ops ⟨some d, op, ty, pos, aft, g⟩).contains d = false := by kernel_rfl) (hdis : (D.all fun p => match ops[p.1]? with | some oj => !(oj.looksAt ops).contains d | none => true) = true := by kernel_rfl) (hdn : d < n := by exact Nat.le_of_ble_eq_true rfl)
    (h : XD ⟨P, w0, n, Q⟩ ops k ((i, v, true) :: D) (i :: vl) ((d, v) :: e) L) : XDi ⟨P, w0, n, Q⟩ ops k D vl e L i ⟨some d, op, ty, pos, aft, g⟩ :=
  XDi_gen (b := true) (fun _ ha => gok_wanted hg ha) (fun tm w pos aft ha _ => hv tm w pos aft ha) hl hdis hdn h
theorem XDi_rvA {g : Option (Nat × Bool)} (hv : RV P w0 op ty (restr e (Oper.looksAt ops ⟨some d, op, ty, pos, aft, g⟩)) L v) (hg : GOK ops e g := by first | exact True.intro | exact ⟨_, rfl, rfl⟩)
    (hl : (Oper.looksAt ops ⟨some d, op, ty, pos, aft, g⟩).contains d = false := by kernel_rfl) (hdis : (D.all fun p => match ops[p.1]? with | some oj => !(oj.looksAt ops).contains d | none => true) = true := by kernel_rfl) (hdn : d < n := by exact Nat.le_of_ble_eq_true rfl)
    (h : XD ⟨P, w0, n, Q⟩ ops k ((i, v, false) :: D) (i :: vl) ((d, v) :: e) L) : XDi ⟨P, w0, n, Q⟩ ops k D vl e L i ⟨some d, op, ty, pos, aft, g⟩ :=
  XDi_gen (b := false) (fun _ ha => gok_wanted hg ha) (fun tm w pos aft ha hs => hv tm w pos aft ha (hs rfl)) hl hdis hdn h
theorem XDi_gU {j t : Nat} {want : Bool} (hj : (ops[j]?).bind (·.dst) = some t := by rfl) (ht : e.get t = some undef := by rfl)
    (hl : (Oper.looksAt ops ⟨some d, op, ty, pos, aft, some (j, want)⟩).contains d = false := by kernel_rfl) (hdis : (D.all fun p => match ops[p.1]? with | some oj => !(oj.looksAt ops).contains d | none => true) = true := by kernel_rfl) (hdn : d < n := by exact Nat.le_of_ble_eq_true rfl)
    (h : XD ⟨P, w0, n, Q⟩ ops k ((i, undef, true) :: D) (i :: vl) ((d, undef) :: e) L) : XDi ⟨P, w0, n, Q⟩ ops k D vl e L i ⟨some d, op, ty, pos, aft, some (j, want)⟩ := by
  intro ho hi hr
  refine XD_read ho rfl hi hr hl hdis hdn ?_ h
  intro tm w ha _
  refine .inr ⟨?_, rfl⟩
  have h1 := ha t undef (by rw [restr_get, if_pos (guard_looks hj)]; exact ht)
  have : yielded ops tm j = none := by unfold yielded; rw [hj]; simp [h1, undef]
  simp [Region.wanted, this]
theorem XO_gU {all : Array Oper} {rest : List Oper} {op : Op} {j t : Nat} {want : Bool} (hj : (all[j]?).bind (·.dst) = some t := by rfl) (ht : e.get t = some undef := by rfl) (hd : d < n := by exact Nat.le_of_ble_eq_true rfl)
    (hk : XO ⟨P, w0, n, Q⟩ all k rest ((d, undef) :: e) L) : XO ⟨P, w0, n, Q⟩ all k (⟨some d, op, ty, pos, aft, some (j, want)⟩ :: rest) e L := by
  intro tm w h1 h2 h3
  have h4 := h2 t _ ht
  have hyi : yielded all tm j = none := by unfold yielded; rw [hj]; simp [h4, undef]
  unfold wpList
  rw [if_neg (show ¬ Region.wanted _ _ = true by simp [Region.wanted, hyi])]
  exact hk _ w (by simp [h1]) (h2.put (by rw [h1]; exact hd)) h3
theorem XDa_dvA {g : Option (Nat × Bool)} {Φ : Value → List HP → Prop} (hv : DV P w0 op ty (restr e (Oper.looksAt ops ⟨some d, op, ty, pos, aft, g⟩)) L Φ) (hg : GOK ops e g := by first | exact True.intro | exact ⟨_, rfl, rfl⟩) (hdn : d < n := by exact Nat.le_of_ble_eq_true rfl)
    (hk : ∀ v L', Φ v L' → Keeps ⟨P, w0, n, Q⟩ ops ((d, v) :: e) L' (D.filter fun p => !p.2.2 && !waits ops aft p.1) ∧ XD ⟨P, w0, n, Q⟩ ops k (D.filter fun p => !waits ops aft p.1) (i :: vl) ((d, v) :: e) L') : XDa ⟨P, w0, n, Q⟩ ops k D vl e L i ⟨some d, op, ty, pos, aft, g⟩ :=
  acts_gen (fun _ ha => gok_wanted hg ha) hv (fun x hx => by cases hx; exact hdn) (fun v L' h => hk v L' h)
theorem keeps_takeA {f : Nat × Value × Bool → Bool} {j : Nat} {K : Pend} {b : Bool} {g : Option (Nat × Bool)} (ho : ops[j]? = some ⟨some d, op, ty, pos, aft, g⟩ := by rfl) (hv : RV P w0 op ty (restr e (Oper.looksAt ops ⟨some d, op, ty, pos, aft, g⟩)) L v) (hg : GOK ops e g := by first | exact True.intro | exact ⟨_, rfl, rfl⟩) (hb : b = false := by rfl) (h : Keeps ⟨P, w0, n, Q⟩ ops e L (List.filter f K)) :
    Keeps ⟨P, w0, n, Q⟩ ops e L (List.filter f ((j, v, b) :: K)) := by
  intro p hp
  rcases List.mem_cons.1 (List.mem_filter.1 hp).1 with rfl | hq
  · intro o ho' tm w ha hs
    obtain rfl := Option.some.inj (ho.symm.trans ho')
    exact .inl ⟨gok_wanted hg ha, .inl (hv tm w pos aft ha (hs hb))⟩
  · exact h p (List.mem_filter.2 ⟨hq, (List.mem_filter.1 hp).2⟩)
theorem XD_head {C : Cx} {o : Oper} (hi : (readyV ops vl).head? = some i := by rfl) (ho : ops[i]? = some o := by rfl) (h : XDi C ops k D vl e L i o) : XD C ops k D vl e L := by
  obtain ⟨h1, o', ho', h2⟩ := mem_readyV.1 (List.mem_of_head? hi)
  obtain rfl := Option.some.inj (ho.symm.trans ho')
  exact h ho (by simpa using h1) h2
theorem XDi_either {j t : Nat} {want b : Bool} {dd : Option Nat} (hj : (ops[j]?).bind (·.dst) = some t := by rfl) (ht : e.get t = some (.bool b) := by rfl)
    (hT : b = true → XDi ⟨P, w0, n, Q⟩ ops k D vl ((t, .bool true) :: e) L i ⟨dd, op, ty, pos, aft, some (j, want)⟩) (hF : b = false → XDi ⟨P, w0, n, Q⟩ ops k D vl ((t, .bool false) :: e) L i ⟨dd, op, ty, pos, aft, some (j, want)⟩) :
    XDi ⟨P, w0, n, Q⟩ ops k D vl e L i ⟨dd, op, ty, pos, aft, some (j, want)⟩ := fun ho hi hr => XD_split t ht (fun h => hT h ho hi hr) (fun h => hF h ho hi hr)
theorem XDi_known {j t : Nat} {want b : Bool} {dd : Option Nat} (v : Bool) (hj : (ops[j]?).bind (·.dst) = some t := by rfl) (ht : e.get t = some (.bool b) := by rfl) (hb : b = v)
    (hT : XDi ⟨P, w0, n, Q⟩ ops k D vl ((t, .bool v) :: e) L i ⟨dd, op, ty, pos, aft, some (j, want)⟩) :
    XDi ⟨P, w0, n, Q⟩ ops k D vl e L i ⟨dd, op, ty, pos, aft, some (j, want)⟩ := fun ho hi hr => XD_reval t _ ht (congrArg Value.bool hb) (hT ho hi hr)
/-! the same by short names -/
theorem Dp {g : Option (Nat × Bool)} (hv : PV P op ty (restr e (Oper.looksAt ops ⟨some d, op, ty, pos, aft, g⟩)) v) (h : XD ⟨P, w0, n, Q⟩ ops k ((i, v, true) :: D) (i :: vl) ((d, v) :: e) L) (hg : GOK ops e g := by first | exact True.intro | exact ⟨_, rfl, rfl⟩)
    (hl : (Oper.looksAt ops ⟨some d, op, ty, pos, aft, g⟩).contains d = false := by kernel_rfl) (hdis : (D.all fun p => match ops[p.1]? with | some oj => !(oj.looksAt ops).contains d | none => true) = true := by kernel_rfl) (hdn : d < n := by exact Nat.le_of_ble_eq_true rfl) :
    XDi ⟨P, w0, n, Q⟩ ops k D vl e L i ⟨some d, op, ty, pos, aft, g⟩ := XDi_pvA hv hg hl hdis hdn h
theorem Dr {g : Option (Nat × Bool)} (hv : RV P w0 op ty (restr e (Oper.looksAt ops ⟨some d, op, ty, pos, aft, g⟩)) L v) (h : XD ⟨P, w0, n, Q⟩ ops k ((i, v, false) :: D) (i :: vl) ((d, v) :: e) L) (hg : GOK ops e g := by first | exact True.intro | exact ⟨_, rfl, rfl⟩)
    (hl : (Oper.looksAt ops ⟨some d, op, ty, pos, aft, g⟩).contains d = false := by kernel_rfl) (hdis : (D.all fun p => match ops[p.1]? with | some oj => !(oj.looksAt ops).contains d | none => true) = true := by kernel_rfl) (hdn : d < n := by exact Nat.le_of_ble_eq_true rfl) :
    XDi ⟨P, w0, n, Q⟩ ops k D vl e L i ⟨some d, op, ty, pos, aft, g⟩ := XDi_rvA hv hg hl hdis hdn h
end
end Go.Proofs.Yteobjankkcdaoaa.Sep
