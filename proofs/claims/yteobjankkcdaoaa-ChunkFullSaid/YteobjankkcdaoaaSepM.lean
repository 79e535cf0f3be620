import Derived.Test.YteobjankkcdaoaaSepX
namespace Go.Proofs.Yteobjankkcdaoaa.Sep
open Go.RowKit
set_option linter.unusedSimpArgs false
set_option linter.unusedVariables false
set_option linter.unusedSectionVars false

/-! ### maps -/
section
variable {κ α : Type} [DecidableEq κ]
def lk : List (κ × α) → κ → Option α
  | [], _ => none
  | (a, v) :: l, k => if k = a then some v else lk l k
def ins : List (κ × α) → κ → α → List (κ × α)
  | [], k, v => [(k, v)]
  | (a, u) :: l, k, v => if k = a then (a, v) :: l else (a, u) :: ins l k v
def del : List (κ × α) → κ → List (κ × α)
  | [], _ => []
  | (a, u) :: l, k => if k = a then l else (a, u) :: del l k
def findIx : List (κ × α) → κ → Nat → Option (Nat × α)
  | [], _, _ => none
  | (a, v) :: l, k, i => if k = a then some (i, v) else findIx l k (i + 1)
theorem lk_ins (l : List (κ × α)) (k k' : κ) (v : α) : lk (ins l k v) k' = if k' = k then some v else lk l k' := by
  induction l with
  | nil => simp [ins, lk]
  | cons p l ih =>
    obtain ⟨a, u⟩ := p
    by_cases h : k = a
    · subst h; simp only [ins, if_true, lk]; split <;> rfl
    · simp only [ins, h, if_false, lk, ih]
      by_cases h1 : k' = a
      · subst h1; simp [Ne.symm h]
      · simp [h1]
theorem keys_ins (l : List (κ × α)) (k : κ) (v : α) : (ins l k v).map (·.1) = if k ∈ l.map (·.1) then l.map (·.1) else l.map (·.1) ++ [k] := by
  induction l with
  | nil => simp [ins]
  | cons p l ih =>
    obtain ⟨a, u⟩ := p
    by_cases h : k = a
    · subst h; simp [ins]
    · simp only [ins, h, if_false, List.map_cons, ih, List.mem_cons, false_or]
      split <;> simp
theorem nodup_ins {l : List (κ × α)} (h : (l.map (·.1)).Nodup) (k : κ) (v : α) : ((ins l k v).map (·.1)).Nodup := by
  rw [keys_ins]
  split
  · exact h
  · rename_i hk
    rw [List.nodup_append]
    refine ⟨h, by simp, ?_⟩
    intro a ha b hb
    simp at hb; subst hb
    rintro rfl; exact hk ha
theorem lk_none {l : List (κ × α)} {k : κ} : lk l k = none ↔ k ∉ l.map (·.1) := by
  induction l with
  | nil => simp [lk]
  | cons p l ih =>
    obtain ⟨a, u⟩ := p
    by_cases h : k = a
    · subst h; simp [lk]
    · simp only [lk, h, if_false, ih, List.map_cons, List.mem_cons, false_or]
theorem lk_del {l : List (κ × α)} (h : (l.map (·.1)).Nodup) (k k' : κ) : lk (del l k) k' = if k' = k then none else lk l k' := by
  induction l with
  | nil => simp [del, lk]
  | cons p l ih =>
    obtain ⟨a, u⟩ := p
    simp only [List.map_cons, List.nodup_cons] at h
    by_cases hk : k = a
    · subst hk
      simp only [del, if_true, lk]
      by_cases h1 : k' = k
      · subst h1; simp [lk_none.2 h.1]
      · simp [h1]
    · simp only [del, hk, if_false, lk, ih h.2]
      by_cases h1 : k' = a
      · subst h1; simp [Ne.symm hk]
      · simp [h1]
theorem del_sub (l : List (κ × α)) (k : κ) : ((del l k).map (·.1)).Sublist (l.map (·.1)) := by
  induction l with
  | nil => simp [del]
  | cons p l ih =>
    obtain ⟨a, u⟩ := p
    by_cases h : k = a
    · simp [del, h]
    · simp only [del, h, if_false, List.map_cons]; exact ih.cons_cons _
theorem nodup_del {l : List (κ × α)} (h : (l.map (·.1)).Nodup) (k : κ) : ((del l k).map (·.1)).Nodup := (del_sub l k).nodup h
theorem length_ins (l : List (κ × α)) (k : κ) (v : α) : (ins l k v).length = if (lk l k).isSome then l.length else l.length + 1 := by
  induction l with
  | nil => simp [ins, lk]
  | cons p l ih =>
    obtain ⟨a, u⟩ := p
    by_cases h : k = a
    · subst h; simp [ins, lk]
    · simp only [ins, h, if_false, lk, List.length_cons, ih]; split <;> rfl
theorem length_del (l : List (κ × α)) (k : κ) : (del l k).length = if (lk l k).isSome then l.length - 1 else l.length := by
  induction l with
  | nil => simp [del, lk]
  | cons p l ih =>
    obtain ⟨a, u⟩ := p
    by_cases h : k = a
    · subst h; simp [del, lk]
    · simp only [del, h, if_false, lk, List.length_cons, ih]
      cases hh : lk l k with
      | none => simp
      | some v =>
        have : l ≠ [] := by rintro rfl; simp [lk] at hh
        have := List.length_pos_iff.2 this
        simp; omega
theorem findIx_lk (l : List (κ × α)) (k : κ) (i : Nat) : (findIx l k i).map (·.2) = lk l k := by
  induction l generalizing i with
  | nil => rfl
  | cons p l ih =>
    obtain ⟨a, u⟩ := p
    simp only [findIx, lk]
    split
    · rfl
    · exact ih _
end
/-- Keys of a type: how they lie in a value. -/
class TK {κ : Type} (P : Program) (T : TypeId) (ke : κ → Value) : Prop where
  inj : ∀ a b, ke a = ke b → a = b
  check : ∀ em w a, (Instr.checkKey em 10000 T (ke a)).run P w = .ok () w
  eq : ∀ a b w, (Op.equal T (ke a) (ke b)).run P w = .ok (@decide (a = b) (Classical.propDecidable _)) w
  bits : ∀ a, Instr.sameBits 10000 (ke a) (ke a) = true
  now : ∃ d, P.underlying T = some d ∧ ((∀ a b, Instr.sameNow d (ke a) (ke b) = some (@decide (a = b) (Classical.propDecidable _))) ∨ ∀ a b, Instr.sameNow d (ke a) (ke b) = none)
instance tk_int {P : Program} {T : TypeId} {kd : IntKind} [h : TU P T (.int kd)] : TK P T (fun n : Int => Value.int kd n) where
  inj := fun a b h => by cases h; rfl
  check := fun em w a => by
    have key : ∀ d, (Instr.checkKey em (d + 1) T (.int kd a)).run P w = .ok () w := fun d => by
      simp only [Instr.checkKey, Sem.run_bind, run_und h.out, Result.andThen_ok]; rfl
    exact key 9999
  eq := fun a b w => equal_at P w T _ _ fun d => by
    simp only [Op.equalIn, Sem.run_bind, run_und h.out, Result.andThen_ok, if_true]
    exact congrArg (fun x => Result.ok x w) (by by_cases e : a = b <;> simp [e])
  bits := fun a => by simp [Instr.sameBits]
  now := ⟨_, h.out, .inl fun a b => by simp only [Instr.sameNow, if_true]; exact congrArg some (by by_cases e : a = b <;> simp [e])⟩
theorem run_eqInt {P : Program} {t : TypeId} {k : IntKind} (h : P.underlying t = some (.int k)) (d : Nat) (a b : Int) (w : World) : (Op.equalIn (d + 1) t (.int k a) (.int k b)).run P w = .ok (a == b) w := by
  unfold Op.equalIn
  simp only [Sem.run_bind, run_und h, Result.andThen_ok, if_true]
  rfl
/-- Two numbers: equal just if both are. -/
theorem run_eqPair {P : Program} {T : TypeId} {f1 f2 : Field} {k1 k2 : IntKind} (hu : P.underlying T = some (.struct #[f1, f2])) (hs : P.stoodInHeld T = false) (h1 : P.underlying f1.type = some (.int k1)) (h2 : P.underlying f2.type = some (.int k2))
    (n1 : f1.name ≠ "_") (n2 : f2.name ≠ "_") (o1 : f1.offset = 0) (o2 : f2.offset = 1) (d : Nat) (a1 a2 b1 b2 : Int) (w : World) :
    (Op.equalIn (d + 2) T (.agg #[.int k1 a1, .int k2 a2]) (.agg #[.int k1 b1, .int k2 b2])).run P w = .ok (a1 == b1 && a2 == b2) w := by
  unfold Op.equalIn
  have e1 := run_eqInt h1 d a1 b1 w
  have e2 := run_eqInt h2 d a2 b2 w
  simp only [Sem.run_bind, run_und hu, Result.andThen_ok, run_program, hs, Bool.false_eq_true, if_false]
  simp [part, run_isAgg h1, run_isAgg h2, aggD, n1, n2, o1, o2, e1, e2]
  by_cases a1 = b1 <;> by_cases a2 = b2 <;> simp [*]
theorem run_checkInt {P : Program} {t : TypeId} {k : IntKind} (h : P.underlying t = some (.int k)) (em : Bool) (d : Nat) (a : Int) (w : World) : (Instr.checkKey em (d + 1) t (.int k a)).run P w = .ok () w := by
  unfold Instr.checkKey
  simp only [Sem.run_bind, run_und h, Result.andThen_ok]; rfl
/-- Keys of two numbers. -/
theorem tk_pair {P : Program} {T : TypeId} {f1 f2 : Field} {k1 k2 : IntKind} (hu : P.underlying T = some (.struct #[f1, f2])) (hs : P.stoodInHeld T = false) (h1 : P.underlying f1.type = some (.int k1)) (h2 : P.underlying f2.type = some (.int k2))
    (n1 : f1.name ≠ "_") (n2 : f2.name ≠ "_") (o1 : f1.offset = 0) (o2 : f2.offset = 1) : TK P T (fun p : Int × Int => .agg #[.int k1 p.1, .int k2 p.2]) where
  inj := fun a b h => by
    obtain ⟨a1, a2⟩ := a; obtain ⟨b1, b2⟩ := b
    simp at h; simp [h]
  check := fun em w a => by
    have key : ∀ d, (Instr.checkKey em (d + 2) T (.agg #[.int k1 a.1, .int k2 a.2])).run P w = .ok () w := fun d => by
      unfold Instr.checkKey
      have e1 := run_checkInt h1 em d a.1 w
      have e2 := run_checkInt h2 em d a.2 w
      simp only [Sem.run_bind, run_und hu, Result.andThen_ok]
      simp [part, run_isAgg h1, run_isAgg h2, aggD, n1, n2, o1, o2, e1, e2]
    exact key 9998
  eq := fun a b w => by
    have : (Op.equal T (.agg #[.int k1 a.1, .int k2 a.2]) (.agg #[.int k1 b.1, .int k2 b.2])).run P w = _ := run_eqPair hu hs h1 h2 n1 n2 o1 o2 9998 a.1 a.2 b.1 b.2 w
    rw [this]
    refine congrArg (fun x => Result.ok x w) ?_
    obtain ⟨a1, a2⟩ := a; obtain ⟨b1, b2⟩ := b
    by_cases e1 : a1 = b1 <;> by_cases e2 : a2 = b2 <;> simp [e1, e2]
  bits := fun a => by simp [Instr.sameBits]
  now := ⟨_, hu, .inr fun a b => rfl⟩
section
variable {κ α : Type} [DecidableEq κ] {P : Program} {T : TypeId} {ke : κ → Value} {ve : α → Value}
theorem findNow_some (hk : TK P T ke) {d : TypeDesc} (hn : ∀ a b, Instr.sameNow d (ke a) (ke b) = some (@decide (a = b) (Classical.propDecidable _))) (k : κ) : ∀ (es : List MapEntry) (l : List (κ × α)) (i : Nat),
    es.map (fun e => (e.key, e.val)) = l.map (fun p => (ke p.1, ve p.2)) → Instr.findNow d (ke k) es i = some ((findIx l k i).map fun p => (p.1, ve p.2)) := by
  intro es
  induction es with
  | nil => intro l i h; cases l <;> simp at h; simp [Instr.findNow, findIx]
  | cons e es ih =>
    intro l i h
    cases l with
    | nil => simp at h
    | cons p l =>
      simp only [List.map_cons, List.cons.injEq, Prod.mk.injEq] at h
      obtain ⟨⟨h1, h2⟩, h3⟩ := h
      obtain ⟨a, u⟩ := p
      simp only [Instr.findNow, h1, hn, findIx]
      by_cases e1 : k = a
      · simp [e1, h2]
      · simp only [e1, decide_false, if_false]; exact ih l (i + 1) h3
theorem findNow_none {d : TypeDesc} (hn : ∀ a b, Instr.sameNow d (ke a) (ke b) = none) (k : κ) (es : List MapEntry) (l : List (κ × α)) (i : Nat)
    (h : es.map (fun e => (e.key, e.val)) = l.map (fun p => (ke p.1, ve p.2))) : Instr.findNow d (ke k) es i = if l.isEmpty then some none else none := by
  cases es with
  | nil => cases l <;> simp at h; simp [Instr.findNow]
  | cons e es =>
    cases l with
    | nil => simp at h
    | cons p l =>
      simp only [List.map_cons, List.cons.injEq, Prod.mk.injEq] at h
      simp [Instr.findNow, h.1.1, hn]
theorem run_findAsking (hk : TK P T ke) (k : κ) (w : World) : ∀ (es : List MapEntry) (l : List (κ × α)) (i : Nat),
    es.map (fun e => (e.key, e.val)) = l.map (fun p => (ke p.1, ve p.2)) → (Instr.findAsking T (ke k) es i).run P w = .ok ((findIx l k i).map fun p => (p.1, ve p.2)) w := by
  intro es
  induction es with
  | nil => intro l i h; cases l <;> simp at h; simp [Instr.findAsking, findIx]
  | cons e es ih =>
    intro l i h
    cases l with
    | nil => simp at h
    | cons p l =>
      simp only [List.map_cons, List.cons.injEq, Prod.mk.injEq] at h
      obtain ⟨⟨h1, h2⟩, h3⟩ := h
      obtain ⟨a, u⟩ := p
      simp only [Instr.findAsking, h1, Sem.run_bind, hk.eq, Result.andThen_ok, findIx]
      by_cases e1 : k = a
      · simp [e1, h2]
      · simp only [e1, decide_false, Bool.false_eq_true, if_false]; exact ih l (i + 1) h3
theorem run_findKey (hk : TK P T ke) (k : κ) (w : World) {es : List MapEntry} {l : List (κ × α)} (h : es.map (fun e => (e.key, e.val)) = l.map (fun p => (ke p.1, ve p.2))) :
    (Instr.findKey T (ke k) es).run P w = .ok ((findIx l k 0).map fun p => (p.1, ve p.2)) w := by
  obtain ⟨d, hd, hn⟩ := hk.now
  simp only [Instr.findKey, Sem.run_bind, run_und hd, Result.andThen_ok]
  rcases hn with hn | hn
  · rw [findNow_some hk hn k es l 0 h]; rfl
  · rw [findNow_none hn k es l 0 h]
    cases l with
    | nil => rfl
    | cons p l => exact run_findAsking hk k w es (p :: l) 0 h
end
/-- A map, whole: what it holds, in the order in which it was laid. -/
def Mp {κ α : Type} (ke : κ → Value) (ve : α → Value) (b : Nat) (l : List (κ × α)) : HP := fun H => (l.map (·.1)).Nodup ∧ ∃ es clock, H b = some (.map es clock) ∧
  es.toList.map (fun e => (e.key, e.val)) = l.map (fun p => (ke p.1, ve p.2)) ∧ (∀ e ∈ es.toList, e.born < clock) ∧ (es.toList.map (·.born)).Nodup
theorem Mp.at {κ α : Type} {ke : κ → Value} {ve : α → Value} {b : Nat} {l : List (κ × α)} {w0 w : World} {L : List HP} (h : Sat w0 w (Mp ke ve b l :: L)) : (l.map (·.1)).Nodup ∧ ∃ es clock, w.heap[b]? = some (.map es clock) ∧
  es.toList.map (fun e => (e.key, e.val)) = l.map (fun p => (ke p.1, ve p.2)) ∧ (∀ e ∈ es.toList, e.born < clock) ∧ (es.toList.map (·.born)).Nodup := by
  obtain ⟨H1, ⟨hn, es, clock, hb, hr⟩, hle⟩ := h.atom
  exact ⟨hn, es, clock, hle _ _ hb, hr⟩
theorem Mp.nodup {κ α : Type} {ke : κ → Value} {ve : α → Value} {b : Nat} {l : List (κ × α)} : ∀ H, Mp ke ve b l H → (l.map (·.1)).Nodup := fun _ h => h.1
theorem Sat.turn1 {w0 w w' : World} {A B : HP} {L : List HP} {b : Nat} {o' : Obj} (h : Sat w0 w (A :: L)) (hA : ∀ H, A H → H b ≠ none) (h1 : w'.os = w.os) (h2 : w'.tape = w.tape) (h3 : w'.output = w.output)
    (hb : w'.heap[b]? = some o') (hk : ∀ k, k ≠ b → w'.heap[k]? = w.heap[k]?) (hB : ∀ H, A H → B (fun k => if k = b then some o' else H k)) : Sat w0 w' (B :: L) := by
  refine h.turn h1 h2 h3 fun H1 hA1 hle => ⟨fun k => if k = b then some o' else H1 k, hB H1 hA1, fun k o ho => ?_, fun k hne => ?_, fun k hn hne => ?_⟩
  · by_cases e : k = b
    · subst e; simp at ho; rw [← ho]; exact hb
    · simp [e] at ho; rw [hk k e]; exact hle k o ho
  · by_cases e : k = b
    · left; rw [e]; exact hA H1 hA1
    · simp [e] at hne; exact .inl hne
  · have e : k ≠ b := by rintro rfl; exact hA H1 hA1 hn
    exact hk k e
section
variable {P : Program} {w0 : World} {n : Nat} {Q : Exit → Act → World → Prop} {k : List KI} {e : Env} {L R : List HP} {all : Array Oper} {rest : List Oper} {ty : TypeId} {pos : String} {aft : Array Edge} {d : Nat}
variable {κ α : Type} [DecidableEq κ] {ke : κ → Value} {ve : α → Value}
theorem run_getMap {w : World} {b : Nat} {es : Array MapEntry} {clock : Nat} (h : w.heap[b]? = some (.map es clock)) : (getObj b).run P w = .ok (.map es clock) w := by
  simp only [getObj, Sem.run, h]
theorem run_setMap {w : World} {b : Nat} {es : Array MapEntry} {clock : Nat} (h : w.heap[b]? = some (.map es clock)) (o : Obj) : (setObj b o).run P w = .ok () { w with heap := w.heap.setIfInBounds b o } := by
  simp only [setObj, Sem.run, h]
theorem rv_lookup {T K el s by' : Nat} {x ix : Operand} {b : Nat} {l : List (κ × α)} {z : Value} (kk : κ) (d0 : α) [hu : TU P T (.map K el)] [hi : TI P el z s by'] (hx : ev e x = some (.map (some b)) := by rfl)
    (hf : Find L (Mp ke ve b l) R := by repeat (first | exact Find.here | apply Find.there)) (hk : ev e ix = some (ke kk) := by rfl) (ht : TK P K ke := by infer_instance) (hz : z = ve d0 := by rfl) : RV P w0 (.lookup T x ix false) ty e L (ve ((lk l kk).getD d0)) := fun tm w pos aft h2 h3 => by
  obtain ⟨_, es, clock, hb, hes, _⟩ := Mp.at (h3.find hf)
  have h4 : (underlying T).run P w = .ok (.map K el) w := run_und hu.out
  have h5 := run_findKey ht kk w hes
  simp only [execOp, ev_sound h2 hx, ev_sound h2 hk, Instr.lookup, Sem.run_bind, h4, Result.andThen_ok, run_getMap hb, Sem.run_pure, ht.check, h5]
  rw [← findIx_lk l kk 0]
  cases findIx l kk 0 with
  | none => simp [run_zero hi, hz]
  | some p => simp
theorem rv_lookup2 {T K el s by' : Nat} {x ix : Operand} {b : Nat} {l : List (κ × α)} {z : Value} (kk : κ) (d0 : α) [hu : TU P T (.map K el)] [hi : TI P el z s by'] (hx : ev e x = some (.map (some b)) := by rfl)
    (hf : Find L (Mp ke ve b l) R := by repeat (first | exact Find.here | apply Find.there)) (hk : ev e ix = some (ke kk) := by rfl) (ht : TK P K ke := by infer_instance) (hz : z = ve d0 := by rfl) : RV P w0 (.lookup T x ix true) ty e L (.tuple #[ve ((lk l kk).getD d0), .bool (lk l kk).isSome]) := fun tm w pos aft h2 h3 => by
  obtain ⟨_, es, clock, hb, hes, _⟩ := Mp.at (h3.find hf)
  have h4 : (underlying T).run P w = .ok (.map K el) w := run_und hu.out
  have h5 := run_findKey ht kk w hes
  simp only [execOp, ev_sound h2 hx, ev_sound h2 hk, Instr.lookup, Sem.run_bind, h4, Result.andThen_ok, run_getMap hb, Sem.run_pure, ht.check, h5]
  rw [← findIx_lk l kk 0]
  cases findIx l kk 0 with
  | none => simp [run_zero hi, hz]
  | some p => simp
theorem rv_len_map {T K el : Nat} {x : Operand} {b : Nat} {l : List (κ × α)} [hu : TU P T (.map K el)] (hx : ev e x = some (.map (some b)) := by rfl)
    (hf : Find L (Mp ke ve b l) R := by repeat (first | exact Find.here | apply Find.there)) : RV P w0 (.call ⟨.builtin .len, #[x], #[T]⟩) ty e L (.int .i64 (l.length : Int)) := fun tm w pos aft h2 h3 => by
  obtain ⟨_, es, clock, hb, hes, _⟩ := Mp.at (h3.find hf)
  have h4 : (underlying T).run P w = .ok (.map K el) w := run_und hu.out
  have h5 : es.size = l.length := by have := congrArg List.length hes; simpa using this
  simp [execOp, resolve, invoke, builtin, Builtin.len_, ev_sound h2 hx, h4, run_getMap hb, goInt, h5]
theorem ins_at (l : List (κ × α)) (kk : κ) (v : α) : ∀ i, match findIx l kk i with
    | some (j, _) => ∃ m, j = i + m ∧ m < l.length ∧ ins l kk v = l.set m (kk, v) ∧ (l.map (·.1))[m]? = some kk
    | none => ins l kk v = l ++ [(kk, v)] := by
  induction l with
  | nil => intro i; simp [findIx, ins]
  | cons p l ih =>
    intro i
    obtain ⟨a, u⟩ := p
    by_cases h : kk = a
    · subst h; simp only [findIx, if_true, ins]; exact ⟨0, by simp⟩
    · simp only [findIx, h, if_false, ins]
      have := ih (i + 1)
      cases hf : findIx l kk (i + 1) with
      | none => rw [hf] at this; simp only at this ⊢; rw [this]; rfl
      | some q =>
        obtain ⟨j, u'⟩ := q
        rw [hf] at this
        obtain ⟨m, h1, h2, h3, h4⟩ := this
        exact ⟨m + 1, by omega, by simpa using h2, by rw [h3]; rfl, by simpa using h4⟩
theorem heap_set_at {w : World} {b : Nat} {o o' : Obj} (h : w.heap[b]? = some o) : (w.heap.setIfInBounds b o')[b]? = some o' := by
  have : b < w.heap.size := (Array.getElem?_eq_some_iff.1 h).1
  simp [this]
theorem mp_update {w : World} {b : Nat} {l : List (κ × α)} {kk : κ} {v : α} {es : Array MapEntry} {clock : Nat} (h3 : Sat w0 w (Mp ke ve b l :: R)) (hb : w.heap[b]? = some (.map es clock)) {es' : Array MapEntry} {clock' : Nat}
    (hes : es'.toList.map (fun e => (e.key, e.val)) = (ins l kk v).map (fun p => (ke p.1, ve p.2))) (h4 : ∀ e ∈ es'.toList, e.born < clock') (h5 : (es'.toList.map (·.born)).Nodup) :
    Sat w0 { w with heap := w.heap.setIfInBounds b (.map es' clock') } (Mp ke ve b (ins l kk v) :: R) := by
  refine Sat.turn1 (o' := .map es' clock') h3 (fun H hH => ?_) rfl rfl rfl (heap_set_at hb) (fun k hk => by simp [Array.getElem?_setIfInBounds_ne (Ne.symm hk)]) (fun H hH => ?_)
  · obtain ⟨_, es, clock, hb, _⟩ := hH; rw [hb]; simp
  · obtain ⟨hn, _⟩ := hH
    exact ⟨nodup_ins hn kk v, es', clock', by simp, hes, h4, h5⟩
theorem dv_mapUpdate {T K el : Nat} {x ix y : Operand} {b : Nat} {l : List (κ × α)} (kk : κ) (v : α) [hu : TU P T (.map K el)] (hx : ev e x = some (.map (some b)) := by rfl)
    (hf : Find L (Mp ke ve b l) R := by repeat (first | exact Find.here | apply Find.there)) (hk : ev e ix = some (ke kk) := by rfl) (hy : ev e y = some (ve v) := by rfl) (ht : TK P K ke := by infer_instance) :
    DV P w0 (.mapUpdate T x ix y) ty e L (fun _ L' => L' = Mp ke ve b (ins l kk v) :: R) := dv_of_skip fun tm w pos aft h2 h3 => by
  have h3' := h3.find hf
  obtain ⟨hn, es, clock, hb, hes, hborn, hbn⟩ := Mp.at h3'
  have h4 : (underlying T).run P w = .ok (.map K el) w := run_und hu.out
  have h5 := run_findKey ht kk w hes
  have hins := ins_at l kk v 0
  have hsz : es.size = l.length := by have := congrArg List.length hes; simpa using this
  cases hfi : findIx l kk 0 with
  | none =>
    rw [hfi] at hins h5
    refine ⟨_, _, ?_, rfl, mp_update (kk := kk) (v := v) h3' hb (es' := es.push { key := ke kk, val := ve v, born := clock }) (clock' := clock + 1) ?_ ?_ ?_⟩
    · simp [execOp, Instr.mapUpdate, ev_sound h2 hx, ev_sound h2 hk, ev_sound h2 hy, h4, run_getMap hb, ht.check, h5, run_setMap hb]
    · simp only at hins; rw [hins]; simp [hes]
    · intro en hen
      simp at hen
      rcases hen with h | rfl
      · have := hborn en (by simpa using h); omega
      · simp
    · simp only [Array.toList_push, List.map_append, List.map_cons, List.map_nil]
      rw [List.nodup_append]
      refine ⟨hbn, by simp, ?_⟩
      intro a ha c hc
      simp at hc; subst hc
      obtain ⟨en, hen, rfl⟩ := List.mem_map.1 ha
      have := hborn en hen
      omega
  | some p =>
    obtain ⟨j, u⟩ := p
    rw [hfi] at hins h5
    obtain ⟨m, hjm, hm, hins, hkm⟩ := hins
    obtain rfl : j = m := by omega
    have hjs : j < es.size := by omega
    have hkey : es[j].key = ke kk := by
      have h6 : (es.toList.map (fun e => (e.key, e.val)))[j]? = (l.map (fun p => (ke p.1, ve p.2)))[j]? := by rw [hes]
      have h7 : (l.map (·.1))[j]? = some kk := hkm
      simp only [List.getElem?_map] at h6 h7
      cases hl : l[j]? with
      | none => rw [hl] at h7; simp at h7
      | some q =>
        rw [hl] at h6 h7
        simp [hjs] at h6 h7
        rw [h6.1, h7]
    refine ⟨_, _, ?_, rfl, mp_update (kk := kk) (v := v) h3' hb (es' := es.modify j fun e => { e with key := ke kk, val := ve v }) (clock' := clock) ?_ ?_ ?_⟩
    · have hstay : (Instr.keyThatStays (ke kk) (ke kk)).run P w = .ok (ke kk) w := by simp [Instr.keyThatStays, ht.bits]
      simp [execOp, Instr.mapUpdate, ev_sound h2 hx, ev_sound h2 hk, ev_sound h2 hy, h4, run_getMap hb, ht.check, h5, run_setMap hb, hjs, hkey, hstay]
    · rw [hins]
      apply List.ext_getElem?
      intro i
      have h6 : (es.toList.map (fun e => (e.key, e.val)))[i]? = (l.map (fun p => (ke p.1, ve p.2)))[i]? := by rw [hes]
      simp only [List.getElem?_map, Array.toList_modify, List.getElem?_modify, List.getElem?_set, Array.getElem?_toList] at h6 ⊢
      by_cases hij : j = i
      · subst hij; simp [hjs, hm]
      · simp only [hij, if_false, h6]
        cases h : es[i]? <;> simp [h] at h6 ⊢ <;> exact h6
    · intro en hen
      obtain ⟨i, hi, hie⟩ := List.getElem_of_mem hen
      simp only [Array.toList_modify] at hie hi
      rw [List.getElem_modify] at hie
      have hi' : i < es.toList.length := by simpa using hi
      have := hborn es.toList[i] (List.getElem_mem hi')
      split at hie <;> (rw [← hie]; exact this)
    · have : (es.modify j fun e => { e with key := ke kk, val := ve v }).toList.map (·.born) = es.toList.map (·.born) := by
        apply List.ext_getElem?
        intro i
        simp only [List.getElem?_map, Array.toList_modify, List.getElem?_modify]
        by_cases hij : j = i
        · subst hij; simp [hjs]
        · simp [hij]
      rw [this]; exact hbn
theorem del_at (l : List (κ × α)) (kk : κ) : ∀ i, match findIx l kk i with
    | some (j, _) => ∃ m, j = i + m ∧ m < l.length ∧ del l kk = l.eraseIdx m
    | none => del l kk = l := by
  induction l with
  | nil => intro i; simp [findIx, del]
  | cons p l ih =>
    intro i
    obtain ⟨a, u⟩ := p
    by_cases h : kk = a
    · subst h; simp only [findIx, if_true, del]; exact ⟨0, by simp⟩
    · simp only [findIx, h, if_false, del]
      have := ih (i + 1)
      cases hf : findIx l kk (i + 1) with
      | none => rw [hf] at this; simp only at this ⊢; rw [this]
      | some q =>
        obtain ⟨j, u'⟩ := q
        rw [hf] at this
        obtain ⟨m, h1, h2, h3⟩ := this
        exact ⟨m + 1, by omega, by simpa using h2, by rw [h3]; rfl⟩
theorem dv_delete {T T' K el : Nat} {x ix : Operand} {b : Nat} {l : List (κ × α)} (kk : κ) [hu : TU P T (.map K el)] (hx : ev e x = some (.map (some b)) := by rfl)
    (hf : Find L (Mp ke ve b l) R := by repeat (first | exact Find.here | apply Find.there)) (hk : ev e ix = some (ke kk) := by rfl) (ht : TK P K ke := by infer_instance) :
    DV P w0 (.call ⟨.builtin .delete, #[x, ix], #[T, T']⟩) ty e L (fun _ L' => L' = Mp ke ve b (del l kk) :: R) := dv_of_run fun tm w pos aft h2 h3 => by
  have h3' := h3.find hf
  obtain ⟨hn, es, clock, hb, hes, hborn, hbn⟩ := Mp.at h3'
  have h4 : (underlying T).run P w = .ok (.map K el) w := run_und hu.out
  have h5 := run_findKey ht kk w hes
  have hdel := del_at l kk 0
  have hsz : es.size = l.length := by have := congrArg List.length hes; simpa using this
  have key : ∀ es' : Array MapEntry, es'.toList.map (fun e => (e.key, e.val)) = (del l kk).map (fun p => (ke p.1, ve p.2)) → es'.toList.Sublist es.toList →
      Sat w0 { w with heap := w.heap.setIfInBounds b (.map es' clock) } (Mp ke ve b (del l kk) :: R) := by
    intro es' he hsub
    refine Sat.turn1 (o' := .map es' clock) h3' (fun H hH => ?_) rfl rfl rfl (heap_set_at hb) (fun k hk => by simp [Array.getElem?_setIfInBounds_ne (Ne.symm hk)]) (fun H hH => ?_)
    · obtain ⟨_, es, clock, hb, _⟩ := hH; rw [hb]; simp
    · exact ⟨nodup_del hn kk, es', clock, by simp, he, fun en hen => hborn en (hsub.subset hen), (hsub.map _).nodup hbn⟩
  cases hfi : findIx l kk 0 with
  | none =>
    rw [hfi] at hdel h5
    refine ⟨.tuple #[], _, _, ?_, rfl, key es ?_ (List.Sublist.refl _)⟩
    · simp [execOp, resolve, invoke, builtin, Builtin.delete_, ev_sound h2 hx, ev_sound h2 hk, h4, run_getMap hb, ht.check, h5, run_setMap hb]
    · simp only at hdel; rw [hdel]; exact hes
  | some p =>
    obtain ⟨j, u⟩ := p
    rw [hfi] at hdel h5
    obtain ⟨m, hjm, hm, hdel⟩ := hdel
    obtain rfl : j = m := by omega
    have hjs : j < es.size := by omega
    refine ⟨.tuple #[], _, _, ?_, rfl, key (es.eraseIdxIfInBounds j) ?_ ?_⟩
    · simp [execOp, resolve, invoke, builtin, Builtin.delete_, ev_sound h2 hx, ev_sound h2 hk, h4, run_getMap hb, ht.check, h5, run_setMap hb]
    · rw [hdel]
      simp only [Array.eraseIdxIfInBounds, hjs, dif_pos, Array.toList_eraseIdx]
      have he : ∀ {β γ : Type} (f : β → γ) (l : List β) (i : Nat), (l.eraseIdx i).map f = (l.map f).eraseIdx i := by
        intro β γ f l
        induction l with
        | nil => intro i; rfl
        | cons a l ih => intro i; cases i <;> simp [ih]
      rw [he, he, hes]
    · simp only [Array.eraseIdxIfInBounds, hjs, dif_pos, Array.toList_eraseIdx]
      exact List.eraseIdx_sublist _ _
theorem dv_makeMap {T : Nat} (ke : κ → Value) (ve : α → Value) : DV P w0 (.makeMap T none) ty e L (fun v L' => ∃ b, v = .map (some b) ∧ L' = Mp ke ve b [] :: L) := dv_of_run fun tm w pos aft h2 h3 => by
  refine ⟨.map (some w.heap.size), w.alloc (.map #[] 0), _, by simp [execOp, Instr.makeMap], ⟨_, rfl, rfl⟩, ?_⟩
  refine (h3.alloc (o := .map #[] 0)).map fun _ => SL.head fun H hH => ?_
  exact ⟨by simp, #[], 0, hH, by simp, by simp, by simp⟩
end
end Go.Proofs.Yteobjankkcdaoaa.Sep
