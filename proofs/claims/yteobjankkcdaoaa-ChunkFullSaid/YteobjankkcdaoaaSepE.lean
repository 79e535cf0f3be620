import Derived.Test.YteobjankkcdaoaaSepD
namespace Go.Proofs.Yteobjankkcdaoaa.Sep
open Go.RowKit
set_option linter.unusedSimpArgs false
set_option linter.unusedVariables false

theorem foldl_set_list : ∀ (l : List Value) (off i : Nat) (cells : List Value), off + i + l.length ≤ cells.length →
    (l.zipIdx i).foldl (fun cs (p : Value × Nat) => cs.set (off + p.2) p.1) cells = cells.take (off + i) ++ l ++ cells.drop (off + i + l.length) := by
  intro l
  induction l with
  | nil => intro off i cells h; simp
  | cons v l ih =>
    intro off i cells h
    simp only [List.length_cons] at h
    rw [List.zipIdx_cons, List.foldl_cons, ih off (i + 1) _ (by simp; omega)]
    have h1 : off + (i + 1) = (off + i) + 1 := by omega
    rw [h1, List.take_set, List.drop_set_of_lt (by omega)]
    have h2 : (cells.take (off + i + 1)).set (off + i) v = cells.take (off + i) ++ [v] := by
      rw [List.take_succ_eq_append_getElem (by omega), List.set_append_right _ _ (by simp; omega)]
      simp [show min (off + i) cells.length = off + i from by omega]
    rw [h2, show off + i + 1 + l.length = off + i + (l.length + 1) from by omega]
    simp [List.append_assoc]
theorem foldl_set_arr (vs cells : Array Value) (off : Nat) (h : off + vs.size ≤ cells.size) :
    vs.zipIdx.foldl (fun cs (p : Value × Nat) => cs.setIfInBounds (off + p.2) p.1) cells = (cells.toList.take off ++ vs.toList ++ cells.toList.drop (off + vs.size)).toArray := by
  have key : ∀ (l : List (Value × Nat)) (cs : Array Value), l.foldl (fun cs (p : Value × Nat) => cs.setIfInBounds (off + p.2) p.1) cs = (l.foldl (fun cs (p : Value × Nat) => cs.set (off + p.2) p.1) cs.toList).toArray := by
    intro l
    induction l with
    | nil => intro cs; simp
    | cons p l ih => intro cs; simp [ih]
  rw [← Array.foldl_toList, key, Array.toList_zipIdx, foldl_set_list _ off 0 _ (by simpa using h)]
  simp
theorem fill_seq (s : Nat) : ∀ (vs : List Value) (k : Nat) (cells : Array Value), (∀ v ∈ vs, v.cells.size = s) → (k + vs.length) * s ≤ cells.size →
    Instr.fill (fun i => some (i * s, s)) cells ((List.range' k vs.length).zip vs) = some (cells.toList.take (k * s) ++ vs.flatMap (·.cells.toList) ++ cells.toList.drop ((k + vs.length) * s)).toArray := by
  intro vs
  induction vs with
  | nil => intro k cells _ _; simp [Instr.fill]
  | cons v vs ih =>
    intro k cells hv hl
    have h1 := hv v (by simp)
    simp only [List.length_cons] at hl
    have e1 : (k + (vs.length + 1)) * s = k * s + s + vs.length * s := by rw [Nat.add_mul, Nat.add_mul]; omega
    rw [List.length_cons, List.range'_succ, List.zip_cons_cons]
    simp only [Instr.fill, h1]
    rw [if_neg (by simp; omega)]
    have hfs := foldl_set_arr v.cells cells (k * s) (by rw [h1]; omega)
    rw [h1] at hfs
    rw [hfs, ih (k + 1) _ (fun u hu => hv u (by simp [hu])) (by
      have : (k + 1 + vs.length) * s = k * s + s + vs.length * s := by rw [Nat.add_mul, Nat.add_mul]; omega
      simp [h1]; omega)]
    congr 1
    apply Array.ext'
    have e2 : (k + 1) * s = k * s + s := by rw [Nat.add_mul]; omega
    have e3 : (k + 1 + vs.length) * s = k * s + s + vs.length * s := by rw [Nat.add_mul, Nat.add_mul]; omega
    have e4 : (cells.toList.take (k * s) ++ v.cells.toList).length = k * s + s := by simp [h1]; omega
    simp only [List.flatMap_cons]
    rw [e2, e3, e1, List.take_left' e4, ← List.drop_drop (i := vs.length * s) (j := k * s + s), List.drop_left' e4, List.drop_drop]
    simp [List.append_assoc]
section
variable {P : Program} {w0 : World} {n : Nat} {Q : Exit → Act → World → Prop} {k : List KI} {e : Env} {L R : List HP} {all : Array Oper} {rest : List Oper} {ty : TypeId} {pos : String} {aft : Array Edge} {d : Nat}
variable {α : Type} {E' : E α}
theorem sat_newSl {w : World} {xs : List α} {T : TypeId} {row : Array Value} (h3 : Sat w0 w L) (hr : row.toList = flat E' xs) : Sat w0 (w.alloc (.cells row T)) (Sl E' (some ⟨w.heap.size, 0, none⟩) xs.length xs :: L) :=
  (h3.alloc (o := .cells row T)).map fun _ => SL.head fun H hH => ⟨Nat.le_refl _, rfl, row, T, hH, [], [], by simp [hr], rfl, by simp⟩
/-- A slice that is written out. -/
theorem dv_lit {T el len s by' : Nat} {parts : Array (Nat × Operand)} {z : Value} {vs : List Value} [hu : TU P T (.slice el)] [hi : TI P el z s by'] (xs : List α) (hp : parts.toList.map (·.1) = List.range' 0 len := by rfl)
    (hv : evl e (parts.toList.map (·.2)) = some vs := by rfl) (hx : vs = xs.map E'.val := by rfl) (hs : E'.sz = s := by rfl) (hz : z.cells.size = s := by rfl) (hlen : xs.length = len := by rfl) (hb : len * s ≤ 16777216 := by exact Nat.le_of_ble_eq_true rfl) :
    DV P w0 (.buildSlice T len parts) ty e L (fun v' L' => ∃ b, v' = .slice (some ⟨b, 0, none⟩) xs.length xs.length ∧ L' = Sl E' (some ⟨b, 0, none⟩) xs.length xs :: L) := by
  refine dv_of_run ?_
  intro tm w pos aft h2 h3
  have hparts : parts.toList.map (fun x => (x.fst, (Act.mk tm []).eval x.snd)) = (List.range' 0 vs.length).zip vs := by
    have h4 := evl_sound (ds := []) h2 hv
    have hl : vs.length = len := by rw [hx, List.length_map, hlen]
    rw [hl, ← hp, ← h4]
    generalize parts.toList = l
    induction l with
    | nil => rfl
    | cons p l ih => simp [ih]
  have hcs : ∀ v ∈ vs, v.cells.size = s := by
    rw [hx]; intro v hv
    obtain ⟨x, _, rfl⟩ := List.mem_map.1 hv
    rw [E.val_cells]; simp [E'.len, hs]
  have hl : vs.length = len := by rw [hx, List.length_map, hlen]
  have hflat : vs.flatMap (·.cells.toList) = flat E' xs := by
    rw [hx]; unfold flat
    rw [List.flatMap_map]
    congr 1; funext x; rw [E.val_cells]
  have hsz : (flat E' xs).length = len * s := by rw [flat_length, hs, hlen]
  have hfill : ∀ cells : Array Value, cells.size = len * s → Instr.fill (fun i => some (i * s, s)) cells ((List.range' 0 vs.length).zip vs) = some (flat E' xs).toArray := by
    intro cells hc
    rw [fill_seq s vs 0 cells hcs (by rw [hl, hc, Nat.zero_add]; exact Nat.le_refl _), hflat]
    congr 1
    apply Array.ext'
    simp only [Nat.zero_mul, List.take_zero, List.nil_append, hl, Nat.zero_add]
    rw [List.drop_of_length_le (by simp [hc]), List.append_nil]
  refine ⟨_, w.alloc (.cells (flat E' xs).toArray el), _, ?_, ⟨w.heap.size, rfl, rfl⟩, sat_newSl h3 (by simp)⟩
  have hus : (underlying T).run P w = .ok (.slice el) w := run_und hu.out
  have hb' : ¬ 16777216 < len * s := by omega
  by_cases h0 : len * s = 0
  · have := hfill (Array.map (fun _ => default) (Array.range 0)) (by simp [h0])
    simp [execOp, Instr.buildSlice, hus, run_size hi, h0, hparts, newRow, this, hlen]
  · have := hfill ((Array.range (len * s)).map (z.cells[· % z.cells.size]!)) (by simp)
    simp only [execOp, Instr.buildSlice, Sem.run_bind, hus, Result.andThen_ok, run_size hi]
    rw [if_neg hb']
    simp only [Sem.run_bind, Sem.run_pure, Result.andThen_ok]
    rw [if_neg h0]
    simp only [Sem.run_bind, run_zero hi, Sem.run_pure, Result.andThen_ok]
    have hp2 : (Array.map (fun x : Nat × Operand => match x with | (i, x) => (i, (Act.mk tm []).eval x)) parts).toList = (List.range' 0 vs.length).zip vs := by rw [Array.toList_map]; exact hparts
    rw [hp2, this]
    simp [hlen, newRow]
theorem XO_lit {T el len s by' : Nat} {parts : Array (Nat × Operand)} {z : Value} {vs : List Value} [hu : TU P T (.slice el)] [hi : TI P el z s by'] (xs : List α) (hp : parts.toList.map (·.1) = List.range' 0 len := by rfl)
    (hv : evl e (parts.toList.map (·.2)) = some vs := by rfl) (hx : vs = xs.map E'.val := by rfl) (hs : E'.sz = s := by rfl) (hz : z.cells.size = s := by rfl) (hlen : xs.length = len := by rfl) (hb : len * s ≤ 16777216 := by exact Nat.le_of_ble_eq_true rfl) (hd : d < n := by exact Nat.le_of_ble_eq_true rfl)
    (hk : ∀ b, XO ⟨P, w0, n, Q⟩ all k rest ((d, .slice (some ⟨b, 0, none⟩) xs.length xs.length) :: e) (Sl E' (some ⟨b, 0, none⟩) xs.length xs :: L)) : XO ⟨P, w0, n, Q⟩ all k (⟨some d, .buildSlice T len parts, ty, pos, aft, none⟩ :: rest) e L :=
  XO_dv (dv_lit xs hp hv hx hs hz hlen hb) hd (by rintro _ _ ⟨b, rfl, rfl⟩; exact hk b)
/-- A nil slice needs no memory. -/
theorem SL_nilSl {β : Type} (E' : E β) {L : List HP} {H : PH} (h : SL L H) : SL (Sl E' none 0 [] :: L) H :=
  ⟨fun _ => none, H, fun _ => .inl rfl, fun _ => by simp, ⟨rfl, rfl⟩, h⟩
end
end Go.Proofs.Yteobjankkcdaoaa.Sep
