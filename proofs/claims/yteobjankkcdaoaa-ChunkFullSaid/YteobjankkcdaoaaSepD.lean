import Derived.Test.YteobjankkcdaoaaSepC
import Derived.Deep.AppendSrc
import Derived.Laws.CopyRow
namespace Go.Proofs.Yteobjankkcdaoaa.Sep
open Go.RowKit
set_option linter.unusedSimpArgs false
set_option linter.unusedVariables false

/-! ### things in cells -/
structure E (α : Type) where
  sz : Nat
  agg : Bool
  cells : α → List Value
  len : ∀ x, (cells x).length = sz
  one : ∀ x v, v ∈ cells x → v.oneCell' = true
  pos : 0 < sz
  sole : agg = false → sz = 1
def E.val {α : Type} (e : E α) (x : α) : Value := if e.agg then .agg (e.cells x).toArray else (e.cells x).headD undef
def eI (k : IntKind) : E Int := ⟨1, false, fun n => [.int k n], fun _ => rfl, fun _ _ h => by simp at h; subst h; rfl, by decide, fun _ => rfl⟩
def eB : E Bool := ⟨1, false, fun b => [.bool b], fun _ => rfl, fun _ _ h => by simp at h; subst h; rfl, by decide, fun _ => rfl⟩
theorem E.val_cells {α : Type} (e : E α) (x : α) : (e.val x).cells = (e.cells x).toArray := by
  unfold E.val
  cases h : e.agg
  · have h1 := e.len x
    rw [e.sole h] at h1
    obtain ⟨v, hv⟩ := List.length_eq_one_iff.1 h1
    have := e.one x v (by rw [hv]; simp)
    rw [hv]
    cases v <;> first | rfl | (simp [Value.oneCell'] at this)
  · rfl
def flat {α : Type} (e : E α) (xs : List α) : List Value := xs.flatMap e.cells
section
variable {α : Type} (e : E α)
@[simp] theorem flat_nil : flat e ([] : List α) = [] := rfl
@[simp] theorem flat_cons (x : α) (xs : List α) : flat e (x :: xs) = e.cells x ++ flat e xs := rfl
theorem flat_append (xs ys : List α) : flat e (xs ++ ys) = flat e xs ++ flat e ys := by simp [flat]
theorem flat_length (xs : List α) : (flat e xs).length = xs.length * e.sz := by
  induction xs with
  | nil => simp
  | cons x xs ih => simp [ih, e.len, Nat.add_mul, Nat.add_comm]
theorem flat_get : ∀ {xs : List α} {i j : Nat} {x : α}, xs[i]? = some x → j < e.sz → (flat e xs)[i * e.sz + j]? = (e.cells x)[j]? := by
  intro xs
  induction xs with
  | nil => intro i j x h; simp at h
  | cons y xs ih =>
    intro i j x h hj
    cases i with
    | zero =>
      simp at h; subst h
      rw [flat_cons, Nat.zero_mul, Nat.zero_add, List.getElem?_append_left (by rw [e.len]; exact hj)]
    | succ i =>
      simp at h
      have : (i + 1) * e.sz + j = e.sz + (i * e.sz + j) := by rw [Nat.add_mul]; omega
      rw [flat_cons, this, List.getElem?_append_right (by rw [e.len]; omega), e.len, Nat.add_sub_cancel_left]
      exact ih h hj
theorem flat_one (xs : List α) : ∀ v ∈ flat e xs, v.oneCell' = true := by
  intro v hv
  obtain ⟨x, _, h⟩ := List.mem_flatMap.1 hv
  exact e.one x v h
theorem flat_set : ∀ (xs : List α) (i : Nat) (y : α), i < xs.length → flat e (xs.set i y) = (flat e xs).take (i * e.sz) ++ e.cells y ++ (flat e xs).drop (i * e.sz + e.sz) := by
  intro xs
  induction xs with
  | nil => intro i y h; simp at h
  | cons x xs ih =>
    intro i y h
    cases i with
    | zero => simp [List.drop_append, e.len]
    | succ i =>
      have h1 := ih i y (by simpa using h)
      have h2 : (i + 1) * e.sz = e.sz + i * e.sz := by rw [Nat.add_mul]; omega
      rw [List.set_cons_succ, flat_cons, h1, flat_cons, h2]
      rw [List.take_append, List.drop_append, e.len]
      rw [List.take_of_length_le (l := e.cells x) (by rw [e.len]; omega), List.drop_of_length_le (l := e.cells x) (by rw [e.len]; omega)]
      rw [show e.sz + i * e.sz - e.sz = i * e.sz from by omega, show e.sz + i * e.sz + e.sz - e.sz = i * e.sz + e.sz from by omega]
      simp [List.append_assoc]
end
/-- A slice that owns its array: its length is that of the list. -/
def Sl {α : Type} (e : E α) (a : Option Addr) (c : Nat) (xs : List α) : HP := fun H =>
  match a with
  | none => xs = [] ∧ c = 0
  | some ad => xs.length ≤ c ∧ ad.spot = none ∧ ∃ row T, H ad.block = some (.cells row T (0, 0)) ∧ ∃ pre post, row.toList = pre ++ flat e xs ++ post ∧ pre.length = ad.off ∧ post.length = (c - xs.length) * e.sz
/-- Cells that may be read, whoever has them. -/
def View {α : Type} (A : HP) (e : E α) (a : Option Addr) (xs : List α) : Prop :=
  ∀ H, A H → xs = [] ∨ ∃ ad, a = some ad ∧ ad.spot = none ∧ ∃ row T fr, H ad.block = some (.cells row T fr) ∧ ∀ j v, (flat e xs)[j]? = some v → row[ad.off + j]? = some v
theorem Sl.view {α : Type} {e : E α} {a : Option Addr} {c : Nat} {xs : List α} : View (Sl e a c xs) e a xs := by
  intro H h
  cases a with
  | none => exact .inl h.1
  | some ad =>
    obtain ⟨hc, hs, row, T, hb, pre, post, hr, hp, hq⟩ := h
    refine .inr ⟨ad, rfl, hs, row, T, (0, 0), hb, fun j v hj => ?_⟩
    have hlt : j < (flat e xs).length := (List.getElem?_eq_some_iff.1 hj).1
    rw [← Array.getElem?_toList, hr, List.append_assoc, List.getElem?_append_right (by omega), hp, Nat.add_sub_cancel_left, List.getElem?_append_left hlt]
    exact hj
section
variable {P : Program} {w0 : World} {n : Nat} {Q : Exit → Act → World → Prop} {k : List KI} {e : Env} {L R : List HP} {all : Array Oper} {rest : List Oper} {ty : TypeId} {pos : String} {aft : Array Edge} {d : Nat}
variable {α : Type} {E' : E α}
/-- Whoever has elements has an array. -/
theorem XO_slopen {a : Option Addr} {c : Nat} {xs : List α} (hf : Find L (Sl E' a c xs) R) (hp : 0 < xs.length) (h : ∀ b o, a = some ⟨b, o, none⟩ → XO ⟨P, w0, n, Q⟩ all k rest e L) : XO ⟨P, w0, n, Q⟩ all k rest e L := by
  unfold XO at *
  intro tm w h1 h2 h3
  obtain ⟨H1, hA, _⟩ := (h3.find hf).atom
  cases a with
  | none => obtain ⟨rfl, _⟩ := hA; simp at hp
  | some ad =>
    obtain ⟨b, o, sp⟩ := ad
    obtain ⟨_, hs, _⟩ := hA
    simp only at hs
    subst hs
    exact h b o rfl tm w h1 h2 h3
theorem X_slopen {k : List KI} {code : Code} {e : Env} {a : Option Addr} {c : Nat} {xs : List α} (hf : Find L (Sl E' a c xs) R) (hp : 0 < xs.length) (h : ∀ b o, a = some ⟨b, o, none⟩ → X ⟨P, w0, n, Q⟩ k code e L) : X ⟨P, w0, n, Q⟩ k code e L := by
  unfold X at *
  intro tm w h1 h2 h3
  obtain ⟨H1, hA, _⟩ := (h3.find hf).atom
  cases a with
  | none => obtain ⟨rfl, _⟩ := hA; simp at hp
  | some ad =>
    obtain ⟨b, o, sp⟩ := ad
    obtain ⟨_, hs, _⟩ := hA
    simp only at hs
    subst hs
    exact h b o rfl tm w h1 h2 h3
theorem pv_index {T el s by' : Nat} {x i : Operand} {z : Value} {b o m c : Nat} {kk : IntKind} {iv : Int} [hu : TU P T (.slice el)] [hi : TI P el z s by'] (hx : ev e x = some (.slice (some ⟨b, o, none⟩) m c) := by rfl) (hiv : ev e i = some (.int kk iv) := by rfl)
    (h0 : 0 ≤ iv := by omega) (h1 : iv < (m : Int) := by omega) : PV P (.indexAddr T x i) ty e (.pointer (some ⟨b, o + iv.toNat * s, none⟩)) :=
  fun tm w pos aft h => by
    have h2 : (underlying T).run P w = .ok (.slice el) w := run_und hu.out
    have h3 : (Addr.mk b o none).add (iv.toNat * s) = ⟨b, o + iv.toNat * s, none⟩ := by unfold Addr.add; split <;> simp_all
    simp [execOp, Instr.indexAt, ev_sound h hx, ev_sound h hiv, asIntOf, h2, h0, h1, run_size hi, h3]
theorem run_loadAt1 {w : World} {T : TypeId} {dd : TypeDesc} (hu : P.underlying T = some dd) (hg : aggD dd = false) {b o : Nat} {v : Value} (hc : w.cell? ⟨b, o, none⟩ = some v) : (Instr.loadAt T (.pointer (some ⟨b, o, none⟩))).run P w = .ok v w := by
  simp [Instr.loadAt, Instr.sureAddr, loadVar, run_isAgg hu, hg, hc]
theorem run_loadAtA {w : World} {T : TypeId} {dd : TypeDesc} {z : Value} {s by' : Nat} (hu : P.underlying T = some dd) (hg : aggD dd = true) (hi : TI P T z s by') {b o : Nat} {vs : List Value} (hl : vs.length = s) (hc : ∀ j v, vs[j]? = some v → w.cell? ⟨b, o + j, none⟩ = some v) :
    (Instr.loadAt T (.pointer (some ⟨b, o, none⟩))).run P w = .ok (.agg vs.toArray) w := by
  have h1 := run_loadCells_list (P := P) w ⟨b, o, none⟩ vs (fun j v h => by rw [show (⟨b, o, none⟩ : Addr).add j = ⟨b, o + j, none⟩ from by unfold Addr.add; split <;> simp_all]; exact hc j v h)
  simp [Instr.loadAt, Instr.sureAddr, loadVar, run_isAgg hu, hg, run_size hi, ← hl, h1]
/-- A cell is known by an assertion. -/
def Holds (A : HP) (b o : Nat) (vs : List Value) : Prop := ∀ H, A H → ∃ row T fr, H b = some (.cells row T fr) ∧ ∀ j v, vs[j]? = some v → row[o + j]? = some v
theorem Holds.cell {A : HP} {b o : Nat} {vs : List Value} (h : Holds A b o vs) {w : World} (hs : Sat w0 w (A :: L)) : ∀ j v, vs[j]? = some v → w.cell? ⟨b, o + j, none⟩ = some v := by
  intro j v hv
  obtain ⟨H1, hA, hle⟩ := hs.atom
  obtain ⟨row, T, fr, hb, hr⟩ := h H1 hA
  have := hle b _ hb
  simp [World.cell?, this, hr j v hv]
theorem holds_pt {b o : Nat} {row : List Value} {T : TypeId} {fr : Nat × Nat} {vs : List Value} (h : (row.drop o).take vs.length = vs) : Holds (pt b (.cells row.toArray T fr)) b o vs := by
  intro H hH
  unfold pt at hH
  refine ⟨row.toArray, T, fr, hH, fun j v hj => ?_⟩
  have hlt : j < vs.length := (List.getElem?_eq_some_iff.1 hj).1
  rw [← h, List.getElem?_take_of_lt hlt, List.getElem?_drop] at hj
  simpa using hj
theorem holds_sl {b o c i f : Nat} {xs : List α} {x : α} {vs : List Value} (hx : xs[i]? = some x) (h : ((E'.cells x).drop f).take vs.length = vs) (hv : f + vs.length ≤ E'.sz) : Holds (Sl E' (some ⟨b, o, none⟩) c xs) b (o + i * E'.sz + f) vs := by
  intro H hH
  rcases Sl.view H hH with rfl | ⟨ad, had, _, row, T, fr, hb, hr⟩
  · simp at hx
  obtain rfl : (⟨b, o, none⟩ : Addr) = ad := Option.some.inj had
  refine ⟨row, T, fr, hb, fun j v hj => ?_⟩
  have hlt : j < vs.length := (List.getElem?_eq_some_iff.1 hj).1
  have h2 := flat_get E' hx (j := f + j) (by omega)
  have := hr (i * E'.sz + (f + j)) v (by
    rw [h2, ← List.getElem?_drop, ← List.getElem?_take_of_lt hlt, h]; exact hj)
  rw [show o + i * E'.sz + f + j = o + (i * E'.sz + (f + j)) by omega]
  exact this
theorem rv_load1 {T : TypeId} {x : Operand} {A : HP} {b o : Nat} {v : Value} {dd : TypeDesc} [hu : TU P T dd] (hg : aggD dd = false) (hf : Find L A R) (hx : ev e x = some (.pointer (some ⟨b, o, none⟩))) (hh : Holds A b o [v]) : RV P w0 (.load T x) ty e L v :=
  fun tm w pos aft h2 h3 => by
    have : w.cell? ⟨b, o, none⟩ = some v := hh.cell (h3.find hf) 0 v rfl
    simp [execOp, ev_sound h2 hx, run_loadAt1 hu.out hg this]
theorem rv_loadA {T : TypeId} {x : Operand} {A : HP} {b o : Nat} {vs : List Value} {dd : TypeDesc} {z : Value} {s by' : Nat} [hu : TU P T dd] [hi : TI P T z s by'] (hg : aggD dd = true) (hf : Find L A R) (hx : ev e x = some (.pointer (some ⟨b, o, none⟩))) (hl : vs.length = s) (hh : Holds A b o vs) : RV P w0 (.load T x) ty e L (.agg vs.toArray) :=
  fun tm w pos aft h2 h3 => by
    have := hh.cell (h3.find hf)
    simp [execOp, ev_sound h2 hx, run_loadAtA hu.out hg hi hl this]
theorem rv_load {T : TypeId} {x : Operand} {b o : Nat} {row : List Value} {T' : TypeId} {fr : Nat × Nat} {v : Value} {dd : TypeDesc} [hu : TU P T dd] (hx : ev e x = some (.pointer (some ⟨b, o, none⟩)) := by rfl) (hg : aggD dd = false := by rfl)
    (hf : Find L (pt b (.cells row.toArray T' fr)) R := by repeat (first | exact Find.here | apply Find.there)) (hv : row[o]? = some v := by rfl) : RV P w0 (.load T x) ty e L v := by
  refine rv_load1 hg hf hx (holds_pt ?_)
  have hlt : o < row.length := (List.getElem?_eq_some_iff.1 hv).1
  rw [List.drop_eq_getElem_cons hlt]
  simp [List.getElem?_eq_some_iff.1 hv |>.2]
theorem rv_loadS {T : TypeId} {x : Operand} {b o : Nat} {row vs : List Value} {T' : TypeId} {fr : Nat × Nat} {dd : TypeDesc} {z : Value} {s by' : Nat} [hu : TU P T dd] [hi : TI P T z s by'] (hx : ev e x = some (.pointer (some ⟨b, o, none⟩)) := by rfl) (hg : aggD dd = true := by rfl)
    (hf : Find L (pt b (.cells row.toArray T' fr)) R := by repeat (first | exact Find.here | apply Find.there)) (hv : (row.drop o).take s = vs := by rfl) (hl : vs.length = s := by rfl) : RV P w0 (.load T x) ty e L (.agg vs.toArray) :=
  rv_loadA hg hf hx hl (holds_pt (by rw [hl]; exact hv))
theorem rv_loadW {T : TypeId} {x : Operand} {b : Nat} {row : List Value} {T' : TypeId} {fr : Nat × Nat} {dd : TypeDesc} {z : Value} {s by' : Nat} [hu : TU P T dd] [hi : TI P T z s by'] (hx : ev e x = some (.pointer (some ⟨b, 0, none⟩)) := by rfl) (hg : aggD dd = true := by rfl)
    (hf : Find L (pt b (.cells row.toArray T' fr)) R := by repeat (first | exact Find.here | apply Find.there)) (hl : row.length = s := by rfl) : RV P w0 (.load T x) ty e L (.agg row.toArray) :=
  rv_loadA hg hf hx hl (holds_pt (by simp))
/-- An element of a slice. -/
theorem rv_el {T : TypeId} {x : Operand} {b o c i s : Nat} {xs : List α} {dd : TypeDesc} {z : Value} {s' by' : Nat} [hu : TU P T dd] [hi : TI P T z s' by'] (hf : Find L (Sl E' (some ⟨b, o, none⟩) c xs) R := by repeat (first | exact Find.here | apply Find.there)) (hx : ev e x = some (.pointer (some ⟨b, o + i * s, none⟩)) := by rfl)
    (hg : aggD dd = E'.agg := by rfl) (hs : E'.sz = s := by rfl) (hs' : s' = s := by rfl) (hl : i < xs.length := by omega) : RV P w0 (.load T x) ty e L (E'.val xs[i]) := by
  subst hs hs'
  have hget : xs[i]? = some xs[i] := by simp [hl]
  have hh := holds_sl (E' := E') (b := b) (o := o) (c := c) (f := 0) (vs := E'.cells xs[i]) hget (by simp) (by rw [E'.len]; omega)
  rw [Nat.add_zero] at hh
  cases hag : E'.agg
  · rw [hag] at hg
    have h1 := E'.len xs[i]
    rw [E'.sole hag] at h1
    obtain ⟨v, hv⟩ := List.length_eq_one_iff.1 h1
    rw [hv] at hh
    have : E'.val xs[i] = v := by unfold E.val; rw [hag, hv]; rfl
    rw [this]
    exact rv_load1 hg hf hx hh
  · rw [hag] at hg
    have : E'.val xs[i] = .agg (E'.cells xs[i]).toArray := by unfold E.val; rw [hag]; rfl
    rw [this]
    exact rv_loadA (vs := E'.cells xs[i]) hg hf hx (E'.len _) hh
/-- A field of an element of a slice, of one cell. -/
theorem rv_elf {T : TypeId} {x : Operand} {b o c i s f : Nat} {xs : List α} {v : Value} {dd : TypeDesc} [hu : TU P T dd] (hf : Find L (Sl E' (some ⟨b, o, none⟩) c xs) R := by repeat (first | exact Find.here | apply Find.there)) (hx : ev e x = some (.pointer (some ⟨b, o + i * s + f, none⟩)) := by rfl)
    (hg : aggD dd = false := by rfl) (hs : E'.sz = s := by rfl) (hl : i < xs.length := by omega) (hv : (E'.cells xs[i])[f]? = some v := by rfl) : RV P w0 (.load T x) ty e L v := by
  subst hs
  have hget : xs[i]? = some xs[i] := by simp [hl]
  have hlt : f < (E'.cells xs[i]).length := (List.getElem?_eq_some_iff.1 hv).1
  refine rv_load1 hg hf hx (holds_sl (f := f) (vs := [v]) hget ?_ (by rw [E'.len] at hlt; simp; omega))
  rw [List.drop_eq_getElem_cons hlt]
  simp [List.getElem?_eq_some_iff.1 hv |>.2]
/-- The first field. -/
theorem rv_el0 {T : TypeId} {x : Operand} {b o c i s : Nat} {xs : List α} {v : Value} {dd : TypeDesc} [hu : TU P T dd] (hf : Find L (Sl E' (some ⟨b, o, none⟩) c xs) R := by repeat (first | exact Find.here | apply Find.there)) (hx : ev e x = some (.pointer (some ⟨b, o + i * s, none⟩)) := by rfl)
    (hg : aggD dd = false := by rfl) (hs : E'.sz = s := by rfl) (hl : i < xs.length := by omega) (hv : (E'.cells xs[i])[0]? = some v := by rfl) : RV P w0 (.load T x) ty e L v := rv_elf (f := 0) hf hx hg hs hl hv
/-- The place of a field. -/
theorem pv_field {s f : Nat} {x : Operand} {b o o' : Nat} {fl : List Field} {nm tag pkg : String} {ft fo bo : Nat} {emb : Bool} {z : Value} {sz by' : Nat} [hu : TU P s (.struct fl.toArray)] (hfd : fl[f]? = some ⟨nm, ft, fo, emb, tag, pkg, bo⟩ := by rfl) (hi : TI P ft z sz by' := by infer_instance) (hsz : (sz == 0) = false := by rfl)
    (hx : ev e x = some (.pointer (some ⟨b, o, none⟩)) := by rfl) (ho : o + fo = o' := by first | exact Nat.zero_add _ | exact Nat.add_zero _ | rfl) : PV P (.fieldAddr s x f) ty e (.pointer (some ⟨b, o', none⟩)) := fun tm w pos aft h => by
  have h2 : (underlying s).run P w = .ok (.struct fl.toArray) w := run_und hu.out
  have h3 : (Addr.mk b o none).add fo = ⟨b, o', none⟩ := by unfold Addr.add; split <;> simp_all
  have h4 : sz ≠ 0 := by simpa using hsz
  have h5 : fl.toArray[f]? = some ⟨nm, ft, fo, emb, tag, pkg, bo⟩ := by simpa using hfd
  simp [execOp, Instr.fieldAt, ev_sound h hx, Instr.sureAddr, h2, h5, fieldPlace, run_size hi, h4, h3]
end
end Go.Proofs.Yteobjankkcdaoaa.Sep
