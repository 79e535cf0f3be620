import Derived.Test.YteobjankkcdaoaaRow
namespace Go.Proofs.Yteobjankkcdaoaa.Sep
open Go.ChangeShapes Go.WideShapes Go.ChangeAt Go.RowKit Go.Deep
set_option linter.unusedSimpArgs false
set_option linter.unusedVariables false
/-! arguments that are slices of structs, which may hold structs -/
theorem WfR.length : ∀ {ks : List IntKind} {x : List Int}, WfR ks x → x.length = ks.length
  | [], x, h => by have : x = [] := h; subst this; rfl
  | k :: ks, n :: x, h => by simp [WfR.length h.2]
  | _ :: _, [], h => by cases h
theorem WfR.append : ∀ {k1 k2 : List IntKind} {x y : List Int}, WfR k1 x → WfR k2 y → WfR (k1 ++ k2) (x ++ y)
  | [], k2, x, y, h, h2 => by have : x = [] := h; subst this; exact h2
  | k :: ks, k2, n :: x, y, h, h2 => ⟨h.1, WfR.append h.2 h2⟩
  | _ :: _, _, [], _, h, _ => by cases h
theorem recCells_append : ∀ {k1 k2 : List IntKind} {x y : List Int}, x.length = k1.length → recCells (k1 ++ k2) (x ++ y) = recCells k1 x ++ recCells k2 y
  | [], k2, x, y, h => by have : x = [] := List.length_eq_zero_iff.1 h; subst this; rfl
  | k :: ks, k2, n :: x, y, h => by
    have := recCells_append (k2 := k2) (y := y) (show x.length = ks.length by simpa using h)
    simp only [List.cons_append, recCells, List.headD_cons, List.tail_cons, this]
  | _ :: _, _, [], _, h => by cases h
def FlatT (P : Program) (t : TypeId) (ks : List IntKind) : Prop :=
  P.cellsOf t = ks.length ∧ ∀ (H : Type) (enc : TypeId × Value → H) (W : World) (base : Nat) (sp : Nat → Bool) (held : Bool) (fuel : Nat) (cs : List Value) (x : DataW H × List MemPlace), DataW.trod enc P W base sp held fuel t cs = some x → ∃ y, WfR ks y ∧ cs = recCells ks y
def FlatFs (P : Program) : Nat → List Field → List (List IntKind) → Prop
  | _, [], [] => True
  | o, f :: fs, k :: ks => f.offset = o ∧ FlatT P f.type k ∧ FlatFs P (o + k.length) fs ks
  | _, _, _ => False
theorem flat_int {P : Program} {t : TypeId} {k : IntKind} (h : P.underlying t = some (.int k)) (hc : P.cellsOf t = 1) : FlatT P t [k] := by
  refine ⟨hc, fun H enc W base sp held fuel cs x ht => ?_⟩
  obtain ⟨n, rfl, _, hw⟩ := DataW.trod_int h ht
  exact ⟨[n], ⟨hw, rfl⟩, rfl⟩
theorem flat_fields {P : Program} {H : Type} {enc : TypeId × Value → H} {W : World} {base : Nat} {sp : Nat → Bool} {held : Bool} {n : Nat} {cs : List Value} {ys : List (DataW H × List MemPlace)} : ∀ (fs : List Field) (kss : List (List IntKind)) (o i : Nat), FlatFs P o fs kss →
    (∀ j f, fs[j]? = some f → DataW.trod enc P W base sp held n f.type ((cs.drop f.offset).take (P.cellsOf f.type)) = ys[i + j]?) → i + fs.length ≤ ys.length → cs.length = o + kss.flatten.length → ∃ y, WfR kss.flatten y ∧ cs.drop o = recCells kss.flatten y
  | [], [], o, i, _, _, _, hl => ⟨[], rfl, by rw [List.drop_of_length_le (by simp at hl; omega)]; rfl⟩
  | [], _ :: _, _, _, h, _, _, _ => by cases h
  | _ :: _, [], _, _, h, _, _, _ => by cases h
  | f :: fs, k :: kss, o, i, h, hg, hy, hl => by
    obtain ⟨h1, h2, h3⟩ := h
    have hg0 := hg 0 f rfl
    simp only [List.length_cons] at hy
    rw [List.getElem?_eq_getElem (show i + 0 < ys.length by omega)] at hg0
    obtain ⟨y1, hw1, hc1⟩ := h2.2 _ _ _ _ _ _ _ _ _ hg0
    rw [h1, h2.1] at hc1
    obtain ⟨y2, hw2, hc2⟩ := flat_fields fs kss (o + k.length) (i + 1) h3 (fun j g hj => by
      have := hg (j + 1) g (by simpa using hj)
      rwa [show i + (j + 1) = i + 1 + j from by omega] at this) (by omega) (by simp at hl ⊢; omega)
    refine ⟨y1 ++ y2, by rw [List.flatten_cons]; exact hw1.append hw2, ?_⟩
    rw [List.flatten_cons, recCells_append hw1.length, ← hc1, ← hc2, ← List.drop_drop, List.take_append_drop]
theorem flat_struct {P : Program} {t : TypeId} {fs : Array Field} (ht : P.underlying t = some (.struct fs)) (kss : List (List IntKind)) (hf : FlatFs P 0 fs.toList kss) (hc : P.cellsOf t = kss.flatten.length) : FlatT P t kss.flatten := by
  refine ⟨hc, fun H enc W base sp held fuel cs x h => ?_⟩
  obtain ⟨ys, n, _, _, hl, hyl, hg⟩ := DataW.trod_struct ht h
  obtain ⟨y, hw, he⟩ := flat_fields (ys := ys) fs.toList kss 0 0 hf (fun j f hj => by
    rw [Nat.zero_add]; exact hg j f (by simpa using hj)) (by simp; omega) (by omega)
  exact ⟨y, hw, by simpa using he⟩
section
variable {H : Type} {enc : TypeId × Value → H} {P : Program} {W : World} {b0 : Nat} {sp : Nat → Bool} {held : Bool}
theorem open_flat {t e : TypeId} {k : IntKind} {ks : List IntKind} {v : Value} {d : DataW H} {p : List MemPlace} {r : Reach} (ht : P.underlying t = some (.slice e)) (hF : FlatT P e (k :: ks)) (hv : Value.okWide P W r b0 t v)
    (h : DataW.Trod enc P W 0 sp held t v d p) : ∃ (a : Option Addr) (c : Nat) (xs : List (List Int)), v = .slice a xs.length c ∧ View (base W) (eR k ks) a xs ∧ (∀ x ∈ xs, WfR (k :: ks) x) ∧ xs.length ≤ maxLen := by
  obtain ⟨a, len, cap, rfl⟩ := okWide_slice ht hv
  obtain ⟨fuel, hf⟩ := h
  have hC : P.cellsOf e = ks.length + 1 := by rw [hF.1]; rfl
  rcases open_slice ht hf with ⟨h1, _⟩ | ⟨ad, l, c, m, n, D, Pl, h1, _, hl, hm, hmm, _, hi⟩
  · obtain ⟨rfl, rfl, rfl⟩ : a = none ∧ len = 0 ∧ cap = 0 := by simpa [Value.cells] using h1
    exact ⟨none, 0, [], rfl, fun _ _ => .inl rfl, (fun n h => by cases h), by simp⟩
  · obtain ⟨rfl, rfl, rfl⟩ : a = some ad ∧ len = l ∧ cap = c := by simpa [Value.cells] using h1
    have hle : len ≤ m := by rw [hmm]; split <;> omega
    have each : ∀ i, i < len → ∃ x : List Int, WfR (k :: ks) x ∧ ∀ j v, (recCells (k :: ks) x)[j]? = some v → W.cell? (ad.add (i * (ks.length + 1) + j)) = some v := by
      intro i him
      obtain ⟨cs', hc, ht'⟩ := hi i (by omega)
      rw [hC] at hc
      obtain ⟨_, hcl, hat⟩ := World.cells?_some hc
      obtain ⟨y, hw, rfl⟩ := hF.2 _ _ _ _ _ _ _ _ _ ht'
      refine ⟨y, hw, fun j v hj => ?_⟩
      have hjl : j < ks.length + 1 := by
        have := (List.getElem?_eq_some_iff.1 hj).1
        rw [recCells_len] at this; exact this
      rw [← Go.Deep.add_add, hat j hjl]; exact hj
    let f : Nat → List Int := fun i => if h : i < len then Classical.choose (each i h) else []
    have hfi : ∀ i (h : i < len), WfR (k :: ks) (f i) ∧ ∀ j v, (recCells (k :: ks) (f i))[j]? = some v → W.cell? (ad.add (i * (ks.length + 1) + j)) = some v := by
      intro i h
      simp only [f, dif_pos h]
      exact Classical.choose_spec (each i h)
    refine ⟨some ad, cap, (List.range len).map f, by simp, view_of fun i x hx j v hj => ?_, ?_, by simp; omega⟩
    · have hi : i < len := by
        have := (List.getElem?_eq_some_iff.1 hx).1
        simpa using this
      have : f i = x := by simpa [hi] using hx
      subst this
      exact (hfi i hi).2 j v hj
    · intro x hx
      obtain ⟨i, hi, rfl⟩ := List.mem_map.1 hx
      exact (hfi i (List.mem_range.1 hi)).1
end
section
variable {P : Program} {w0 : World} {n : Nat} {Q : Exit → Act → World → Prop} {k : List KI} {e : Env} {L R : List HP} {all : Array Oper} {rest : List Oper} {ty : TypeId}
theorem rv_velfG {α : Type} {E' : E α} {T : TypeId} {x : Operand} {A : HP} {b o s : Nat} {xs : List α} {v : Value} {dd : TypeDesc} (i f : Nat) (x' : α) [hu : TU P T dd] (hV : View A E' (some ⟨b, o, none⟩) xs) (hf : Find L A R := by repeat (first | exact Find.here | apply Find.there)) (hx : ev e x = some (.pointer (some ⟨b, o + i * s + f, none⟩)) := by rfl)
    (hg : aggD dd = false := by rfl) (hs : E'.sz = s := by rfl) (hv : (E'.cells x')[f]? = some v := by rfl) (hget : xs[i]? = some x') : RV P w0 (.load T x) ty e L v := by
  obtain ⟨hl, rfl⟩ := List.getElem?_eq_some_iff.1 hget
  exact rv_velf hV hf hx hg hs hl hv
end
end Go.Proofs.Yteobjankkcdaoaa.Sep
