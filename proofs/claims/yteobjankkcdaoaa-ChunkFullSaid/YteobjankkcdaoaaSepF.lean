import Derived.Test.YteobjankkcdaoaaSepS
import Derived.Test.YteobjankkcdaoaaSepN
import Derived.Laws.MakeOwn
import Derived.Laws.Slices
namespace Go.Proofs.Yteobjankkcdaoaa.Sep
open Go.RowKit
set_option linter.unusedSimpArgs false
set_option linter.unusedVariables false
/-! slices: made, cut, copied, stored into -/
section
variable {P : Program} {w0 : World} {n : Nat} {Q : Exit → Act → World → Prop} {k : List KI} {e : Env} {L R : List HP} {all : Array Oper} {rest : List Oper} {ty : TypeId} {pos : String} {aft : Array Edge} {d : Nat}
variable {α : Type} {E' : E α}
theorem flat_replicate (x : α) (m : Nat) : ∀ j, (flat E' (List.replicate m x))[j]? = if j < m * E'.sz then (E'.cells x)[j % E'.sz]? else none := by
  induction m with
  | zero => intro j; simp
  | succ m ih =>
    intro j
    rw [List.replicate_succ, flat_cons]
    have hp := E'.pos
    by_cases hj : j < E'.sz
    · rw [List.getElem?_append_left (by rw [E'.len]; exact hj), Nat.mod_eq_of_lt hj, if_pos (by rw [Nat.add_mul]; omega)]
    · rw [List.getElem?_append_right (by rw [E'.len]; omega), E'.len, ih]
      have h1 : (j - E'.sz) % E'.sz = j % E'.sz := by rw [← Nat.mod_eq_sub_mod (by omega)]
      rw [h1]
      by_cases h2 : j - E'.sz < m * E'.sz
      · rw [if_pos h2, if_pos (by rw [Nat.add_mul]; omega)]
      · rw [if_neg h2, if_neg (by rw [Nat.add_mul]; omega)]
theorem made_flat {z : Array Value} {x : α} (hz : z = (E'.cells x).toArray) (m : Nat) : (madeCells z (m * E'.sz)).toList = flat E' (List.replicate m x) := by
  subst hz
  apply List.ext_getElem?
  intro j
  rw [flat_replicate]
  have hp := E'.pos
  by_cases hj : j < m * E'.sz
  · rw [if_pos hj]
    have h1 : j % E'.sz < (E'.cells x).length := by rw [E'.len]; exact Nat.mod_lt _ hp
    rw [List.getElem?_eq_getElem h1]
    simp [madeCells, hj, E'.len, List.getElem?_eq_getElem h1]
  · rw [if_neg hj]
    simp [madeCells]; omega
theorem dv_makeSlice {T el s by' : Nat} {l c : Operand} {kl kc : IntKind} {z : Value} {m : Int} (x : α) [hu : TU P T (.slice el)] [hi : TI P el z s by'] (hl : ev e l = some (.int kl m) := by rfl) (hc : ev e c = some (.int kc m) := by rfl)
    (hs : E'.sz = s := by rfl) (hz : z.cells = (E'.cells x).toArray := by rfl) (h0 : 0 ≤ m := by omega) (hb : (by' : Int) * m ≤ 140737488355328 := by omega) (h63 : m ≤ 9223372036854775807 := by omega) :
    DV P w0 (.makeSlice T l c) ty e L (fun v L' => ∃ b, v = .slice (some ⟨b, 0, none⟩) m.toNat m.toNat ∧ L' = Sl E' (some ⟨b, 0, none⟩) m.toNat (List.replicate m.toNat x) :: L) := dv_of_run fun tm w pos aft h2 h3 => by
  obtain ⟨i, hinf, hzero, hsz, hbytes⟩ := hi.out
  subst hs
  have hr := run_make (P := P) w T el i z hu.out hinf hzero kl kc m m h0 (Int.le_refl _) (by rw [hbytes]; omega) h63
  refine ⟨_, _, _, by simp only [execOp, ev_sound h2 hl, ev_sound h2 hc, Sem.run_bind, hr, Result.andThen_ok, Sem.run_pure]; rfl, ⟨_, rfl, rfl⟩, ?_⟩
  rw [hsz]
  refine (h3.alloc (o := .cells (madeCells z.cells (m.toNat * E'.sz)) el)).map fun _ => SL.head fun H hH => ?_
  refine ⟨by simp, rfl, _, el, hH, [], [], ?_, rfl, by simp⟩
  simp [made_flat hz]
/-- x[:h] -/
theorem pv_sliceH {T el s by' : Nat} {x hi : Operand} {z : Value} {a : Option Addr} {len cap : Nat} {kh : IntKind} {h : Int} [hu : TU P T (.slice el)] [hti : TI P el z s by'] (hx : ev e x = some (.slice a len cap) := by rfl) (hh : ev e hi = some (.int kh h) := by rfl)
    (h0 : 0 ≤ h := by omega) (h1 : h ≤ (cap : Int) := by omega) : PV P (.slice T x none (some hi) none) ty e (.slice a h.toNat cap) := fun tm w pos aft ha => by
  have hel : P.elem T = el := by unfold Program.elem; rw [hu.out]
  have hr1 := run_sliceAt_slice (P := P) (w := w) T (.slice a len cap) none (some (.int kh h)) none (by rw [hel]; exact hu.out)
  have hr2 := run_slice_h (P := P) (w := w) T a len cap (by rw [hel]; exact hu.out) kh h h0 h1
  have hsz : (sizeOf (P.elem T)).run P w = .ok s w := by rw [hel]; exact run_size hti
  have : sliced a 0 h.toNat cap s = .slice a h.toNat cap := by
    unfold sliced
    cases a <;> simp [Addr.add]
  simp [execOp, ev_sound ha hx, ev_sound ha hh, hr1, hr2, hsz, this]
/-- x[l:], to be read. -/
theorem dv_sliceL {T el s by' : Nat} {x lo : Operand} {z : Value} {a : Option Addr} {xs : List α} {A : HP} {cap : Nat} {kl : IntKind} {l : Int} [hu : TU P T (.slice el)] [hti : TI P el z s by'] (hx : ev e x = some (.slice a xs.length cap) := by rfl) (hh : ev e lo = some (.int kl l) := by rfl)
    (hv : View A E' a xs) (hf : Find L A R := by repeat (first | exact Find.here | apply Find.there)) (hs : E'.sz = s := by rfl) (h0 : 0 ≤ l := by omega) (h1 : l ≤ (xs.length : Int) := by omega) (h2 : xs.length ≤ cap) :
    DV P w0 (.slice T x (some lo) none none) ty e L (fun v L' => ∃ a', v = .slice a' (xs.drop l.toNat).length (cap - l.toNat) ∧ View A E' a' (xs.drop l.toNat) ∧ L' = L) := dv_of_run fun tm w pos aft ha h3 => by
  have hel : P.elem T = el := by unfold Program.elem; rw [hu.out]
  have hr1 := run_sliceAt_slice (P := P) (w := w) T (.slice a xs.length cap) (some (.int kl l)) none none (by rw [hel]; exact hu.out)
  have hr2 := run_slice_l (P := P) (w := w) T a xs.length cap (by rw [hel]; exact hu.out) kl l h0 h1
  have hsz : (sizeOf (P.elem T)).run P w = .ok s w := by rw [hel]; exact run_size hti
  refine ⟨sliced a l.toNat xs.length cap s, w, _, by simp [execOp, ev_sound ha hx, ev_sound ha hh, hr1, hr2, hsz], ⟨if cap = l.toNat then a else a.map (·.add (l.toNat * s)), by rw [List.length_drop]; rfl, ?_, rfl⟩, h3⟩
  obtain ⟨H1, hA, _⟩ := (h3.find hf).atom
  intro H hH
  by_cases he : xs.drop l.toNat = []
  · exact .inl he
  right
  have hlt : l.toNat < xs.length := by
    rcases Nat.lt_or_ge l.toNat xs.length with h | h
    · exact h
    · exact absurd (List.drop_eq_nil_of_le h) he
  rcases hv H hH with rfl | ⟨⟨b, o, sp⟩, rfl, hsp, row, T', fr, hb, hrow⟩
  · simp at hlt
  simp only at hsp
  subst hsp
  have hne : ¬ cap = l.toNat := by omega
  have h4 : (⟨b, o, none⟩ : Addr).add (l.toNat * s) = ⟨b, o + l.toNat * s, none⟩ := by unfold Addr.add; split <;> simp_all
  refine ⟨⟨b, o + l.toNat * s, none⟩, by simp [hne, h4], rfl, row, T', fr, hb, fun j v hj => ?_⟩
  have h5 : (flat E' xs)[l.toNat * s + j]? = some v := by
    rw [← List.take_append_drop l.toNat xs, flat_append, List.getElem?_append_right (by rw [flat_length, List.length_take, hs]; exact Nat.le_trans (Nat.mul_le_mul_right _ (Nat.min_le_left _ _)) (Nat.le_add_right _ _)), flat_length, List.length_take, Nat.min_eq_left (by omega), hs]
    rw [Nat.add_sub_cancel_left]; exact hj
  have := hrow _ _ h5
  simp only at this ⊢
  rw [Nat.add_assoc]; exact this
theorem View.take {A : HP} {a : Option Addr} {xs : List α} (m : Nat) (h : View A E' a xs) : View A E' a (xs.take m) := fun H hH => by
  rcases h H hH with rfl | ⟨ad, ha, hs, row, T, fr, hb, hr⟩
  · exact .inl (by simp)
  · refine .inr ⟨ad, ha, hs, row, T, fr, hb, fun j v hj => hr j v ?_⟩
    rw [← List.take_append_drop m xs, flat_append]
    rw [List.getElem?_append_left (List.getElem?_eq_some_iff.1 hj).1]
    exact hj
theorem Sl.take {a : Option Addr} {c m : Nat} {xs : List α} : ∀ H, Sl E' a c xs H → Sl E' a c (xs.take m) H := by
  intro H h
  cases a with
  | none => obtain ⟨rfl, rfl⟩ := h; exact ⟨by simp, rfl⟩
  | some ad =>
    obtain ⟨hc, hs, row, T, hb, pre, post, hr, hp, hq⟩ := h
    refine ⟨by simp; omega, hs, row, T, hb, pre, flat E' (xs.drop m) ++ post, ?_, hp, ?_⟩
    · rw [hr]
      conv => lhs; rw [← List.take_append_drop m xs, flat_append]
      simp [List.append_assoc]
    · rw [List.length_append, flat_length, hq, List.length_take, List.length_drop, ← Nat.add_mul]
      congr 1; omega
theorem SL_take {a : Option Addr} {c : Nat} {xs : List α} (m : Nat) {H : PH} (hf : Find L (Sl E' a c xs) R) (h : SL L H) : SL (Sl E' a c (xs.take m) :: R) H := SL.head Sl.take (hf.fwd h)
/-- Cells of an element are stored into. -/
theorem Sl.put {w : World} {b o c i f : Nat} {xs : List α} {vs : List Value} {x' : α} (hl : i < xs.length) (hfit : f + vs.length ≤ E'.sz) (hx' : E'.cells x' = (E'.cells xs[i]).take f ++ vs ++ (E'.cells xs[i]).drop (f + vs.length)) {H : PH} (h : Sl E' (some ⟨b, o, none⟩) c xs H) :
    ∃ row T, H b = some (.cells row T (0, 0)) ∧ o + i * E'.sz + f + vs.length ≤ row.size ∧
      ∀ H', H' b = some (.cells (row.toList.take (o + i * E'.sz + f) ++ vs ++ row.toList.drop (o + i * E'.sz + f + vs.length)).toArray T (0, 0)) → Sl E' (some ⟨b, o, none⟩) c (xs.set i x') H' := by
  obtain ⟨hc, hs, row, T, hb, pre, post, hr, hp, hq⟩ := h
  simp only at hp
  have hlen : (E'.cells xs[i]).length = E'.sz := E'.len _
  have hF : flat E' xs = (flat E' xs).take (i * E'.sz) ++ E'.cells xs[i] ++ (flat E' xs).drop (i * E'.sz + E'.sz) := by
    have := flat_set E' xs i xs[i] hl
    rwa [List.set_getElem_self] at this
  have hA : ((flat E' xs).take (i * E'.sz)).length = i * E'.sz := by
    rw [List.length_take, flat_length]
    exact Nat.min_eq_left (Nat.mul_le_mul_right _ (by omega))
  generalize hAd : (flat E' xs).take (i * E'.sz) = A at hF hA
  generalize hBd : (flat E' xs).drop (i * E'.sz + E'.sz) = B at hF
  have hset : flat E' (xs.set i x') = A ++ E'.cells x' ++ B := by rw [flat_set E' xs i x' hl, hAd, hBd]
  generalize E'.cells xs[i] = C at hlen hx' hF
  refine ⟨row, T, hb, ?_, fun H' hH' => ⟨by simpa using hc, rfl, _, T, hH', pre, post, ?_, hp, by simpa using hq⟩⟩
  · rw [← Array.length_toList, hr, hF]; simp [hA, hp, hlen]; omega
  · rw [hr, hF, hset, hx']
    have e1 : pre ++ (A ++ C ++ B) ++ post = (pre ++ A ++ C.take f) ++ (C.drop f ++ B ++ post) := by
      simp only [List.append_assoc]
      rw [← List.append_assoc (C.take f), List.take_append_drop]
    have e2 : pre ++ (A ++ C ++ B) ++ post = (pre ++ A ++ C.take (f + vs.length)) ++ (C.drop (f + vs.length) ++ B ++ post) := by
      simp only [List.append_assoc]
      rw [← List.append_assoc (C.take (f + vs.length)), List.take_append_drop]
    have l1 : (pre ++ A ++ C.take f).length = o + i * E'.sz + f := by simp [hA, hp, hlen]; omega
    have l2 : (pre ++ A ++ C.take (f + vs.length)).length = o + i * E'.sz + f + vs.length := by simp [hA, hp, hlen]; omega
    rw [show (pre ++ (A ++ C ++ B) ++ post).take (o + i * E'.sz + f) = pre ++ A ++ C.take f from by rw [e1, List.take_left' l1]]
    rw [show (pre ++ (A ++ C ++ B) ++ post).drop (o + i * E'.sz + f + vs.length) = C.drop (f + vs.length) ++ B ++ post from by rw [e2, List.drop_left' l2]]
    simp [List.append_assoc]
theorem dv_putEl {T m by' : Nat} {x y : Operand} {b o c i s f : Nat} {v : Value} {xs : List α} {vs : List Value} {z : Value} [hti : TI P T z m by'] (x' : α) (hf : Find L (Sl E' (some ⟨b, o, none⟩) c xs) R) (hx : ev e x = some (.pointer (some ⟨b, o + i * s + f, none⟩))) (hy : ev e y = some v)
    (hvs : v.cells.toList = vs) (hone : ∀ u ∈ vs, u.oneCell' = true) (hm : vs.length = m) (hs : E'.sz = s) (hl : i < xs.length) (hfit : f + vs.length ≤ E'.sz) (hx' : E'.cells x' = (E'.cells xs[i]).take f ++ vs ++ (E'.cells xs[i]).drop (f + vs.length)) :
    DV P w0 (.store T x y) ty e L (fun _ L' => L' = Sl E' (some ⟨b, o, none⟩) c (xs.set i x') :: R) := dv_of_skip fun tm w pos aft h2 h3 => by
  have h3' := h3.find hf
  obtain ⟨H0, hA0, hle0⟩ := h3'.atom
  subst hs
  obtain ⟨row, T', hb, hsz, hput⟩ := Sl.put (w := w) (x' := x') hl hfit hx' hA0
  have hrw := hle0 _ _ hb
  have hrun := run_storeAt (P := P) (v := v) (o := o + i * E'.sz + f) hti (by rw [← hm, ← hvs, Array.length_toList]) (by rw [hvs]; exact hone) hrw (by rw [← hm]; exact hsz)
  refine ⟨_, _, by simp only [execOp, ev_sound h2 hx, ev_sound h2 hy, Sem.run_bind, hrun, Result.andThen_ok, Sem.run_pure]; rfl, rfl, ?_⟩
  rw [hvs, ← hm]
  refine Sat.turn1 (b := b) h3' (fun H hH => ?_) rfl rfl rfl (setRow_at hrw) (fun k hk => setRow_ne hk) (fun H hH => ?_)
  · obtain ⟨_, _, row, T, hb, _⟩ := hH
    rw [hb]; simp
  · exact hput _ (by simp)
theorem flat_drop : ∀ (xs : List α) (m : Nat), flat E' (xs.drop m) = (flat E' xs).drop (m * E'.sz)
  | [], m => by simp
  | x :: xs, 0 => by simp
  | x :: xs, m + 1 => by
    rw [List.drop_succ_cons, flat_drop xs m, flat_cons, show (m + 1) * E'.sz = (E'.cells x).length + m * E'.sz from by rw [E'.len, Nat.add_mul]; omega, ← List.drop_drop, List.drop_left]
/-- copy(x, y) -/
theorem dv_copy {dT sT el s by' : Nat} {x y : Operand} {a2 : Option Addr} {b o c m c2 : Nat} {xs ys : List α} {A : HP} {z : Value} [hu : TU P dT (.slice el)] [hux : TU P sT (.slice el)] [hi : TI P el z s by'] (hx : ev e x = some (.slice (some ⟨b, o, none⟩) xs.length c) := by rfl) (hy : ev e y = some (.slice a2 m c2) := by rfl)
    (hv : View A E' a2 ys) (hn : ys.length = min m xs.length) (hf : FindAll L [Sl E' (some ⟨b, o, none⟩) c xs, A] R := by repeat (first | exact FindAll.nil | exact Find.here | apply Find.there | apply FindAll.cons)) (hs : E'.sz = s := by rfl) :
    DV P w0 (.call ⟨.builtin .copy, #[x, y], #[dT, sT]⟩) ty e L (fun v L' => v = .int .i64 (ys.length : Int) ∧ L' = Sl E' (some ⟨b, o, none⟩) c (ys ++ xs.drop ys.length) :: A :: R) := dv_of_run fun tm w pos aft h2 h3 => by
  subst hs
  have h3' := h3.findAll hf
  obtain ⟨i, hinf, hzero, hsz, hbytes⟩ := hi.out
  obtain ⟨H1, hA1, hle1⟩ := (Sat.drop h3').atom
  have hsrc := (src_of_view (P := P) (tx := sT) (c := c2) hv hA1 hle1 hux.out).cells
  have hsrc' : (Builtin.firstCells E'.sz ys.length (.slice a2 m c2)).run P w = .ok (flat E' ys).toArray w := by
    cases a2 <;> exact hsrc
  obtain ⟨H0, hA0, hle0⟩ := h3'.atom
  obtain ⟨hc, hsp, row, T, hrow, pre, post, hr, hp, hq⟩ := hA0
  simp only at hp hrow
  have hrw := hle0 _ _ hrow
  have hle : ys.length ≤ xs.length := by rw [hn]; exact Nat.min_le_right _ _
  have hrl : row.size = o + xs.length * E'.sz + post.length := by rw [← Array.length_toList, hr]; simp [flat_length, hp]; omega
  have hge : ys.length * E'.sz ≤ xs.length * E'.sz := Nat.mul_le_mul_right _ hle
  have hst := run_storeCells_at P b o T (flat E' ys) 0 row w hrw (by rw [flat_length, hrl]; omega) (flat_one E' ys)
  simp only [Nat.add_zero] at hst
  have hrun : (Builtin.copy_ #[dT, sT] ty #[.slice (some ⟨b, o, none⟩) xs.length c, .slice a2 m c2]).run P w = .ok (.int .i64 (ys.length : Int)) (w.setRow b (row.toList.take o ++ flat E' ys ++ row.toList.drop (o + (flat E' ys).length)).toArray) := by
    simp [Builtin.copy_, run_und hu.out, Builtin.lenOf, sizeOf, typeInfo, hinf, hsz, ← hn, hsrc', hst, goInt]
  refine ⟨_, _, _, by simp [execOp, resolve, invoke, builtin, ev_sound h2 hx, ev_sound h2 hy, hrun]; rfl, ⟨rfl, rfl⟩, ?_⟩
  refine Sat.turn1 (b := b) h3' (fun H hH => ?_) rfl rfl rfl (setRow_at hrw) (fun k hk => setRow_ne hk) (fun H hH => ?_)
  · obtain ⟨_, _, row, T, hb, _⟩ := hH
    rw [hb]; simp
  · refine ⟨by simp; omega, rfl, _, T, by simp; rfl, pre, post, ?_, hp, ?_⟩
    · rw [hr, flat_length, flat_append, flat_drop]
      rw [List.append_assoc pre, List.take_left' hp, ← List.drop_drop, List.drop_left' hp, List.drop_append_of_le_length (by rw [flat_length]; exact hge)]
      simp [List.append_assoc]
    · rw [hq]; simp; congr 1; omega
/-- A struct that is written out, of which some fields are told: the cells are said. -/
theorem pv_buildG {T len by' : Nat} {fl : List Field} {parts : Array (Nat × Operand)} {z : Value} {vs : List Value} {ps : List (Nat × Nat)} (cells : List Value) [hu : TU P T (.struct fl.toArray)] [hi : TI P T z len by'] [hs : TS P fl ps]
    (hv : evl e (parts.toList.map (·.2)) = some vs := by rfl) (hf : Instr.fill (fun i => ps.toArray[i]?) z.cells ((parts.toList.map (·.1)).zip vs) = some cells.toArray := by rfl) : PV P (.build T parts) ty e (.agg cells.toArray) := fun tm w pos aft h2 => by
  have h4 := evl_sound (ds := []) h2 hv
  have hparts : parts.toList.map (fun x => (x.fst, (Act.mk tm []).eval x.snd)) = (parts.toList.map (·.1)).zip vs := by
    rw [← h4]
    generalize parts.toList = l
    induction l with
    | nil => rfl
    | cons p l ih => simp [ih]
  have hus : (underlying T).run P w = .ok (.struct fl.toArray) w := run_und hu.out
  simp only [execOp, Instr.build, Sem.run_bind, run_zero hi, Result.andThen_ok, hus, List.mapM_toArray, Sem.run_map, hs.out]
  have hp2 : (Array.map (fun x : Nat × Operand => match x with | (i, x) => (i, (Act.mk tm []).eval x)) parts).toList = (parts.toList.map (·.1)).zip vs := by rw [Array.toList_map]; exact hparts
  rw [hp2]
  have hf' : Instr.fill (fun x => ps.toArray[x]?) z.cells ((parts.toList.map (·.1)).zip vs) = some cells.toArray := hf
  rw [hf']
  rfl
theorem pv_build0 {T len by' : Nat} {fl : List Field} {z : Value} {ps : List (Nat × Nat)} {cells : List Value} [hu : TU P T (.struct fl.toArray)] [hi : TI P T z len by'] [hs : TS P fl ps] (hz : z.cells = cells.toArray := by rfl) : PV P (.build T #[]) ty e (.agg cells.toArray) :=
  pv_buildG cells (vs := []) rfl (by rw [← hz]; rfl)
/-- One answer, off a slot or off a variable. -/
def Told (P : Program) (w0 : World) (e : Env) (L : List HP) (r : ResultVar) (v : Value) : Prop := ∀ tm w, Agree e tm → Sat w0 w L → ((match r with | .tmp t => pure (tm.getD t undef) | .cell a t => do loadVar t (← asAddr (tm.getD a undef)) : Sem Value)).run P w = .ok v w
theorem told_tmp {t : Nat} {v : Value} (h : e.get t = some v := by rfl) : Told P w0 e L (.tmp t) v := fun tm w h2 h3 => by
  have h4 := h2 t _ h
  simp [h4]
theorem told_cell {T t : TypeId} {b s by' : Nat} {row : List Value} {T' : TypeId} {fr : Nat × Nat} {dd : TypeDesc} {z : Value} [hu : TU P T dd] [hi : TI P T z s by'] (ht : e.get t = some (.pointer (some ⟨b, 0, none⟩)) := by rfl) (hg : aggD dd = true := by rfl) (hl : row.length = s := by rfl)
    (hf : Find L (pt b (.cells row.toArray T' fr)) R := by repeat (first | exact Find.here | apply Find.there)) : Told P w0 e L (.cell t T) (.agg row.toArray) := by
  intro tm w h2 h3
  have h4 := h2 t _ ht
  have h5 := (holds_pt (b := b) (o := 0) (row := row) (T := T') (fr := fr) (vs := row) (by simp)).cell (h3.find hf)
  simp only [Nat.zero_add] at h5
  have h6 := run_loadAtA (P := P) (w := w) (b := b) (o := 0) hu.out hg hi hl (by simpa using h5)
  simp only [Instr.loadAt, Instr.sureAddr, Sem.run_bind, Sem.run_pure, Result.andThen_ok] at h6
  simp [h4, asAddr, h6]
def ToldAll (P : Program) (w0 : World) (e : Env) (L : List HP) : List ResultVar → List Value → Prop
  | [], [] => True
  | r :: rs, v :: vs => Told P w0 e L r v ∧ ToldAll P w0 e L rs vs
  | _, _ => False
theorem tells_many {fn : Func} {rs : List ResultVar} {vs : List Value} (hr : fn.results = rs.toArray) (h : ToldAll P w0 e L rs vs) : Tells ⟨P, w0, n, Q⟩ fn e L (tup vs) := by
  intro tm w _ h2 h3
  have key : ∀ (rs : List ResultVar) (vs : List Value), ToldAll P w0 e L rs vs → (rs.mapM (m := Sem) fun | .tmp t => pure (tm.getD t undef) | .cell a t => do loadVar t (← asAddr (tm.getD a undef))).run P w = .ok vs w := by
    intro rs
    induction rs with
    | nil => intro vs hv; cases vs with
      | nil => rfl
      | cons => cases hv
    | cons r rs ih => intro vs hv; cases vs with
      | nil => cases hv
      | cons v vs =>
        have h4 := hv.1 tm w h2 h3
        have h5 := ih vs hv.2
        simp only [List.mapM_cons, Sem.run_bind, h4, Result.andThen_ok, h5, Sem.run_pure]
  have := key rs vs h
  unfold results
  rw [hr]
  simp only [List.mapM_toArray, Sem.run_map, Sem.run_bind]
  erw [this]
  simp only [Result.andThen_ok]
  cases vs with
  | nil => rfl
  | cons v l => cases l <;> simp [tup]
end
end Go.Proofs.Yteobjankkcdaoaa.Sep
