import Derived.Test.YtamecmklcnohjaaGreatBn3
import Derived.Laws.MakeOwn
import Derived.Laws.Slices
import Derived.Test.YtamecmklcnohjaaGreatBn2
import Derived.Laws.StructEq
import Derived.Laws.IdiomRangeMap
/- What the laws share: a separation logic over the model, and what the program's functions do, by it. Part 4 of 15: SepF SepR SepG SepQ Roster SepH. -/
namespace Go.Proofs.YtamecmklcnohjaaGreat.Sep
open Go.RowKit
set_option linter.unusedSimpArgs false
set_option linter.unusedVariables false
section
variable {P : Program} {w0 : World} {n : Nat} {Q : Exit → Act → World → Prop} {k : List KI} {e : Env} {L R : List HP} {all : Array Oper} {rest : List Oper} {ty : TypeId} {pos : String} {aft : Array Edge} {d : Nat}
variable {α : Type} {E' : E α}
theorem flat_replicate (x : α) (m : Nat) : ∀ j, (flat E' (List.replicate m x))[j]? = if j < m * E'.sz then (E'.cells x)[j % E'.sz]? else none := by
  induction m with
  | zero => intro j; simp
  | succ m ih =>
    intro j
    rw [List.replicate_succ, flat_cons]
    have hp := E'.pos
    by_cases hj : j < E'.sz
    · rw [List.getElem?_append_left (by rw [E'.len]; exact hj), Nat.mod_eq_of_lt hj, if_pos (by rw [Nat.add_mul]; omega)]
    · rw [List.getElem?_append_right (by rw [E'.len]; omega), E'.len, ih]
      have h1 : (j - E'.sz) % E'.sz = j % E'.sz := by rw [← Nat.mod_eq_sub_mod (by omega)]
      rw [h1]
      by_cases h2 : j - E'.sz < m * E'.sz
      · rw [if_pos h2, if_pos (by rw [Nat.add_mul]; omega)]
      · rw [if_neg h2, if_neg (by rw [Nat.add_mul]; omega)]
theorem made_flat {z : Array Value} {x : α} (hz : z = (E'.cells x).toArray) (m : Nat) : (madeCells z (m * E'.sz)).toList = flat E' (List.replicate m x) := by
  subst hz
  apply List.ext_getElem?
  intro j
  rw [flat_replicate]
  have hp := E'.pos
  by_cases hj : j < m * E'.sz
  · rw [if_pos hj]
    have h1 : j % E'.sz < (E'.cells x).length := by rw [E'.len]; exact Nat.mod_lt _ hp
    rw [List.getElem?_eq_getElem h1]
    simp [madeCells, hj, E'.len, List.getElem?_eq_getElem h1]
  · rw [if_neg hj]
    simp [madeCells]; omega
theorem dv_makeSlice {T el s by' : Nat} {l c : Operand} {kl kc : IntKind} {z : Value} {m : Int} (x : α) [hu : TU P T (.slice el)] [hi : TI P el z s by'] (hl : ev e l = some (.int kl m) := by rfl) (hc : ev e c = some (.int kc m) := by rfl)
    (hs : E'.sz = s := by rfl) (hz : z.cells = (E'.cells x).toArray := by rfl) (h0 : 0 ≤ m := by omega) (hb : (by' : Int) * m ≤ 140737488355328 := by omega) (h63 : m ≤ 9223372036854775807 := by omega) :
    DV P w0 (.makeSlice T l c) ty e L (fun v L' => ∃ b, v = .slice (some ⟨b, 0, none⟩) m.toNat m.toNat ∧ L' = Sl E' (some ⟨b, 0, none⟩) m.toNat (List.replicate m.toNat x) :: L) := dv_of_run fun tm w pos aft h2 h3 => by
  obtain ⟨i, hinf, hzero, hsz, hbytes⟩ := hi.out
  subst hs
  have hr := run_make (P := P) w T el i z hu.out hinf hzero kl kc m m h0 (Int.le_refl _) (by rw [hbytes]; omega) h63
  refine ⟨_, _, _, by simp only [execOp, ev_sound h2 hl, ev_sound h2 hc, Sem.run_bind, hr, Result.andThen_ok, Sem.run_pure]; rfl, ⟨_, rfl, rfl⟩, ?_⟩
  rw [hsz]
  refine (h3.alloc (o := .cells (madeCells z.cells (m.toNat * E'.sz)) el)).map fun _ => SL.head fun H hH => ?_
  refine ⟨by simp, rfl, _, el, hH, [], [], ?_, rfl, by simp⟩
  simp [made_flat hz]
theorem pv_sliceH {T el s by' : Nat} {x hi : Operand} {z : Value} {a : Option Addr} {len cap : Nat} {kh : IntKind} {h : Int} [hu : TU P T (.slice el)] [hti : TI P el z s by'] (hx : ev e x = some (.slice a len cap) := by rfl) (hh : ev e hi = some (.int kh h) := by rfl)
    (h0 : 0 ≤ h := by omega) (h1 : h ≤ (cap : Int) := by omega) : PV P (.slice T x none (some hi) none) ty e (.slice a h.toNat cap) := fun tm w pos aft ha => by
  have hel : P.elem T = el := by unfold Program.elem; rw [hu.out]
  have hr1 := run_sliceAt_slice (P := P) (w := w) T (.slice a len cap) none (some (.int kh h)) none (by rw [hel]; exact hu.out)
  have hr2 := run_slice_h (P := P) (w := w) T a len cap (by rw [hel]; exact hu.out) kh h h0 h1
  have hsz : (sizeOf (P.elem T)).run P w = .ok s w := by rw [hel]; exact run_size hti
  have : sliced a 0 h.toNat cap s = .slice a h.toNat cap := by
    unfold sliced
    cases a <;> simp [Addr.add]
  simp [execOp, ev_sound ha hx, ev_sound ha hh, hr1, hr2, hsz, this]
theorem View.take {A : HP} {a : Option Addr} {xs : List α} (m : Nat) (h : View A E' a xs) : View A E' a (xs.take m) := fun H hH => by
  rcases h H hH with rfl | ⟨ad, ha, hs, row, T, fr, hb, hr⟩
  · exact .inl (by simp)
  · refine .inr ⟨ad, ha, hs, row, T, fr, hb, fun j v hj => hr j v ?_⟩
    rw [← List.take_append_drop m xs, flat_append]
    rw [List.getElem?_append_left (List.getElem?_eq_some_iff.1 hj).1]
    exact hj
theorem Sl.take {a : Option Addr} {c m : Nat} {xs : List α} : ∀ H, Sl E' a c xs H → Sl E' a c (xs.take m) H := by
  intro H h
  cases a with
  | none => obtain ⟨rfl, rfl⟩ := h; exact ⟨by simp, rfl⟩
  | some ad =>
    obtain ⟨hc, hs, row, T, hb, pre, post, hr, hp, hq⟩ := h
    refine ⟨by simp; omega, hs, row, T, hb, pre, flat E' (xs.drop m) ++ post, ?_, hp, ?_⟩
    · rw [hr]
      conv => lhs; rw [← List.take_append_drop m xs, flat_append]
      simp [List.append_assoc]
    · rw [List.length_append, flat_length, List.length_take, List.length_drop]
      have e2 : (c - min m xs.length) * E'.sz = (xs.length - m) * E'.sz + (c - xs.length) * E'.sz := by rw [← Nat.add_mul]; congr 1; omega
      rw [e2]; omega
theorem Sl.less {a : Option Addr} {c c' : Nat} {xs : List α} (h1 : c' ≤ c) (h2 : xs.length ≤ c') : ∀ H, Sl E' a c xs H → Sl E' a c' xs H := by
  intro H h
  cases a with
  | none => obtain ⟨rfl, rfl⟩ := h; exact ⟨rfl, by omega⟩
  | some ad =>
    obtain ⟨hc, hs, row, T, hb, pre, post, hr, hp, hq⟩ := h
    exact ⟨h2, hs, row, T, hb, pre, post, hr, hp, Nat.le_trans (Nat.mul_le_mul_right _ (by omega)) hq⟩
theorem SL_take {a : Option Addr} {c : Nat} {xs : List α} (m : Nat) {H : PH} (hf : Find L (Sl E' a c xs) R) (h : SL L H) : SL (Sl E' a c (xs.take m) :: R) H := SL.head Sl.take (hf.fwd h)
theorem Sl.put {w : World} {b o c i f : Nat} {xs : List α} {vs : List Value} {x' : α} (hl : i < xs.length) (hfit : f + vs.length ≤ E'.sz) (hx' : E'.cells x' = (E'.cells xs[i]).take f ++ vs ++ (E'.cells xs[i]).drop (f + vs.length)) {H : PH} (h : Sl E' (some ⟨b, o, none⟩) c xs H) :
    ∃ row T, H b = some (.cells row T (0, 0)) ∧ o + i * E'.sz + f + vs.length ≤ row.size ∧
      ∀ H', H' b = some (.cells (row.toList.take (o + i * E'.sz + f) ++ vs ++ row.toList.drop (o + i * E'.sz + f + vs.length)).toArray T (0, 0)) → Sl E' (some ⟨b, o, none⟩) c (xs.set i x') H' := by
  obtain ⟨hc, hs, row, T, hb, pre, post, hr, hp, hq⟩ := h
  simp only at hp
  have hlen : (E'.cells xs[i]).length = E'.sz := E'.len _
  have hF : flat E' xs = (flat E' xs).take (i * E'.sz) ++ E'.cells xs[i] ++ (flat E' xs).drop (i * E'.sz + E'.sz) := by
    have := flat_set E' xs i xs[i] hl
    rwa [List.set_getElem_self] at this
  have hA : ((flat E' xs).take (i * E'.sz)).length = i * E'.sz := by
    rw [List.length_take, flat_length]
    exact Nat.min_eq_left (Nat.mul_le_mul_right _ (by omega))
  generalize hAd : (flat E' xs).take (i * E'.sz) = A at hF hA
  generalize hBd : (flat E' xs).drop (i * E'.sz + E'.sz) = B at hF
  have hset : flat E' (xs.set i x') = A ++ E'.cells x' ++ B := by rw [flat_set E' xs i x' hl, hAd, hBd]
  generalize E'.cells xs[i] = C at hlen hx' hF
  refine ⟨row, T, hb, ?_, fun H' hH' => ⟨by simpa using hc, rfl, _, T, hH', pre, post, ?_, hp, by simpa using hq⟩⟩
  · rw [← Array.length_toList, hr, hF]; simp [hA, hp, hlen]; omega
  · rw [hr, hF, hset, hx']
    have e1 : pre ++ (A ++ C ++ B) ++ post = (pre ++ A ++ C.take f) ++ (C.drop f ++ B ++ post) := by
      simp only [List.append_assoc]
      rw [← List.append_assoc (C.take f), List.take_append_drop]
    have e2 : pre ++ (A ++ C ++ B) ++ post = (pre ++ A ++ C.take (f + vs.length)) ++ (C.drop (f + vs.length) ++ B ++ post) := by
      simp only [List.append_assoc]
      rw [← List.append_assoc (C.take (f + vs.length)), List.take_append_drop]
    have l1 : (pre ++ A ++ C.take f).length = o + i * E'.sz + f := by simp [hA, hp, hlen]; omega
    have l2 : (pre ++ A ++ C.take (f + vs.length)).length = o + i * E'.sz + f + vs.length := by simp [hA, hp, hlen]; omega
    rw [show (pre ++ (A ++ C ++ B) ++ post).take (o + i * E'.sz + f) = pre ++ A ++ C.take f from by rw [e1, List.take_left' l1]]
    rw [show (pre ++ (A ++ C ++ B) ++ post).drop (o + i * E'.sz + f + vs.length) = C.drop (f + vs.length) ++ B ++ post from by rw [e2, List.drop_left' l2]]
    simp [List.append_assoc]
theorem dv_putEl {T m by' : Nat} {x y : Operand} {b o c i s f : Nat} {v : Value} {xs : List α} {vs : List Value} {z : Value} [hti : TI P T z m by'] (x' : α) (hf : Find L (Sl E' (some ⟨b, o, none⟩) c xs) R) (hx : ev e x = some (.pointer (some ⟨b, o + i * s + f, none⟩))) (hy : ev e y = some v)
    (hvs : v.cells.toList = vs) (hone : ∀ u ∈ vs, u.oneCell' = true) (hm : vs.length = m) (hs : E'.sz = s) (hl : i < xs.length) (hfit : f + vs.length ≤ E'.sz) (hx' : E'.cells x' = (E'.cells xs[i]).take f ++ vs ++ (E'.cells xs[i]).drop (f + vs.length)) :
    DV P w0 (.store T x y) ty e L (fun _ L' => L' = Sl E' (some ⟨b, o, none⟩) c (xs.set i x') :: R) := dv_of_skip fun tm w pos aft h2 h3 => by
  have h3' := h3.find hf
  obtain ⟨H0, hA0, hle0⟩ := h3'.atom
  subst hs
  obtain ⟨row, T', hb, hsz, hput⟩ := Sl.put (w := w) (x' := x') hl hfit hx' hA0
  have hrw := hle0 _ _ hb
  have hrun := run_storeAt (P := P) (v := v) (o := o + i * E'.sz + f) hti (by rw [← hm, ← hvs, Array.length_toList]) (by rw [hvs]; exact hone) hrw (by rw [← hm]; exact hsz)
  refine ⟨_, _, by simp only [execOp, ev_sound h2 hx, ev_sound h2 hy, Sem.run_bind, hrun, Result.andThen_ok, Sem.run_pure]; rfl, rfl, ?_⟩
  rw [hvs, ← hm]
  refine Sat.turn1 (b := b) h3' (fun H hH => ?_) rfl rfl rfl (setRow_at hrw) (fun k hk => setRow_ne hk) (fun H hH => ?_)
  · obtain ⟨_, _, row, T, hb, _⟩ := hH
    rw [hb]; simp
  · exact hput _ (by simp)
theorem flat_drop : ∀ (xs : List α) (m : Nat), flat E' (xs.drop m) = (flat E' xs).drop (m * E'.sz)
  | [], m => by simp
  | x :: xs, 0 => by simp
  | x :: xs, m + 1 => by
    rw [List.drop_succ_cons, flat_drop xs m, flat_cons, show (m + 1) * E'.sz = (E'.cells x).length + m * E'.sz from by rw [E'.len, Nat.add_mul]; omega, ← List.drop_drop, List.drop_left]
theorem dv_copy {dT sT el s by' : Nat} {x y : Operand} {a2 : Option Addr} {b o c m c2 : Nat} {xs ys : List α} {A : HP} {z : Value} [hu : TU P dT (.slice el)] [hux : TU P sT (.slice el)] [hi : TI P el z s by'] (hx : ev e x = some (.slice (some ⟨b, o, none⟩) xs.length c) := by rfl) (hy : ev e y = some (.slice a2 m c2) := by rfl)
    (hv : View A E' a2 ys) (hn : ys.length = min m xs.length) (hf : FindAll L [Sl E' (some ⟨b, o, none⟩) c xs, A] R := by repeat (first | exact FindAll.nil | exact Find.here | apply Find.there | apply FindAll.cons)) (hs : E'.sz = s := by rfl) :
    DV P w0 (.call ⟨.builtin .copy, #[x, y], #[dT, sT]⟩) ty e L (fun v L' => v = .int .i64 (ys.length : Int) ∧ L' = Sl E' (some ⟨b, o, none⟩) c (ys ++ xs.drop ys.length) :: A :: R) := dv_of_run fun tm w pos aft h2 h3 => by
  subst hs
  have h3' := h3.findAll hf
  obtain ⟨i, hinf, hzero, hsz, hbytes⟩ := hi.out
  obtain ⟨H1, hA1, hle1⟩ := (Sat.drop h3').atom
  have hsrc := (src_of_view (P := P) (tx := sT) (c := c2) hv hA1 hle1 hux.out).cells
  have hsrc' : (Builtin.firstCells E'.sz ys.length (.slice a2 m c2)).run P w = .ok (flat E' ys).toArray w := by
    cases a2 <;> exact hsrc
  obtain ⟨H0, hA0, hle0⟩ := h3'.atom
  obtain ⟨hc, hsp, row, T, hrow, pre, post, hr, hp, hq⟩ := hA0
  simp only at hp hrow
  have hrw := hle0 _ _ hrow
  have hle : ys.length ≤ xs.length := by rw [hn]; exact Nat.min_le_right _ _
  have hrl : row.size = o + xs.length * E'.sz + post.length := by rw [← Array.length_toList, hr]; simp [flat_length, hp]; omega
  have hge : ys.length * E'.sz ≤ xs.length * E'.sz := Nat.mul_le_mul_right _ hle
  have hst := run_storeCells_at P b o T (flat E' ys) 0 row w hrw (by rw [flat_length, hrl]; omega) (flat_one E' ys)
  simp only [Nat.add_zero] at hst
  have hrun : (Builtin.copy_ #[dT, sT] ty #[.slice (some ⟨b, o, none⟩) xs.length c, .slice a2 m c2]).run P w = .ok (.int .i64 (ys.length : Int)) (w.setRow b (row.toList.take o ++ flat E' ys ++ row.toList.drop (o + (flat E' ys).length)).toArray) := by
    simp [Builtin.copy_, run_und hu.out, Builtin.lenOf, sizeOf, typeInfo, hinf, hsz, ← hn, hsrc', hst, goInt]
  refine ⟨_, _, _, by simp [execOp, resolve, invoke, builtin, ev_sound h2 hx, ev_sound h2 hy, hrun]; rfl, ⟨rfl, rfl⟩, ?_⟩
  refine Sat.turn1 (b := b) h3' (fun H hH => ?_) rfl rfl rfl (setRow_at hrw) (fun k hk => setRow_ne hk) (fun H hH => ?_)
  · obtain ⟨_, _, row, T, hb, _⟩ := hH
    rw [hb]; simp
  · refine ⟨by simp; omega, rfl, _, T, by simp; rfl, pre, post, ?_, hp, ?_⟩
    · rw [hr, flat_length, flat_append, flat_drop]
      rw [List.append_assoc pre, List.take_left' hp, ← List.drop_drop, List.drop_left' hp, List.drop_append_of_le_length (by rw [flat_length]; exact hge)]
      simp [List.append_assoc]
    · refine Nat.le_trans (Nat.le_of_eq ?_) hq
      simp; congr 1; omega
theorem pv_buildG {T len by' : Nat} {fl : List Field} {parts : Array (Nat × Operand)} {z : Value} {vs : List Value} {ps : List (Nat × Nat)} (cells : List Value) [hu : TU P T (.struct fl.toArray)] [hi : TI P T z len by'] [hs : TS P fl ps]
    (hv : evl e (parts.toList.map (·.2)) = some vs := by rfl) (hf : Instr.fill (fun i => ps.toArray[i]?) z.cells ((parts.toList.map (·.1)).zip vs) = some cells.toArray := by rfl) : PV P (.build T parts) ty e (.agg cells.toArray) := fun tm w pos aft h2 => by
  have h4 := evl_sound (ds := []) h2 hv
  have hparts : parts.toList.map (fun x => (x.fst, (Act.mk tm []).eval x.snd)) = (parts.toList.map (·.1)).zip vs := by
    rw [← h4]
    generalize parts.toList = l
    induction l with
    | nil => rfl
    | cons p l ih => simp [ih]
  have hus : (underlying T).run P w = .ok (.struct fl.toArray) w := run_und hu.out
  simp only [execOp, Instr.build, Sem.run_bind, run_zero hi, Result.andThen_ok, hus, List.mapM_toArray, Sem.run_map, hs.out]
  have hp2 : (Array.map (fun x : Nat × Operand => match x with | (i, x) => (i, (Act.mk tm []).eval x)) parts).toList = (parts.toList.map (·.1)).zip vs := by rw [Array.toList_map]; exact hparts
  rw [hp2]
  have hf' : Instr.fill (fun x => ps.toArray[x]?) z.cells ((parts.toList.map (·.1)).zip vs) = some cells.toArray := hf
  rw [hf']
  rfl
theorem pv_build0 {T len by' : Nat} {fl : List Field} {z : Value} {ps : List (Nat × Nat)} {cells : List Value} [hu : TU P T (.struct fl.toArray)] [hi : TI P T z len by'] [hs : TS P fl ps] (hz : z.cells = cells.toArray := by rfl) : PV P (.build T #[]) ty e (.agg cells.toArray) :=
  pv_buildG cells (vs := []) rfl (by rw [← hz]; rfl)
def Told (P : Program) (w0 : World) (e : Env) (L : List HP) (r : ResultVar) (v : Value) : Prop := ∀ tm w, Agree e tm → Sat w0 w L → ((match r with | .tmp t => pure (tm.getD t undef) | .cell a t => do loadVar t (← asAddr (tm.getD a undef)) : Sem Value)).run P w = .ok v w
theorem told_tmp {t : Nat} {v : Value} (h : e.get t = some v := by rfl) : Told P w0 e L (.tmp t) v := fun tm w h2 h3 => by
  have h4 := h2 t _ h
  simp [h4]
theorem told_cell {T t : TypeId} {b s by' : Nat} {row : List Value} {T' : TypeId} {fr : Nat × Nat} {dd : TypeDesc} {z : Value} [hu : TU P T dd] [hi : TI P T z s by'] (ht : e.get t = some (.pointer (some ⟨b, 0, none⟩)) := by rfl) (hg : aggD dd = true := by rfl) (hl : row.length = s := by rfl)
    (hf : Find L (pt b (.cells row.toArray T' fr)) R := by repeat (first | exact Find.here | apply Find.there)) : Told P w0 e L (.cell t T) (.agg row.toArray) := by
  intro tm w h2 h3
  have h4 := h2 t _ ht
  have h5 := (holds_pt (b := b) (o := 0) (row := row) (T := T') (fr := fr) (vs := row) (by simp)).cell (h3.find hf)
  simp only [Nat.zero_add] at h5
  have h6 := run_loadAtA (P := P) (w := w) (b := b) (o := 0) hu.out hg hi hl (by simpa using h5)
  simp only [Instr.loadAt, Instr.sureAddr, Sem.run_bind, Sem.run_pure, Result.andThen_ok] at h6
  simp [h4, asAddr, h6]
def ToldAll (P : Program) (w0 : World) (e : Env) (L : List HP) : List ResultVar → List Value → Prop
  | [], [] => True
  | r :: rs, v :: vs => Told P w0 e L r v ∧ ToldAll P w0 e L rs vs
  | _, _ => False
theorem tells_many {fn : Func} {rs : List ResultVar} {vs : List Value} (hr : fn.results = rs.toArray) (h : ToldAll P w0 e L rs vs) : Tells ⟨P, w0, n, Q⟩ fn e L (tup vs) := by
  intro tm w _ h2 h3
  have key : ∀ (rs : List ResultVar) (vs : List Value), ToldAll P w0 e L rs vs → (rs.mapM (m := Sem) fun | .tmp t => pure (tm.getD t undef) | .cell a t => do loadVar t (← asAddr (tm.getD a undef))).run P w = .ok vs w := by
    intro rs
    induction rs with
    | nil => intro vs hv; cases vs with
      | nil => rfl
      | cons => cases hv
    | cons r rs ih => intro vs hv; cases vs with
      | nil => cases hv
      | cons v vs =>
        have h4 := hv.1 tm w h2 h3
        have h5 := ih vs hv.2
        simp only [List.mapM_cons, Sem.run_bind, h4, Result.andThen_ok, h5, Sem.run_pure]
  have := key rs vs h
  unfold results
  rw [hr]
  simp only [List.mapM_toArray, Sem.run_map, Sem.run_bind]
  erw [this]
  simp only [Result.andThen_ok]
  cases vs with
  | nil => rfl
  | cons v l => cases l <;> simp [tup]
end
end Go.Proofs.YtamecmklcnohjaaGreat.Sep
namespace Go.Proofs.YtamecmklcnohjaaGreat.Sep
open Go.RowKit
set_option linter.unusedSimpArgs false
set_option linter.unusedVariables false
section
variable {P : Program} {w0 : World} {n : Nat} {Q : Exit → Act → World → Prop} {k : List KI} {e : Env} {L R : List HP} {all : Array Oper} {rest : List Oper} {ty : TypeId} {pos : String} {aft : Array Edge} {d : Nat}
variable {α κ : Type} {E' : E α}
theorem pv_indexArr {T el s by' len : Nat} {x i : Operand} {z : Value} {b o : Nat} {kk : IntKind} {iv : Int} [hu : TU P T (.array len el)] [hi : TI P el z s by'] (hx : ev e x = some (.pointer (some ⟨b, o, none⟩)) := by rfl) (hiv : ev e i = some (.int kk iv) := by rfl)
    (h0 : 0 ≤ iv := by omega) (h1 : iv < (len : Int) := by omega) : PV P (.indexAddr T x i) ty e (.pointer (some ⟨b, o + iv.toNat * s, none⟩)) :=
  fun tm w pos aft h => by
    have h2 : (underlying T).run P w = .ok (.array len el) w := run_und hu.out
    have h3 : (Addr.mk b o none).add (iv.toNat * s) = ⟨b, o + iv.toNat * s, none⟩ := by unfold Addr.add; split <;> simp_all
    simp [execOp, Instr.indexAt, ev_sound h hx, ev_sound h hiv, asIntOf, Instr.sureAddr, h2, h0, h1, run_size hi, h3]
theorem pv_sliceArr {T el s by' len : Nat} {x : Operand} {z : Value} {b o : Nat} [hu : TU P T (.array len el)] [hi : TI P el z s by'] (hx : ev e x = some (.pointer (some ⟨b, o, none⟩)) := by rfl) : PV P (.slice T x none none none) ty e (.slice (some ⟨b, o, none⟩) len len) :=
  fun tm w pos aft h => by
    have h2 : (underlying T).run P w = .ok (.array len el) w := run_und hu.out
    have h3 : ∀ m, (Addr.mk b o none).add (0 * m) = ⟨b, o, none⟩ := fun m => by unfold Addr.add; split <;> simp_all
    have h4 : P.elem T = el := by unfold Program.elem; rw [hu.out]
    have h5 : P.arrayLen T = len := by unfold Program.arrayLen; rw [hu.out]
    have h6 := run_sliceAt_array_all (P := P) w T ⟨b, o, none⟩ (by rw [h4, h5]; exact hu.out)
    rw [h4, h5] at h6
    have h7 := h3 0
    rw [Nat.zero_mul] at h7
    simp [execOp, ev_sound h hx, h6, run_size hi, slicedAt, h7]
def RecAre (P : Program) : Nat → List Field → List IntKind → Prop
  | _, [], [] => True
  | o, f :: fs, k :: ks => f.name ≠ "_" ∧ f.offset = o ∧ P.underlying f.type = some (.int k) ∧ RecAre P (o + 1) fs ks
  | _, _, _ => False
class TEq (P : Program) (T : TypeId) (ks : outParam (List IntKind)) : Prop where
  out : ∃ fl : List Field, P.underlying T = some (.struct fl.toArray) ∧ P.stoodInHeld T = false ∧ P.eqGuardType P.depth T = false ∧ RecAre P 0 fl ks
theorem run_part1 {t : TypeId} {kk : IntKind} (h : P.underlying t = some (.int kk)) {X : Array Value} {o : Nat} {v : Value} (hv : X[o]? = some v) (w : World) : (part t X o).run P w = .ok v w := by
  simp [part, run_isAgg h, aggD, hv]
theorem run_eqFields {w : World} {d : Nat} {X Y : Array Value} : ∀ (fl : List Field) (ks : List IntKind) (o : Nat) (xs ys : List Int), RecAre P o fl ks → xs.length = ks.length → ys.length = ks.length →
    (∀ j v, (recCells ks xs)[j]? = some v → X[o + j]? = some v) → (∀ j v, (recCells ks ys)[j]? = some v → Y[o + j]? = some v) → (Op.eqFields (d + 1) X Y fl).run P w = .ok (decide (xs = ys)) w
  | [], [], o, xs, ys, _, hx, hy, _, _ => by
    obtain rfl : xs = [] := List.length_eq_zero_iff.1 hx
    obtain rfl : ys = [] := List.length_eq_zero_iff.1 hy
    simp [Op.eqFields]
  | [], _ :: _, _, _, _, h, _, _, _, _ => by cases h
  | _ :: _, [], _, _, _, h, _, _, _, _ => by cases h
  | f :: fs, kk :: ks, o, [], _, _, hx, _, _, _ => by cases hx
  | f :: fs, kk :: ks, o, _ :: _, [], _, _, hy, _, _ => by cases hy
  | f :: fs, kk :: ks, o, x :: xs, y :: ys, h, hx, hy, hX, hY => by
    obtain ⟨h1, h2, h3, h4⟩ := h
    have ih := run_eqFields (w := w) (d := d) (X := X) (Y := Y) fs ks (o + 1) xs ys h4 (by simpa using hx) (by simpa using hy)
      (fun j v hj => by have := hX (j + 1) v (by simpa [recCells] using hj); rwa [show o + 1 + j = o + (j + 1) from by omega])
      (fun j v hj => by have := hY (j + 1) v (by simpa [recCells] using hj); rwa [show o + 1 + j = o + (j + 1) from by omega])
    have e1 : X[o]? = some (.int kk x) := hX 0 _ (by simp [recCells])
    have e2 : Y[o]? = some (.int kk y) := hY 0 _ (by simp [recCells])
    unfold Op.eqFields
    rw [if_pos h1, h2]
    simp only [Sem.run_bind, run_part1 h3 e1, run_part1 h3 e2, Result.andThen_ok, run_eqInt h3, Sem.run_ite, ih]
    by_cases hxy : x = y
    · simp [hxy]
    · simp [hxy]
theorem run_eqRec {T : TypeId} {ks : List IntKind} (ht : TEq P T ks) (xs ys : List Int) (hx : xs.length = ks.length) (hy : ys.length = ks.length) (w : World) :
    (Op.equal T (.agg (recCells ks xs).toArray) (.agg (recCells ks ys).toArray)).run P w = .ok (decide (xs = ys)) w := by
  obtain ⟨fl, hu, hs, _, hr⟩ := ht.out
  have hf : P.fieldsOf T = fl.toArray := by unfold Program.fieldsOf; rw [hu]
  have h1 : (Op.equal T (.agg (recCells ks xs).toArray) (.agg (recCells ks ys).toArray)).run P w = _ := run_equalIn_struct (P := P) w 9999 T (recCells ks xs).toArray (recCells ks ys).toArray (by rw [hf]; exact hu) hs
  rw [hf] at h1
  rw [h1]
  exact run_eqFields (d := 9998) fl ks 0 xs ys hr hx hy (fun j v hj => by simpa using hj) (fun j v hj => by simpa using hj)
theorem run_guard_agg {op : BinOp} {t : TypeId} {x y : Operand} {a b : Array Value} (h : P.eqGuardType P.depth t = false) {w : World} : (eqGuard op t x y (.agg a) (.agg b)).run P w = .ok () w := by
  cases op <;> simp [eqGuard, h]
theorem pv_eqRec {t t' : TypeId} {x y : Operand} {ks : List IntKind} (xs ys : List Int) [ht : TEq P t ks] (hx : ev e x = some (.agg (recCells ks xs).toArray) := by rfl) (hy : ev e y = some (.agg (recCells ks ys).toArray) := by rfl) (lx : xs.length = ks.length := by rfl) (ly : ys.length = ks.length := by rfl) :
    PV P (.binOp .eql t x y t') ty e (.bool (decide (xs = ys))) :=
  fun tm w pos aft h => by
    obtain ⟨_, _, _, hq, _⟩ := ht.out
    simp only [execOp, ev_sound h hx, ev_sound h hy, Sem.run_bind, run_guard_agg hq, Result.andThen_ok]
    simp [binOp, run_eqRec ht xs ys lx ly]
theorem pv_neRec {t t' : TypeId} {x y : Operand} {ks : List IntKind} (xs ys : List Int) [ht : TEq P t ks] (hx : ev e x = some (.agg (recCells ks xs).toArray) := by rfl) (hy : ev e y = some (.agg (recCells ks ys).toArray) := by rfl) (lx : xs.length = ks.length := by rfl) (ly : ys.length = ks.length := by rfl) :
    PV P (.binOp .neq t x y t') ty e (.bool (!decide (xs = ys))) :=
  fun tm w pos aft h => by
    obtain ⟨_, _, _, hq, _⟩ := ht.out
    simp only [execOp, ev_sound h hx, ev_sound h hy, Sem.run_bind, run_guard_agg hq, Result.andThen_ok]
    simp [binOp, run_eqRec ht xs ys lx ly]
theorem rv_elS {T : TypeId} {x : Operand} {b o c s m by' : Nat} {xs : List α} {vs : List Value} {dd : TypeDesc} {z : Value} (i f : Nat) [hu : TU P T dd] [hi : TI P T z m by'] (hf : Find L (Sl E' (some ⟨b, o, none⟩) c xs) R := by repeat (first | exact Find.here | apply Find.there)) (hx : ev e x = some (.pointer (some ⟨b, o + i * s + f, none⟩)) := by rfl)
    (hg : aggD dd = true := by rfl) (hs : E'.sz = s := by rfl) (hl : i < xs.length := by omega) (hv : ((E'.cells xs[i]).drop f).take m = vs := by rfl) (hm : vs.length = m := by rfl) (hfit : f + m ≤ E'.sz := by decide) : RV P w0 (.load T x) ty e L (.agg vs.toArray) := by
  subst hs
  have hget : xs[i]? = some xs[i] := by simp [hl]
  exact rv_loadA hg hf hx hm (holds_sl (f := f) (vs := vs) hget (by rw [hm]; exact hv) (by rw [hm]; exact hfit))
theorem Sat.turn1w {w0 w w' : World} {A B : HP} {L : List HP} {b : Nat} {o' : Obj} (h : Sat w0 w (A :: L)) (hA : ∀ H, A H → H b ≠ none) (h1 : w'.os = w.os) (h2 : w'.tape = w.tape) (h3 : w'.output = w.output)
    (hb : w'.heap[b]? = some o') (hk : ∀ k, k ≠ b → w'.heap[k]? = w.heap[k]?) (hB : ∀ H, A H → PH.le H w → B (fun k => if k = b then some o' else H k)) : Sat w0 w' (B :: L) := by
  refine h.turn h1 h2 h3 fun H1 hA1 hle => ⟨fun k => if k = b then some o' else H1 k, hB H1 hA1 hle, fun k o ho => ?_, fun k hne => ?_, fun k hn hne => ?_⟩
  · by_cases e : k = b
    · subst e; simp at ho; rw [← ho]; exact hb
    · simp [e] at ho; rw [hk k e]; exact hle k o ho
  · by_cases e : k = b
    · left; rw [e]; exact hA H1 hA1
    · simp [e] at hne; exact .inl hne
  · have e : k ≠ b := by rintro rfl; exact hA H1 hA1 hn
    exact hk k e
theorem leftOf_push {es : Array MapEntry} {seen : Array Nat} (hnd : (es.toList.map (·.born)).Nodup) {j : Nat} (hj : j < (leftOf es seen).size) : (leftOf es (seen.push (leftOf es seen)[j].born)).toList = (leftOf es seen).toList.take j ++ (leftOf es seen).toList.drop (j + 1) := by
  have h1 : leftOf es (seen.push (leftOf es seen)[j].born) = (leftOf es seen).filter (fun x => x.born != (leftOf es seen)[j].born) := by
    unfold leftOf
    rw [Array.filter_filter]
    congr 1; funext x
    rw [contains_push]
    cases seen.contains x.born <;> simp [bne]
  rw [h1, Array.toList_filter]
  have hnd2 : ((leftOf es seen).toList.map (·.born)).Nodup := by
    have : (leftOf es seen).toList = es.toList.filter (fun e => !seen.contains e.born) := by unfold leftOf; rw [Array.toList_filter]
    rw [this]
    exact (List.Sublist.map _ List.filter_sublist).nodup hnd
  have hj' : j < (leftOf es seen).toList.length := by simpa using hj
  have hget : (leftOf es seen)[j] = (leftOf es seen).toList[j] := by simp
  rw [hget]
  clear hget h1 hnd hj
  generalize (leftOf es seen).toList = l at hnd2 hj' ⊢
  induction l generalizing j with
  | nil => simp at hj'
  | cons x l ih =>
    rw [List.map_cons, List.nodup_cons] at hnd2
    cases j with
    | zero =>
      simp only [List.getElem_cons_zero, List.take_zero, List.nil_append, Nat.zero_add, List.drop_succ_cons, List.drop_zero]
      rw [List.filter_cons_of_neg (by simp)]
      rw [List.filter_eq_self]
      intro y hy
      simp only [bne_iff_ne, ne_eq]
      intro h
      exact hnd2.1 (List.mem_map.2 ⟨y, hy, h⟩)
    | succ j =>
      simp only [List.getElem_cons_succ, List.take_succ_cons, List.drop_succ_cons, List.cons_append]
      have hj2 : j < l.length := by simpa using hj'
      rw [List.filter_cons_of_pos, ih hnd2.2 hj2]
      simp only [bne_iff_ne, ne_eq]
      intro h
      exact hnd2.1 (List.mem_map.2 ⟨l[j], List.getElem_mem hj2, h.symm⟩)
variable {ke : κ → Value} {ve : α → Value}
def MpI {κ α : Type} (ke : κ → Value) (ve : α → Value) (b r : Nat) (l todo : List (κ × α)) : HP := fun H => (l.map (·.1)).Nodup ∧ ∃ es clock seen, H b = some (.map es clock) ∧ H r = some (.mapIter (some b) clock seen clock) ∧
  es.toList.map (fun e => (e.key, e.val)) = l.map (fun p => (ke p.1, ve p.2)) ∧ (∀ e ∈ es.toList, e.born < clock) ∧ (es.toList.map (·.born)).Nodup ∧
  (leftOf es seen).toList.map (fun e => (e.key, e.val)) = todo.map (fun p => (ke p.1, ve p.2))
theorem MpI.done {b r : Nat} {l todo : List (κ × α)} : ∀ H, MpI ke ve b r l todo H → Mp ke ve b l H := by
  rintro H ⟨h1, es, clock, seen, h2, h3, h4, h5, h6, h7⟩
  exact ⟨h1, es, clock, h2, h4, h5, h6⟩
theorem leftOf_none (es : Array MapEntry) : leftOf es #[] = es := by
  unfold leftOf
  exact Array.filter_eq_self.2 (fun x _ => by simp)
theorem dv_range {T K el : Nat} {x : Operand} {b : Nat} {l : List (κ × α)} [hu : TU P T (.map K el)] (hx : ev e x = some (.map (some b)) := by rfl) (hf : Find L (Mp ke ve b l) R := by repeat (first | exact Find.here | apply Find.there)) :
    DV P w0 (.range T x) ty e L (fun v L' => ∃ r, v = .pointer (some ⟨r, 0, none⟩) ∧ L' = MpI ke ve b r l l :: R) := dv_of_run fun tm w pos aft h2 h3 => by
  have h3' := h3.find hf
  obtain ⟨hn, es, clock, hb, hl, hold, hnd⟩ := Mp.at h3'
  refine ⟨_, _, _, by simp only [execOp, ev_sound h2 hx, run_range_map w T K el b es clock hu.out hb, Sem.run_bind, Result.andThen_ok, Sem.run_pure]; rfl, ⟨_, rfl, rfl⟩, ?_⟩
  have hlt : b < w.heap.size := (Array.getElem?_eq_some_iff.1 hb).1
  refine Sat.turn h3' rfl rfl rfl (fun H1 hA hle => ?_)
  refine ⟨fun x => if x = w.heap.size then some (.mapIter (some b) clock #[] clock) else H1 x, ?_, ?_, ?_, ?_⟩
  · obtain ⟨_, es', clock', hb', _⟩ := hA
    have := hle _ _ hb'
    rw [hb] at this
    obtain ⟨rfl, rfl⟩ : es = es' ∧ clock = clock' := by simpa using this
    refine ⟨hn, es, clock, #[], ?_, by simp, hl, hold, hnd, by rw [leftOf_none]; exact hl⟩
    show (if b = w.heap.size then _ else H1 b) = _
    rw [if_neg (by omega)]; exact hb'
  · intro x o hx
    by_cases hxr : x = w.heap.size
    · simp [hxr] at hx; subst hx; rw [hxr]; exact heap_alloc_new w _
    · simp [hxr] at hx
      have := hle _ _ hx
      rw [heap_alloc_old w _ (Array.getElem?_eq_some_iff.1 this).1]; exact this
  · intro x hx
    by_cases hxr : x = w.heap.size
    · right; subst hxr; exact Array.getElem?_eq_none (Nat.le_refl _)
    · left; simpa [hxr] using hx
  · intro x _ hx
    have : x < w.heap.size := by
      rcases Nat.lt_or_ge x w.heap.size with h | h
      · exact h
      · exact absurd (Array.getElem?_eq_none h) hx
    rw [heap_alloc_old w _ this]
end
section
variable {P : Program} {w0 : World} {n : Nat} {Q : Exit → Act → World → Prop} {ops : Array Oper} {k : List KI} {D : Pend} {vl : List Nat} {e : Env} {L R : List HP} {i d : Nat} {op : Op} {ty : TypeId} {pos : String} {aft : Array Edge} {v : Value}
def GOK (ops : Array Oper) (e : Env) : Option (Nat × Bool) → Prop
  | none => True
  | some (j, want) => ∃ t, (ops[j]?).bind (·.dst) = some t ∧ e.get t = some (.bool want)
theorem gok_wanted {g : Option (Nat × Bool)} (hg : GOK ops e g) {tm : Array Value} (ha : Agree (restr e (Oper.looksAt ops ⟨some d, op, ty, pos, aft, g⟩)) tm) : Region.wanted ⟨some d, op, ty, pos, aft, g⟩ (yielded ops tm) = true := by
  cases g with
  | none => rfl
  | some q =>
    obtain ⟨j, want⟩ := q
    obtain ⟨t, hj, ht⟩ := hg
    rw [wanted_of hj ht ha]; simp
theorem XDi_pvA {g : Option (Nat × Bool)} (hv : PV P op ty (restr e (Oper.looksAt ops ⟨some d, op, ty, pos, aft, g⟩)) v) (hg : GOK ops e g := by first | exact True.intro | exact ⟨_, rfl, rfl⟩)
    (hl : (Oper.looksAt ops ⟨some d, op, ty, pos, aft, g⟩).contains d = false := by kernel_rfl) (hdis : (D.all fun p => match ops[p.1]? with | some oj => !(oj.looksAt ops).contains d | none => true) = true := by kernel_rfl) (hdn : d < n := by exact Nat.le_of_ble_eq_true rfl)
    (h : XD ⟨P, w0, n, Q⟩ ops k ((i, v, true) :: D) (i :: vl) ((d, v) :: e) L) : XDi ⟨P, w0, n, Q⟩ ops k D vl e L i ⟨some d, op, ty, pos, aft, g⟩ :=
  XDi_gen (b := true) (fun _ ha => gok_wanted hg ha) (fun tm w pos aft ha _ => hv tm w pos aft ha) hl hdis hdn h
theorem XDi_rvA {g : Option (Nat × Bool)} (hv : RV P w0 op ty (restr e (Oper.looksAt ops ⟨some d, op, ty, pos, aft, g⟩)) L v) (hg : GOK ops e g := by first | exact True.intro | exact ⟨_, rfl, rfl⟩)
    (hl : (Oper.looksAt ops ⟨some d, op, ty, pos, aft, g⟩).contains d = false := by kernel_rfl) (hdis : (D.all fun p => match ops[p.1]? with | some oj => !(oj.looksAt ops).contains d | none => true) = true := by kernel_rfl) (hdn : d < n := by exact Nat.le_of_ble_eq_true rfl)
    (h : XD ⟨P, w0, n, Q⟩ ops k ((i, v, false) :: D) (i :: vl) ((d, v) :: e) L) : XDi ⟨P, w0, n, Q⟩ ops k D vl e L i ⟨some d, op, ty, pos, aft, g⟩ :=
  XDi_gen (b := false) (fun _ ha => gok_wanted hg ha) (fun tm w pos aft ha hs => hv tm w pos aft ha (hs rfl)) hl hdis hdn h
theorem XDi_gU {j t : Nat} {want : Bool} (hj : (ops[j]?).bind (·.dst) = some t := by rfl) (ht : e.get t = some undef := by rfl)
    (hl : (Oper.looksAt ops ⟨some d, op, ty, pos, aft, some (j, want)⟩).contains d = false := by kernel_rfl) (hdis : (D.all fun p => match ops[p.1]? with | some oj => !(oj.looksAt ops).contains d | none => true) = true := by kernel_rfl) (hdn : d < n := by exact Nat.le_of_ble_eq_true rfl)
    (h : XD ⟨P, w0, n, Q⟩ ops k ((i, undef, true) :: D) (i :: vl) ((d, undef) :: e) L) : XDi ⟨P, w0, n, Q⟩ ops k D vl e L i ⟨some d, op, ty, pos, aft, some (j, want)⟩ := by
  intro ho hi hr
  refine XD_read ho rfl hi hr hl hdis hdn ?_ h
  intro tm w ha _
  refine .inr ⟨?_, rfl⟩
  have h1 := ha t undef (by rw [restr_get, if_pos (guard_looks hj)]; exact ht)
  have : yielded ops tm j = none := by unfold yielded; rw [hj]; simp [h1, undef]
  simp [Region.wanted, this]
theorem XO_gU {all : Array Oper} {rest : List Oper} {op : Op} {j t : Nat} {want : Bool} (hj : (all[j]?).bind (·.dst) = some t := by rfl) (ht : e.get t = some undef := by rfl) (hd : d < n := by exact Nat.le_of_ble_eq_true rfl)
    (hk : XO ⟨P, w0, n, Q⟩ all k rest ((d, undef) :: e) L) : XO ⟨P, w0, n, Q⟩ all k (⟨some d, op, ty, pos, aft, some (j, want)⟩ :: rest) e L := by
  intro tm w h1 h2 h3
  have h4 := h2 t _ ht
  have hyi : yielded all tm j = none := by unfold yielded; rw [hj]; simp [h4, undef]
  unfold wpList
  rw [if_neg (show ¬ Region.wanted _ _ = true by simp [Region.wanted, hyi])]
  exact hk _ w (by simp [h1]) (h2.put (by rw [h1]; exact hd)) h3
theorem XDa_dvA {g : Option (Nat × Bool)} {Φ : Value → List HP → Prop} (hv : DV P w0 op ty (restr e (Oper.looksAt ops ⟨some d, op, ty, pos, aft, g⟩)) L Φ) (hg : GOK ops e g := by first | exact True.intro | exact ⟨_, rfl, rfl⟩) (hdn : d < n := by exact Nat.le_of_ble_eq_true rfl)
    (hk : ∀ v L', Φ v L' → Keeps ⟨P, w0, n, Q⟩ ops ((d, v) :: e) L' (D.filter fun p => !p.2.2 && !waits ops aft p.1) ∧ XD ⟨P, w0, n, Q⟩ ops k (D.filter fun p => !waits ops aft p.1) (i :: vl) ((d, v) :: e) L') : XDa ⟨P, w0, n, Q⟩ ops k D vl e L i ⟨some d, op, ty, pos, aft, g⟩ :=
  acts_gen (fun _ ha => gok_wanted hg ha) hv (fun x hx => by cases hx; exact hdn) (fun v L' h => hk v L' h)
theorem keeps_takeA {f : Nat × Value × Bool → Bool} {j : Nat} {K : Pend} {b : Bool} {g : Option (Nat × Bool)} (ho : ops[j]? = some ⟨some d, op, ty, pos, aft, g⟩ := by rfl) (hv : RV P w0 op ty (restr e (Oper.looksAt ops ⟨some d, op, ty, pos, aft, g⟩)) L v) (hg : GOK ops e g := by first | exact True.intro | exact ⟨_, rfl, rfl⟩) (hb : b = false := by rfl) (h : Keeps ⟨P, w0, n, Q⟩ ops e L (List.filter f K)) :
    Keeps ⟨P, w0, n, Q⟩ ops e L (List.filter f ((j, v, b) :: K)) := by
  intro p hp
  rcases List.mem_cons.1 (List.mem_filter.1 hp).1 with rfl | hq
  · intro o ho' tm w ha hs
    obtain rfl := Option.some.inj (ho.symm.trans ho')
    exact .inl ⟨gok_wanted hg ha, .inl (hv tm w pos aft ha (hs hb))⟩
  · exact h p (List.mem_filter.2 ⟨hq, (List.mem_filter.1 hp).2⟩)
theorem XD_head {C : Cx} {o : Oper} (hi : (readyV ops vl).head? = some i := by rfl) (ho : ops[i]? = some o := by rfl) (h : XDi C ops k D vl e L i o) : XD C ops k D vl e L := by
  obtain ⟨h1, o', ho', h2⟩ := mem_readyV.1 (List.mem_of_head? hi)
  obtain rfl := Option.some.inj (ho.symm.trans ho')
  exact h ho (by simpa using h1) h2
theorem XDi_either {j t : Nat} {want b : Bool} {dd : Option Nat} (hj : (ops[j]?).bind (·.dst) = some t := by rfl) (ht : e.get t = some (.bool b) := by rfl)
    (hT : b = true → XDi ⟨P, w0, n, Q⟩ ops k D vl ((t, .bool true) :: e) L i ⟨dd, op, ty, pos, aft, some (j, want)⟩) (hF : b = false → XDi ⟨P, w0, n, Q⟩ ops k D vl ((t, .bool false) :: e) L i ⟨dd, op, ty, pos, aft, some (j, want)⟩) :
    XDi ⟨P, w0, n, Q⟩ ops k D vl e L i ⟨dd, op, ty, pos, aft, some (j, want)⟩ := fun ho hi hr => XD_split t ht (fun h => hT h ho hi hr) (fun h => hF h ho hi hr)
theorem XDi_known {j t : Nat} {want b : Bool} {dd : Option Nat} (v : Bool) (hj : (ops[j]?).bind (·.dst) = some t := by rfl) (ht : e.get t = some (.bool b) := by rfl) (hb : b = v)
    (hT : XDi ⟨P, w0, n, Q⟩ ops k D vl ((t, .bool v) :: e) L i ⟨dd, op, ty, pos, aft, some (j, want)⟩) :
    XDi ⟨P, w0, n, Q⟩ ops k D vl e L i ⟨dd, op, ty, pos, aft, some (j, want)⟩ := fun ho hi hr => XD_reval t _ ht (congrArg Value.bool hb) (hT ho hi hr)
theorem Dp {g : Option (Nat × Bool)} (hv : PV P op ty (restr e (Oper.looksAt ops ⟨some d, op, ty, pos, aft, g⟩)) v) (h : XD ⟨P, w0, n, Q⟩ ops k ((i, v, true) :: D) (i :: vl) ((d, v) :: e) L) (hg : GOK ops e g := by first | exact True.intro | exact ⟨_, rfl, rfl⟩)
    (hl : (Oper.looksAt ops ⟨some d, op, ty, pos, aft, g⟩).contains d = false := by kernel_rfl) (hdis : (D.all fun p => match ops[p.1]? with | some oj => !(oj.looksAt ops).contains d | none => true) = true := by kernel_rfl) (hdn : d < n := by exact Nat.le_of_ble_eq_true rfl) :
    XDi ⟨P, w0, n, Q⟩ ops k D vl e L i ⟨some d, op, ty, pos, aft, g⟩ := XDi_pvA hv hg hl hdis hdn h
theorem Dr {g : Option (Nat × Bool)} (hv : RV P w0 op ty (restr e (Oper.looksAt ops ⟨some d, op, ty, pos, aft, g⟩)) L v) (h : XD ⟨P, w0, n, Q⟩ ops k ((i, v, false) :: D) (i :: vl) ((d, v) :: e) L) (hg : GOK ops e g := by first | exact True.intro | exact ⟨_, rfl, rfl⟩)
    (hl : (Oper.looksAt ops ⟨some d, op, ty, pos, aft, g⟩).contains d = false := by kernel_rfl) (hdis : (D.all fun p => match ops[p.1]? with | some oj => !(oj.looksAt ops).contains d | none => true) = true := by kernel_rfl) (hdn : d < n := by exact Nat.le_of_ble_eq_true rfl) :
    XDi ⟨P, w0, n, Q⟩ ops k D vl e L i ⟨some d, op, ty, pos, aft, g⟩ := XDi_rvA hv hg hl hdis hdn h
end
end Go.Proofs.YtamecmklcnohjaaGreat.Sep
namespace Go.Proofs.YtamecmklcnohjaaGreat.Sep
open Go.RowKit
set_option linter.unusedSimpArgs false
set_option linter.unusedVariables false
section
variable {P : Program} {w0 : World} {n : Nat} {Q : Exit → Act → World → Prop} {k : List KI} {e : Env} {L R : List HP} {all : Array Oper} {rest : List Oper} {ty : TypeId} {pos : String} {aft : Array Edge} {d : Nat}
variable {α : Type} {E' : E α}
def subA (a : Option Addr) (l cap s : Nat) : Option Addr := if cap = l then a else a.map (·.add (l * s))
theorem elem_of {T el : TypeId} (hu : P.underlying T = some (.slice el)) : P.elem T = el := by unfold Program.elem; rw [hu]
theorem pv_sliceL {T el s by' : Nat} {x lo : Operand} {z : Value} {a : Option Addr} {len cap : Nat} {kl : IntKind} {l : Int} [hu : TU P T (.slice el)] [hti : TI P el z s by'] (hx : ev e x = some (.slice a len cap) := by rfl) (hh : ev e lo = some (.int kl l) := by rfl)
    (h0 : 0 ≤ l := by omega) (h1 : l ≤ (len : Int) := by omega) : PV P (.slice T x (some lo) none none) ty e (.slice (subA a l.toNat cap s) (len - l.toNat) (cap - l.toNat)) := fun tm w pos aft ha => by
  have hel := elem_of hu.out
  have hr1 := run_sliceAt_slice (P := P) (w := w) T (.slice a len cap) (some (.int kl l)) none none (by rw [hel]; exact hu.out)
  have hr2 := run_slice_l (P := P) (w := w) T a len cap (by rw [hel]; exact hu.out) kl l h0 h1
  have hsz : (sizeOf (P.elem T)).run P w = .ok s w := by rw [hel]; exact run_size hti
  simp [execOp, ev_sound ha hx, ev_sound ha hh, hr1, hr2, hsz, sliced, subA]
theorem pv_sliceLH {T el s by' : Nat} {x lo hi : Operand} {z : Value} {a : Option Addr} {len cap : Nat} {kl kh : IntKind} {l h : Int} [hu : TU P T (.slice el)] [hti : TI P el z s by'] (hx : ev e x = some (.slice a len cap) := by rfl) (hlo : ev e lo = some (.int kl l) := by rfl) (hhi : ev e hi = some (.int kh h) := by rfl)
    (h0 : 0 ≤ l := by omega) (h1 : l ≤ h := by omega) (h2 : h ≤ (cap : Int) := by omega) : PV P (.slice T x (some lo) (some hi) none) ty e (.slice (subA a l.toNat cap s) (h.toNat - l.toNat) (cap - l.toNat)) := fun tm w pos aft ha => by
  have hel := elem_of hu.out
  have hr1 := run_sliceAt_slice (P := P) (w := w) T (.slice a len cap) (some (.int kl l)) (some (.int kh h)) none (by rw [hel]; exact hu.out)
  have hr2 := run_slice_lh (P := P) (w := w) T a len cap (by rw [hel]; exact hu.out) kl kh l h h0 h1 h2
  have hsz : (sizeOf (P.elem T)).run P w = .ok s w := by rw [hel]; exact run_size hti
  simp [execOp, ev_sound ha hx, ev_sound ha hlo, ev_sound ha hhi, hr1, hr2, hsz, sliced, subA]
theorem pv_sliceLHM {T el s by' : Nat} {x lo hi mx : Operand} {z : Value} {a : Option Addr} {len cap : Nat} {kl kh km : IntKind} {l h m : Int} [hu : TU P T (.slice el)] [hti : TI P el z s by'] (hx : ev e x = some (.slice a len cap) := by rfl) (hlo : ev e lo = some (.int kl l) := by rfl) (hhi : ev e hi = some (.int kh h) := by rfl) (hmx : ev e mx = some (.int km m) := by rfl)
    (h0 : 0 ≤ l := by omega) (h1 : l ≤ h := by omega) (h2 : h ≤ m := by omega) (h3 : m ≤ (cap : Int) := by omega) : PV P (.slice T x (some lo) (some hi) (some mx)) ty e (.slice (subA a l.toNat m.toNat s) (h.toNat - l.toNat) (m.toNat - l.toNat)) := fun tm w pos aft ha => by
  have hel := elem_of hu.out
  have hr1 := run_sliceAt_slice (P := P) (w := w) T (.slice a len cap) (some (.int kl l)) (some (.int kh h)) (some (.int km m)) (by rw [hel]; exact hu.out)
  have hr2 := run_slice_lhm (P := P) (w := w) T a len cap (by rw [hel]; exact hu.out) kl kh km l h m h0 h1 h2 h3
  have hsz : (sizeOf (P.elem T)).run P w = .ok s w := by rw [hel]; exact run_size hti
  simp [execOp, ev_sound ha hx, ev_sound ha hlo, ev_sound ha hhi, ev_sound ha hmx, hr1, hr2, hsz, sliced, subA]
theorem View.drop {A : HP} {a : Option Addr} {xs : List α} (l : Nat) {cap s : Nat} (hs : E'.sz = s) (hc : xs.length ≤ cap) (hv : View A E' a xs) : View A E' (subA a l cap s) (xs.drop l) := by
  intro H hH
  by_cases he : xs.drop l = []
  · exact .inl he
  right
  have hlt : l < xs.length := by
    rcases Nat.lt_or_ge l xs.length with h | h
    · exact h
    · exact absurd (List.drop_eq_nil_of_le h) he
  rcases hv H hH with rfl | ⟨⟨b, o, sp⟩, rfl, hsp, row, T', fr, hb, hrow⟩
  · simp at hlt
  simp only at hsp
  subst hsp
  have hne : ¬ cap = l := by omega
  have h4 : (⟨b, o, none⟩ : Addr).add (l * s) = ⟨b, o + l * s, none⟩ := by unfold Addr.add; split <;> simp_all
  refine ⟨⟨b, o + l * s, none⟩, by simp [subA, hne, h4], rfl, row, T', fr, hb, fun j v hj => ?_⟩
  have h5 : (flat E' xs)[l * s + j]? = some v := by
    rw [← List.take_append_drop l xs, flat_append, List.getElem?_append_right (by rw [flat_length, List.length_take, hs]; exact Nat.le_trans (Nat.mul_le_mul_right _ (Nat.min_le_left _ _)) (Nat.le_add_right _ _)), flat_length, List.length_take, Nat.min_eq_left (by omega), hs]
    rw [Nat.add_sub_cancel_left]; exact hj
  have := hrow _ _ h5
  simp only at this ⊢
  rw [Nat.add_assoc]; exact this
theorem dv_appendSelf {t tx el s by' : Nat} {x y : Operand} {b o c c2 : Nat} (i j : Nat) {xs : List α} {z : Value} [hu : TU P t (.slice el)] [hux : TU P tx (.slice el)] [hi : TI P el z s by'] (hx : ev e x = some (.slice (some ⟨b, o, none⟩) i c) := by rfl) (hy : ev e y = some (.slice (subA (some ⟨b, o, none⟩) j c s) (xs.length - j) c2) := by rfl)
    (hf : Find L (Sl E' (some ⟨b, o, none⟩) c xs) R := by repeat (first | exact Find.here | apply Find.there)) (hs : E'.sz = s := by rfl) (hij : i ≤ j := by omega) (hjl : j ≤ xs.length := by omega) :
    DV P w0 (.call ⟨.builtin .append, #[x, y], #[t, tx]⟩) ty e L (fun v L' => v = .slice (some ⟨b, o, none⟩) (i + (xs.length - j)) c ∧ L' = Sl E' (some ⟨b, o, none⟩) c (xs.take i ++ xs.drop j) :: R) := dv_of_run fun tm w pos aft h2 h3 => by
  subst hs
  have h3' := h3.find hf
  obtain ⟨ii, hinf, hzero, hsz, hbytes⟩ := hi.out
  obtain ⟨H0, hA0, hle0⟩ := h3'.atom
  have hc : xs.length ≤ c := hA0.1
  have hvd := View.drop (E' := E') (s := E'.sz) j rfl hc (Sl.view (e := E') (a := some ⟨b, o, none⟩) (c := c) (xs := xs))
  have hsrc : Src P ii.size tx (.slice (subA (some ⟨b, o, none⟩) j c E'.sz) (xs.length - j) c2) (xs.length - j) (flat E' (xs.drop j)) w := by
    rw [hsz]
    have := src_of_view (P := P) (tx := tx) (el := el) (c := c2) hvd hA0 hle0 hux.out
    rw [List.length_drop] at this; exact this
  obtain ⟨_, hsp, row, T, hrow, pre, post, hr, hp, hq⟩ := hA0
  have hrw := hle0 _ _ hrow
  simp only at hp hrow hrw
  have hlen : i * E'.sz + (flat E' (xs.drop j)).length ≤ xs.length * E'.sz := by
    rw [flat_length, List.length_drop, ← Nat.add_mul]; exact Nat.mul_le_mul_right _ (by omega)
  have hsize : row.size = o + xs.length * E'.sz + post.length := by
    rw [← Array.length_toList, hr]; simp [flat_length, hp]; omega
  have hrun := run_append_room' (ty := ty) (sLen := i) (sCap := c) (off := o) hu.out hinf hrw hsrc (by omega) (by rw [hsz, hsize]; omega)
  refine ⟨_, _, _, by simp [execOp, resolve, invoke, builtin, ev_sound h2 hx, ev_sound h2 hy, hrun]; rfl, ⟨rfl, rfl⟩, ?_⟩
  rw [hsz]
  refine Sat.turn1w (b := b) h3' (fun H hH => ?_) rfl rfl rfl (setRow_at hrw) (fun k hk => setRow_ne hk) (fun H hH hle => ?_)
  · obtain ⟨_, _, row, T, hb, _⟩ := hH
    rw [hb]; simp
  · refine ⟨by simp; omega, rfl, _, T, by simp; rfl, pre, ((flat E' xs ++ post).drop (i * E'.sz + (flat E' (xs.drop j)).length)), ?_, hp, ?_⟩
    · have e1 : row.toList = pre ++ (flat E' xs ++ post) := by rw [hr, List.append_assoc]
      have e2 : (pre ++ (flat E' xs ++ post)).take (o + i * E'.sz) = pre ++ flat E' (xs.take i) := by
        rw [List.take_append, List.take_of_length_le (by omega), hp]
        congr 1
        rw [show o + i * E'.sz - o = i * E'.sz from by omega, List.take_append_of_le_length (by rw [flat_length]; exact Nat.mul_le_mul_right _ (by omega))]
        have : flat E' xs = flat E' (xs.take i) ++ flat E' (xs.drop i) := by rw [← flat_append, List.take_append_drop]
        rw [this, List.take_left' (by rw [flat_length, List.length_take, Nat.min_eq_left (by omega)])]
      rw [e1, e2, flat_append, List.drop_append, List.drop_of_length_le (l := pre) (by omega), List.nil_append, hp]
      rw [show o + i * E'.sz + (flat E' (xs.drop j)).length - o = i * E'.sz + (flat E' (xs.drop j)).length from by omega]
      simp [List.append_assoc]
    · simp only [List.length_append, List.length_take, List.length_drop, flat_length, Nat.min_eq_left (show i ≤ xs.length by omega)]
      have e4 : (c - (i + (xs.length - j))) * E'.sz + (i * E'.sz + (xs.length - j) * E'.sz) = c * E'.sz := by rw [← Nat.add_mul, ← Nat.add_mul]; congr 1; omega
      have e5 : xs.length * E'.sz + (c - xs.length) * E'.sz = c * E'.sz := by rw [← Nat.add_mul]; congr 1; omega
      omega
theorem dv_clear {t el s by' : Nat} {x : Operand} {b o c c2 m : Nat} {xs : List α} {z : Value} [hu : TU P t (.slice el)] [hi : TI P el z s by'] (hx : ev e x = some (.slice (subA (some ⟨b, o, none⟩) xs.length c s) m c2) := by rfl) (hz : z.cells.size = s := by rfl) (h1 : z.cells.toList.all Value.oneCell' = true := by rfl)
    (hf : Find L (Sl E' (some ⟨b, o, none⟩) c xs) R := by repeat (first | exact Find.here | apply Find.there)) (hs : E'.sz = s := by rfl) (hm : xs.length + m ≤ c := by omega) :
    DV P w0 (.call ⟨.builtin .clear, #[x], #[t]⟩) ty e L (fun _ L' => L' = Sl E' (some ⟨b, o, none⟩) c xs :: R) := dv_of_run fun tm w pos aft h2 h3 => by
  subst hs
  have h3' := h3.find hf
  by_cases hm0 : m = 0
  · subst hm0
    refine ⟨.tuple #[], w, _, ?_, rfl, h3'⟩
    have h4 : (Builtin.clear_ #[t] ty #[.slice (subA (some ⟨b, o, none⟩) xs.length c E'.sz) 0 c2]).run P w = .ok (.tuple #[]) w := by
      cases subA (some ⟨b, o, none⟩) xs.length c E'.sz <;> simp [Builtin.clear_, run_und hu.out]
    simp [execOp, resolve, invoke, builtin, ev_sound h2 hx, h4]
  obtain ⟨H0, hA0, hle0⟩ := h3'.atom
  obtain ⟨hc, hsp, row, T, hrow, pre, post, hr, hp, hq⟩ := hA0
  have hrw := hle0 _ _ hrow
  simp only at hp hrow hrw
  have hne : ¬ c = xs.length := by omega
  have h4 : (⟨b, o, none⟩ : Addr).add (xs.length * E'.sz) = ⟨b, o + xs.length * E'.sz, none⟩ := by unfold Addr.add; split <;> simp_all
  have h5 : subA (some ⟨b, o, none⟩) xs.length c E'.sz = some ⟨b, o + xs.length * E'.sz, none⟩ := by simp [subA, hne, h4]
  have hzl : (Builtin.zeroCells z.cells m).toList.length = m * E'.sz := by simp [Builtin.zeroCells, hz]
  have hzo : ∀ v ∈ (Builtin.zeroCells z.cells m).toList, v.oneCell' = true := by
    intro v hv
    simp only [Builtin.zeroCells] at hv
    have hmem : v ∈ z.cells.toList := by
      simp at hv
      obtain ⟨q, _, hq2⟩ := hv
      rw [← hq2]
      have hp0 := E'.pos
      have hlt : q % z.cells.size < z.cells.size := Nat.mod_lt _ (by omega)
      simp [hlt]
    exact List.all_eq_true.1 h1 v hmem
  have hge : m * E'.sz ≤ (c - xs.length) * E'.sz := Nat.mul_le_mul_right _ (by omega)
  have hsize : row.size = o + xs.length * E'.sz + post.length := by rw [← Array.length_toList, hr]; simp [flat_length, hp]; omega
  have hst := run_storeCells_at P b (o + xs.length * E'.sz) T (Builtin.zeroCells z.cells m).toList 0 row w hrw (by rw [hzl, hsize]; omega) hzo
  simp only [Nat.add_zero] at hst
  have hrun : (Builtin.clear_ #[t] ty #[.slice (some ⟨b, o + xs.length * E'.sz, none⟩) m c2]).run P w = .ok (.tuple #[]) (w.setRow b (row.toList.take (o + xs.length * E'.sz) ++ (Builtin.zeroCells z.cells m).toList ++ row.toList.drop (o + xs.length * E'.sz + (Builtin.zeroCells z.cells m).toList.length)).toArray) := by
    obtain ⟨m', rfl⟩ : ∃ m', m = m' + 1 := ⟨m - 1, by omega⟩
    simp only [Builtin.clear_, Sem.run_bind, run_und hu.out, Result.andThen_ok, run_zero hi, hst]
    simp [run_und hu.out, run_zero hi, hst]
  rw [h5] at hx
  have hop : ∀ (res : Result Value), (Builtin.clear_ #[t] ty #[.slice (some ⟨b, o + xs.length * E'.sz, none⟩) m c2]).run P w = res →
      (execOp (Act.mk tm []).eval ⟨none, .call ⟨.builtin .clear, #[x], #[t]⟩, ty, pos, aft, none⟩).run P w = res.andThen fun v w => .ok (.value v) w := by
    intro res h
    simp [execOp, resolve, invoke, builtin, ev_sound h2 hx, h]
  refine ⟨_, _, _, by rw [hop _ hrun]; rfl, rfl, ?_⟩
  refine Sat.turn1w (b := b) h3' (fun H hH => ?_) rfl rfl rfl (setRow_at hrw) (fun k hk => setRow_ne hk) (fun H hH hle => ?_)
  · obtain ⟨_, _, row, T, hb, _⟩ := hH
    rw [hb]; simp
  · refine ⟨hc, rfl, _, T, by simp; rfl, pre, (Builtin.zeroCells z.cells m).toList ++ post.drop (m * E'.sz), ?_, hp, ?_⟩
    · have e1 : (pre ++ flat E' xs).length = o + xs.length * E'.sz := by simp [flat_length, hp]
      have hzs : (Builtin.zeroCells z.cells m).size = m * E'.sz := by simpa using hzl
      rw [hr, hzs, List.take_left' e1, ← List.drop_drop, List.drop_left' e1, List.append_assoc]
    · rw [List.length_append, hzl, List.length_drop]; omega
theorem XO_fold {S : List HP} {A : HP} {ops : List Oper} (hf : FindAll L S R) (hc : ∀ H, SL S H → A H) (h : XO ⟨P, w0, n, Q⟩ all k ops e (A :: R)) : XO ⟨P, w0, n, Q⟩ all k ops e L := XO_conv (ent_fold hf hc ent_refl) h
theorem XE_fold {S : List HP} {A : HP} {x : Exit} (hf : FindAll L S R) (hc : ∀ H, SL S H → A H) (h : XE ⟨P, w0, n, Q⟩ k x e (A :: R)) : XE ⟨P, w0, n, Q⟩ k x e L := XE_conv (ent_fold hf hc ent_refl) h
theorem Sl.cap {a : Option Addr} {c : Nat} {xs : List α} : ∀ H, Sl E' a c xs H → xs.length ≤ c := by
  intro H h
  cases a with
  | none => obtain ⟨rfl, rfl⟩ := h; exact Nat.le_refl _
  | some ad => exact h.1
theorem rv_elG {T : TypeId} {x : Operand} {b o c s : Nat} {xs : List α} {dd : TypeDesc} {z : Value} {s' by' : Nat} (i : Nat) (x' : α) [hu : TU P T dd] [hi : TI P T z s' by'] (hf : Find L (Sl E' (some ⟨b, o, none⟩) c xs) R := by repeat (first | exact Find.here | apply Find.there)) (hx : ev e x = some (.pointer (some ⟨b, o + i * s, none⟩)) := by rfl)
    (hg : aggD dd = E'.agg := by rfl) (hs : E'.sz = s := by rfl) (hs' : s' = s := by rfl) (hget : xs[i]? = some x' := by simp; done) : RV P w0 (.load T x) ty e L (E'.val x') := by
  obtain ⟨hl, rfl⟩ := List.getElem?_eq_some_iff.1 hget
  exact rv_el hf hx hg hs hs' hl
theorem rv_velG {T : TypeId} {x : Operand} {A : HP} {b o s : Nat} {xs : List α} {dd : TypeDesc} {z : Value} {s' by' : Nat} (i : Nat) (x' : α) [hu : TU P T dd] [hi : TI P T z s' by'] (hV : View A E' (some ⟨b, o, none⟩) xs) (hf : Find L A R := by repeat (first | exact Find.here | apply Find.there)) (hx : ev e x = some (.pointer (some ⟨b, o + i * s, none⟩)) := by rfl)
    (hg : aggD dd = E'.agg := by rfl) (hs : E'.sz = s := by rfl) (hs' : s' = s := by rfl) (hget : xs[i]? = some x' := by simp; done) : RV P w0 (.load T x) ty e L (E'.val x') := by
  obtain ⟨hl, rfl⟩ := List.getElem?_eq_some_iff.1 hget
  exact rv_vel hV hf hx hg hs hs' hl
theorem rv_elfG {T : TypeId} {x : Operand} {b o c s : Nat} {xs : List α} {v : Value} {dd : TypeDesc} (i f : Nat) (x' : α) [hu : TU P T dd] (hf : Find L (Sl E' (some ⟨b, o, none⟩) c xs) R := by repeat (first | exact Find.here | apply Find.there)) (hx : ev e x = some (.pointer (some ⟨b, o + i * s + f, none⟩)) := by rfl)
    (hg : aggD dd = false := by rfl) (hs : E'.sz = s := by rfl) (hv : (E'.cells x')[f]? = some v := by rfl) (hget : xs[i]? = some x' := by simp; done) : RV P w0 (.load T x) ty e L v := by
  obtain ⟨hl, rfl⟩ := List.getElem?_eq_some_iff.1 hget
  exact rv_elf hf hx hg hs hl hv
theorem XDi_view {ops : Array Oper} {D : Pend} {vl : List Nat} {i : Nat} {oo : Oper} {A : HP} {a : Option Addr} {xs : List α} (hV : View A E' a xs) (hp : 0 < xs.length) (h : ∀ b o, a = some ⟨b, o, none⟩ → XDi ⟨P, w0, n, Q⟩ ops k D vl e L i oo) (hf : Find L A R := by repeat (first | exact Find.here | apply Find.there)) : XDi ⟨P, w0, n, Q⟩ ops k D vl e L i oo := by
  intro ho hi hr G fuel al tm w S hs
  obtain ⟨H1, hA, _⟩ := (hs.find hf).atom
  rcases hV H1 hA with rfl | ⟨⟨b, o, sp⟩, rfl, hsp, _⟩
  · simp at hp
  · simp only at hsp
    subst hsp
    exact h b o rfl ho hi hr G fuel al tm w S hs
theorem dv_putElW {T m by' : Nat} {x y : Operand} {b o c i s : Nat} {xs : List α} {vs : List Value} {z : Value} [hti : TI P T z m by'] (x' : α) (hf : Find L (Sl E' (some ⟨b, o, none⟩) c xs) R := by repeat (first | exact Find.here | apply Find.there)) (hx : ev e x = some (.pointer (some ⟨b, o + i * s, none⟩)) := by rfl) (hy : ev e y = some (.agg vs.toArray) := by rfl)
    (hm : vs.length = m := by rfl) (hs : E'.sz = s := by rfl) (hl : i < xs.length := by omega) (hx' : E'.cells x' = vs := by rfl) (hms : m = s := by rfl) :
    DV P w0 (.store T x y) ty e L (fun _ L' => L' = Sl E' (some ⟨b, o, none⟩) c (xs.set i x') :: R) := by
  subst hx' hms hs
  exact dv_putEl (f := 0) (vs := E'.cells x') x' hf hx hy rfl (fun u hu => E'.one x' u hu) hm rfl hl (by rw [E'.len]; omega) (by rw [List.take_zero, List.nil_append, Nat.zero_add, E'.len, List.drop_of_length_le (by rw [E'.len]; exact Nat.le_refl _), List.append_nil])
theorem rv_at {T : TypeId} {x : Operand} {kk : IntKind} {b c by' : Nat} {fl : List Int} {dd : TypeDesc} {z : Value} (i : Nat) [hu : TU P T dd] [hi : TI P T z 1 by'] (hf : Find L (Sl (eI kk) (some ⟨b, 0, none⟩) c fl) R := by repeat (first | exact Find.here | apply Find.there)) (hx : ev e x = some (.pointer (some ⟨b, i, none⟩)) := by rfl)
    (hg : aggD dd = false := by rfl) (hl : i < fl.length := by omega) : RV P w0 (.load T x) ty e L (.int kk (fl.getD i 0)) := by
  have h1 : (⟨b, i, none⟩ : Addr) = ⟨b, 0 + i * 1, none⟩ := by simp
  have h2 : (eI kk).val fl[i] = .int kk (fl.getD i 0) := by simp [eI, E.val, List.getD, hl]
  rw [← h2]
  exact rv_el (E' := eI kk) (i := i) (s := 1) (s' := 1) hf (by rw [hx, h1]) hg rfl rfl hl
theorem dv_putAt {T by' : Nat} {x y : Operand} {kk : IntKind} {b c : Nat} {fl : List Int} {z : Value} {v : Int} (i : Nat) [hti : TI P T z 1 by'] (hf : Find L (Sl (eI kk) (some ⟨b, 0, none⟩) c fl) R := by repeat (first | exact Find.here | apply Find.there)) (hx : ev e x = some (.pointer (some ⟨b, i, none⟩)) := by rfl) (hy : ev e y = some (.int kk v) := by rfl)
    (hl : i < fl.length := by omega) : DV P w0 (.store T x y) ty e L (fun _ L' => L' = Sl (eI kk) (some ⟨b, 0, none⟩) c (fl.set i v) :: R) := by
  have h1 : (⟨b, i, none⟩ : Addr) = ⟨b, 0 + i * 1 + 0, none⟩ := by simp
  exact dv_putEl (E' := eI kk) (f := 0) (i := i) (s := 1) (m := 1) (vs := [.int kk v]) v hf (by rw [hx, h1]) hy rfl (fun u hu => by simp at hu; subst hu; rfl) rfl rfl hl (Nat.le_refl _) rfl
theorem view_at {A : HP} {kk : IntKind} {b : Nat} {fl : List Int} (i : Nat) (hv : View A (eI kk) (some ⟨b, 0, none⟩) fl) : View A (eI kk) (some ⟨b, i, none⟩) (fl.drop i) := by
  intro H hH
  rcases hv H hH with rfl | ⟨ad, had, hsp, row, T, fr, hb, hr⟩
  · exact .inl (by simp)
  · obtain rfl := Option.some.inj had
    refine .inr ⟨_, rfl, rfl, row, T, fr, hb, fun j v hj => ?_⟩
    have h1 := hr (i + j) v (by
      have : flat (eI kk) (fl.drop i) = (flat (eI kk) fl).drop i := by
        have := flat_drop (E' := eI kk) fl i
        simpa [eI] using this
      rw [this, List.getElem?_drop] at hj; exact hj)
    simpa using h1
theorem dv_putAll {T m by' : Nat} {x y : Operand} {b c : Nat} {xs ys : List α} {vs : List Value} {z : Value} [hti : TI P T z m by'] (hf : Find L (Sl E' (some ⟨b, 0, none⟩) c xs) R := by repeat (first | exact Find.here | apply Find.there)) (hx : ev e x = some (.pointer (some ⟨b, 0, none⟩)) := by rfl) (hy : ev e y = some (.agg vs.toArray) := by rfl)
    (hvs : vs = flat E' ys := by rfl) (hm : vs.length = m := by rfl) (hl : ys.length = xs.length) : DV P w0 (.store T x y) ty e L (fun _ L' => L' = Sl E' (some ⟨b, 0, none⟩) c ys :: R) := dv_of_skip fun tm w pos aft h2 h3 => by
  have h3' := h3.find hf
  obtain ⟨H0, hA0, hle0⟩ := h3'.atom
  obtain ⟨hc, hsp, row, T', hb, pre, post, hr, hp, hq⟩ := hA0
  have hrw := hle0 _ _ hb
  simp only at hp hb hrw
  have hpre : pre = [] := List.length_eq_zero_iff.1 hp
  subst hpre
  have hlen : vs.length = xs.length * E'.sz := by rw [hvs, flat_length, hl]
  have hsz : row.size = xs.length * E'.sz + post.length := by rw [← Array.length_toList, hr]; simp [flat_length]
  have hrun := run_storeAt (P := P) (v := .agg vs.toArray) (o := 0) hti (by simpa [Value.cells] using hm) (by simp [Value.cells]; rw [hvs]; exact fun u hu => flat_one E' ys u hu) hrw (by rw [← hm, hlen, hsz]; omega)
  refine ⟨_, _, by simp only [execOp, ev_sound h2 hx, ev_sound h2 hy, Sem.run_bind, hrun, Result.andThen_ok, Sem.run_pure]; rfl, rfl, ?_⟩
  refine Sat.turn1w (b := b) h3' (fun H hH => ?_) rfl rfl rfl (setRow_at hrw) (fun k hk => setRow_ne hk) (fun H hH hle => ?_)
  · obtain ⟨_, _, row, T, hb, _⟩ := hH
    rw [hb]; simp
  · refine ⟨by rw [hl]; exact hc, rfl, _, T', by simp; rfl, [], post, ?_, rfl, by rw [hl]; exact hq⟩
    rw [hr]
    simp only [List.nil_append, List.take_zero, Value.cells, Nat.zero_add]
    rw [← hm, hlen, List.drop_left' (by rw [flat_length]), hvs]
theorem Sl.of_pt {b : Nat} {xs : List α} {vs : List Value} {T : TypeId} (hvs : vs = flat E' xs) : ∀ H, pt b (.cells vs.toArray T (0, 0)) H → Sl E' (some ⟨b, 0, none⟩) xs.length xs H := by
  intro H h
  subst hvs
  exact ⟨Nat.le_refl _, rfl, _, T, h, [], [], by simp, rfl, by simp⟩
theorem run_eqnilS {t el : TypeId} {a : Option Addr} {m c : Nat} (ht : P.underlying t = some (.slice el)) {w : World} : (Op.equal t (.slice a m c) (.slice none 0 0)).run P w = .ok a.isNone w :=
  equal_at P w t _ _ fun d => by cases a <;> simp [Op.equalIn, run_und ht]
theorem run_guard_slice {op : BinOp} {t : TypeId} {x y : Operand} {a : Option Addr} {m c : Nat} {v : Value} {w : World} : (eqGuard op t x y (.slice a m c) v).run P w = .ok () w := by
  cases op <;> simp [eqGuard]
theorem pv_eqnilS {t t' : TypeId} {x : Operand} {a : Option Addr} {m c : Nat} {el : TypeId} [ht : TU P t (.slice el)] (hx : ev e x = some (.slice a m c) := by rfl) : PV P (.binOp .eql t x (.const (.slice none 0 0)) t') ty e (.bool a.isNone) :=
  fun tm w pos aft h => by
    simp only [execOp, ev_sound h hx, Sem.run_bind, run_guard_slice, Result.andThen_ok]
    simp [eval_const, binOp, run_eqnilS ht.out]
end
end Go.Proofs.YtamecmklcnohjaaGreat.Sep
namespace Go.Proofs.YtamecmklcnohjaaGreat.Sep
open Go.RowKit
set_option linter.unusedSimpArgs false
set_option linter.unusedVariables false
section
variable {P : Program} {w0 : World} {e : Env} {L R : List HP} {ty : TypeId} {α : Type} {E' : E α}
theorem rv_vA {T : TypeId} {x : Operand} {A : HP} {b o oo i f : Nat} {xs : List α} {x' : α} {v : Value} {dd : TypeDesc} [hu : TU P T dd] (hx : ev e x = some (.pointer (some ⟨b, oo, none⟩)) := by rfl) (hg : aggD dd = false := by rfl) (hV : View A E' (some ⟨b, o, none⟩) xs := by assumption) (hget : xs[i]? = some x' := by assumption)
    (ho : oo = o + i * E'.sz + f := by rfl) (hv : (E'.cells x')[f]? = some v := by rfl) (hf : Find L A R := by repeat (first | exact Find.here | apply Find.there)) : RV P w0 (.load T x) ty e L v := by
  subst ho; exact rv_velfG i f x' hV hf hx hg rfl hv hget
theorem rv_vA0 {T : TypeId} {x : Operand} {A : HP} {b o oo i : Nat} {xs : List α} {x' : α} {v : Value} {dd : TypeDesc} [hu : TU P T dd] (hx : ev e x = some (.pointer (some ⟨b, oo, none⟩)) := by rfl) (hg : aggD dd = false := by rfl) (hV : View A E' (some ⟨b, o, none⟩) xs := by assumption) (hget : xs[i]? = some x' := by assumption)
    (ho : oo = o + i * E'.sz := by rfl) (hv : (E'.cells x')[0]? = some v := by rfl) (hf : Find L A R := by repeat (first | exact Find.here | apply Find.there)) : RV P w0 (.load T x) ty e L v := by
  subst ho; exact rv_velfG i 0 x' hV hf hx hg rfl hv hget
theorem rv_veA {T : TypeId} {x : Operand} {A : HP} {b o oo i : Nat} {xs : List α} {x' : α} {dd : TypeDesc} {z : Value} {s' by' : Nat} [hu : TU P T dd] [hi : TI P T z s' by'] (hx : ev e x = some (.pointer (some ⟨b, oo, none⟩)) := by rfl) (hV : View A E' (some ⟨b, o, none⟩) xs := by assumption) (hg : aggD dd = E'.agg := by rfl) (hget : xs[i]? = some x' := by assumption)
    (ho : oo = o + i * E'.sz := by rfl) (hs' : s' = E'.sz := by rfl) (hf : Find L A R := by repeat (first | exact Find.here | apply Find.there)) : RV P w0 (.load T x) ty e L (E'.val x') := by
  subst ho; exact rv_velG i x' hV hf hx hg rfl hs' hget
theorem rv_sA {T : TypeId} {x : Operand} {b o oo i f c : Nat} {xs : List α} {x' : α} {v : Value} {dd : TypeDesc} [hu : TU P T dd] (hx : ev e x = some (.pointer (some ⟨b, oo, none⟩)) := by rfl) (hg : aggD dd = false := by rfl) (hf : Find L (Sl E' (some ⟨b, o, none⟩) c xs) R := by repeat (first | exact Find.here | apply Find.there)) (hget : xs[i]? = some x' := by assumption)
    (ho : oo = o + i * E'.sz + f := by rfl) (hv : (E'.cells x')[f]? = some v := by rfl) : RV P w0 (.load T x) ty e L v := by
  subst ho; exact rv_elfG i f x' hf hx hg rfl hv hget
theorem rv_sA0 {T : TypeId} {x : Operand} {b o oo i c : Nat} {xs : List α} {x' : α} {v : Value} {dd : TypeDesc} [hu : TU P T dd] (hx : ev e x = some (.pointer (some ⟨b, oo, none⟩)) := by rfl) (hg : aggD dd = false := by rfl) (hf : Find L (Sl E' (some ⟨b, o, none⟩) c xs) R := by repeat (first | exact Find.here | apply Find.there)) (hget : xs[i]? = some x' := by assumption)
    (ho : oo = o + i * E'.sz := by rfl) (hv : (E'.cells x')[0]? = some v := by rfl) : RV P w0 (.load T x) ty e L v := by
  subst ho; exact rv_elfG i 0 x' hf hx hg rfl hv hget
theorem rv_seA {T : TypeId} {x : Operand} {b o oo i c : Nat} {xs : List α} {x' : α} {dd : TypeDesc} {z : Value} {s' by' : Nat} [hu : TU P T dd] [hi : TI P T z s' by'] (hx : ev e x = some (.pointer (some ⟨b, oo, none⟩)) := by rfl) (hf : Find L (Sl E' (some ⟨b, o, none⟩) c xs) R := by repeat (first | exact Find.here | apply Find.there)) (hg : aggD dd = E'.agg := by rfl) (hget : xs[i]? = some x' := by assumption)
    (ho : oo = o + i * E'.sz := by rfl) (hs' : s' = E'.sz := by rfl) : RV P w0 (.load T x) ty e L (E'.val x') := by
  subst ho; exact rv_elG i x' hf hx hg rfl hs' hget
end
theorem pv_extractL {P : Program} {e : Env} {ty : TypeId} {x : Operand} {i : Nat} {vs : List Value} {v : Value} (hx : ev e x = some (.tuple vs.toArray) := by rfl) (hv : vs[i]? = some v := by rfl) : PV P (.extract x i) ty e (v) := pv_extract hx (by simpa using hv)
section
variable {P : Program} {w0 : World} {n : Nat} {Q : Exit → Act → World → Prop} {k : List KI} {e : Env} {L : List HP} {all ops : Array Oper} {rest : List Oper} {op : Op} {ty : TypeId} {pos : String} {aft : Array Edge} {d i : Nat} {D : Pend} {vl : List Nat} {v : Value}
theorem Zq (hk : XO ⟨P, w0, n, Q⟩ all k rest ((d, v) :: e) L)
    (h : PV P op ty e v := by first | exact pv_move | exact pv_assign | exact pv_field | exact pv_nil_ptr | exact pv_cmp | exact pv_arith | exact pv_extractL | exact pv_extract | exact pv_len_slice | exact pv_index | exact pv_not | exact pv_pickT | exact pv_pickF | exact pv_conv_int | exact pv_build | exact pv_eqb | exact pv_neb | exact pv_eqnil | exact pv_nenil | exact pv_max | exact pv_min | exact pv_bits | exact pv_shr12 | exact pv_shl12 | exact pv_quo | exact pv_rem | exact pv_neg | exact pv_sliceH | exact pv_build0 | exact pv_makeFunc | exact pv_indexArr | exact pv_sliceArr | exact pv_sliceL | exact pv_nil_fn) (hd : d < n := by exact Nat.le_of_ble_eq_true rfl) : XO ⟨P, w0, n, Q⟩ all k (⟨some d, op, ty, pos, aft, none⟩ :: rest) e L := XO_pv h hd hk
theorem Zs (hk : XO ⟨P, w0, n, Q⟩ all k rest ((d, v) :: e) L)
    (h : RV P w0 op ty e L v := by first | exact rv_load | exact rv_loadW | exact rv_loadS | exact rv_vA | exact rv_vA0 | exact rv_sA | exact rv_sA0 | exact rv_veA | exact rv_seA) (hd : d < n := by exact Nat.le_of_ble_eq_true rfl) : XO ⟨P, w0, n, Q⟩ all k (⟨some d, op, ty, pos, aft, none⟩ :: rest) e L := XO_rv h hd hk
theorem Dq {g : Option (Nat × Bool)} (h : XD ⟨P, w0, n, Q⟩ ops k ((i, v, true) :: D) (i :: vl) ((d, v) :: e) L)
    (hv : PV P op ty (restr e (Oper.looksAt ops ⟨some d, op, ty, pos, aft, g⟩)) v := by first | exact pv_move | exact pv_assign | exact pv_field | exact pv_nil_ptr | exact pv_cmp | exact pv_arith | exact pv_extractL | exact pv_extract | exact pv_len_slice | exact pv_index | exact pv_not | exact pv_pickT | exact pv_pickF | exact pv_conv_int | exact pv_build | exact pv_eqb | exact pv_neb | exact pv_eqnil | exact pv_nenil | exact pv_max | exact pv_min | exact pv_bits | exact pv_shr12 | exact pv_shl12 | exact pv_quo | exact pv_rem | exact pv_neg | exact pv_sliceH | exact pv_build0 | exact pv_makeFunc | exact pv_indexArr | exact pv_sliceArr | exact pv_sliceL) (hg : GOK ops e g := by first | exact True.intro | exact ⟨_, rfl, rfl⟩)
    (hl : (Oper.looksAt ops ⟨some d, op, ty, pos, aft, g⟩).contains d = false := by kernel_rfl) (hdis : (D.all fun p => match ops[p.1]? with | some oj => !(oj.looksAt ops).contains d | none => true) = true := by kernel_rfl) (hdn : d < n := by exact Nat.le_of_ble_eq_true rfl) : XDi ⟨P, w0, n, Q⟩ ops k D vl e L i ⟨some d, op, ty, pos, aft, g⟩ := Dp hv h hg hl hdis hdn
theorem Ds {g : Option (Nat × Bool)} (h : XD ⟨P, w0, n, Q⟩ ops k ((i, v, false) :: D) (i :: vl) ((d, v) :: e) L)
    (hv : RV P w0 op ty (restr e (Oper.looksAt ops ⟨some d, op, ty, pos, aft, g⟩)) L v := by first | exact rv_load | exact rv_loadW | exact rv_loadS | exact rv_vA | exact rv_vA0 | exact rv_sA | exact rv_sA0 | exact rv_veA | exact rv_seA) (hg : GOK ops e g := by first | exact True.intro | exact ⟨_, rfl, rfl⟩)
    (hl : (Oper.looksAt ops ⟨some d, op, ty, pos, aft, g⟩).contains d = false := by kernel_rfl) (hdis : (D.all fun p => match ops[p.1]? with | some oj => !(oj.looksAt ops).contains d | none => true) = true := by kernel_rfl) (hdn : d < n := by exact Nat.le_of_ble_eq_true rfl) : XDi ⟨P, w0, n, Q⟩ ops k D vl e L i ⟨some d, op, ty, pos, aft, g⟩ := Dr hv h hg hl hdis hdn
theorem keeps_takeQ {f : Nat × Value × Bool → Bool} {j : Nat} {K : Pend} {b : Bool} {g : Option (Nat × Bool)} (ho : ops[j]? = some ⟨some d, op, ty, pos, aft, g⟩ := by rfl) (hv : RV P w0 op ty (restr e (Oper.looksAt ops ⟨some d, op, ty, pos, aft, g⟩)) L v := by first | exact rv_load | exact rv_loadW | exact rv_loadS | exact rv_vA | exact rv_vA0 | exact rv_sA | exact rv_sA0 | exact rv_veA | exact rv_seA) (hg : GOK ops e g := by first | exact True.intro | exact ⟨_, rfl, rfl⟩) (hb : b = false := by rfl) (h : Keeps ⟨P, w0, n, Q⟩ ops e L (List.filter f K)) :
    Keeps ⟨P, w0, n, Q⟩ ops e L (List.filter f ((j, v, b) :: K)) := keeps_takeA ho hv hg hb h
end
section
variable {P : Program} {w0 : World} {n : Nat} {Q : Exit → Act → World → Prop} {k : List KI} {e : Env} {L : List HP} {all ops : Array Oper} {rest : List Oper} {op : Op} {ty : TypeId} {pos : String} {aft : Array Edge} {d i : Nat} {D : Pend} {vl : List Nat} {v : Value}
theorem Zq1 (h : PV P op ty e v := by first | exact pv_move | exact pv_assign | exact pv_field | exact pv_nil_ptr | exact pv_cmp | exact pv_arith | exact pv_extractL | exact pv_extract | exact pv_len_slice | exact pv_index | exact pv_not | exact pv_pickT | exact pv_pickF | exact pv_conv_int | exact pv_build | exact pv_eqb | exact pv_neb | exact pv_eqnil | exact pv_nenil | exact pv_max | exact pv_min | exact pv_bits | exact pv_shr12 | exact pv_shl12 | exact pv_quo | exact pv_rem | exact pv_neg | exact pv_sliceH | exact pv_build0 | exact pv_makeFunc | exact pv_indexArr | exact pv_sliceArr | exact pv_sliceL | exact pv_nil_fn) (hd : d < n := by exact Nat.le_of_ble_eq_true rfl) : XO ⟨P, w0, n, Q⟩ all k rest ((d, v) :: e) L → XO ⟨P, w0, n, Q⟩ all k (⟨some d, op, ty, pos, aft, none⟩ :: rest) e L := fun hk => XO_pv h hd hk
theorem Zs1 (h : RV P w0 op ty e L v := by first | exact rv_load | exact rv_loadW | exact rv_loadS | exact rv_vA | exact rv_vA0 | exact rv_sA | exact rv_sA0 | exact rv_veA | exact rv_seA) (hd : d < n := by exact Nat.le_of_ble_eq_true rfl) : XO ⟨P, w0, n, Q⟩ all k rest ((d, v) :: e) L → XO ⟨P, w0, n, Q⟩ all k (⟨some d, op, ty, pos, aft, none⟩ :: rest) e L := fun hk => XO_rv h hd hk
theorem ZT1 {d : Option Nat} {j t : Nat} {want : Bool} (hj : (all[j]?).bind (·.dst) = some t := by rfl) (ht : e.get t = some (.bool want) := by rfl) : XO ⟨P, w0, n, Q⟩ all k (⟨d, op, ty, pos, aft, none⟩ :: rest) e L → XO ⟨P, w0, n, Q⟩ all k (⟨d, op, ty, pos, aft, some (j, want)⟩ :: rest) e L := fun hk => XO_gT hj ht hk
theorem ZF1 {j t : Nat} {want b : Bool} (hj : (all[j]?).bind (·.dst) = some t := by rfl) (ht : e.get t = some (.bool b) := by rfl) (hb : b = !want := by rfl) (hd : d < n := by exact Nat.le_of_ble_eq_true rfl) : XO ⟨P, w0, n, Q⟩ all k rest ((d, undef) :: e) L → XO ⟨P, w0, n, Q⟩ all k (⟨some d, op, ty, pos, aft, some (j, want)⟩ :: rest) e L := fun hk => XO_gF hj ht hb hd hk
theorem ZU1 {j t : Nat} {want : Bool} (hj : (all[j]?).bind (·.dst) = some t := by rfl) (ht : e.get t = some undef := by rfl) (hd : d < n := by exact Nat.le_of_ble_eq_true rfl) : XO ⟨P, w0, n, Q⟩ all k rest ((d, undef) :: e) L → XO ⟨P, w0, n, Q⟩ all k (⟨some d, op, ty, pos, aft, some (j, want)⟩ :: rest) e L := fun hk => XO_gU hj ht hd hk
theorem Dq1 {g : Option (Nat × Bool)} (hv : PV P op ty (restr e (Oper.looksAt ops ⟨some d, op, ty, pos, aft, g⟩)) v := by first | exact pv_move | exact pv_assign | exact pv_field | exact pv_nil_ptr | exact pv_cmp | exact pv_arith | exact pv_extractL | exact pv_extract | exact pv_len_slice | exact pv_index | exact pv_not | exact pv_pickT | exact pv_pickF | exact pv_conv_int | exact pv_build | exact pv_eqb | exact pv_neb | exact pv_eqnil | exact pv_nenil | exact pv_max | exact pv_min | exact pv_bits | exact pv_shr12 | exact pv_shl12 | exact pv_quo | exact pv_rem | exact pv_neg | exact pv_sliceH | exact pv_build0 | exact pv_makeFunc | exact pv_indexArr | exact pv_sliceArr | exact pv_sliceL) (hg : GOK ops e g := by first | exact True.intro | exact ⟨_, rfl, rfl⟩)
    (hl : (Oper.looksAt ops ⟨some d, op, ty, pos, aft, g⟩).contains d = false := by kernel_rfl) (hdis : (D.all fun p => match ops[p.1]? with | some oj => !(oj.looksAt ops).contains d | none => true) = true := by kernel_rfl) (hdn : d < n := by exact Nat.le_of_ble_eq_true rfl) : XD ⟨P, w0, n, Q⟩ ops k ((i, v, true) :: D) (i :: vl) ((d, v) :: e) L → XDi ⟨P, w0, n, Q⟩ ops k D vl e L i ⟨some d, op, ty, pos, aft, g⟩ := fun h => Dp hv h hg hl hdis hdn
theorem Ds1 {g : Option (Nat × Bool)} (hv : RV P w0 op ty (restr e (Oper.looksAt ops ⟨some d, op, ty, pos, aft, g⟩)) L v := by first | exact rv_load | exact rv_loadW | exact rv_loadS | exact rv_vA | exact rv_vA0 | exact rv_sA | exact rv_sA0 | exact rv_veA | exact rv_seA) (hg : GOK ops e g := by first | exact True.intro | exact ⟨_, rfl, rfl⟩)
    (hl : (Oper.looksAt ops ⟨some d, op, ty, pos, aft, g⟩).contains d = false := by kernel_rfl) (hdis : (D.all fun p => match ops[p.1]? with | some oj => !(oj.looksAt ops).contains d | none => true) = true := by kernel_rfl) (hdn : d < n := by exact Nat.le_of_ble_eq_true rfl) : XD ⟨P, w0, n, Q⟩ ops k ((i, v, false) :: D) (i :: vl) ((d, v) :: e) L → XDi ⟨P, w0, n, Q⟩ ops k D vl e L i ⟨some d, op, ty, pos, aft, g⟩ := fun h => Dr hv h hg hl hdis hdn
theorem XP1 {i : Nat} {o : Oper} {C : Cx} (hi : pickR ops vl = some i := by rfl) (ho : ops[i]? = some o := by rfl) : XDi C ops k D vl e L i o → XD C ops k D vl e L := fun h => XD_pick hi ho h
theorem XF1 {j t : Nat} {want b : Bool} (hj : (ops[j]?).bind (·.dst) = some t := by rfl) (ht : e.get t = some (.bool b) := by rfl) (hb : b = !want := by rfl)
    (hl : (Oper.looksAt ops ⟨some d, op, ty, pos, aft, some (j, want)⟩).contains d = false := by kernel_rfl) (hdis : (D.all fun p => match ops[p.1]? with | some oj => !(oj.looksAt ops).contains d | none => true) = true := by kernel_rfl) (hdn : d < n := by exact Nat.le_of_ble_eq_true rfl) : XD ⟨P, w0, n, Q⟩ ops k ((i, undef, true) :: D) (i :: vl) ((d, undef) :: e) L → XDi ⟨P, w0, n, Q⟩ ops k D vl e L i ⟨some d, op, ty, pos, aft, some (j, want)⟩ := fun h => XDi_gF hj ht hb hl hdis hdn h
theorem XU1 {j t : Nat} {want : Bool} (hj : (ops[j]?).bind (·.dst) = some t := by rfl) (ht : e.get t = some undef := by rfl)
    (hl : (Oper.looksAt ops ⟨some d, op, ty, pos, aft, some (j, want)⟩).contains d = false := by kernel_rfl) (hdis : (D.all fun p => match ops[p.1]? with | some oj => !(oj.looksAt ops).contains d | none => true) = true := by kernel_rfl) (hdn : d < n := by exact Nat.le_of_ble_eq_true rfl) : XD ⟨P, w0, n, Q⟩ ops k ((i, undef, true) :: D) (i :: vl) ((d, undef) :: e) L → XDi ⟨P, w0, n, Q⟩ ops k D vl e L i ⟨some d, op, ty, pos, aft, some (j, want)⟩ := fun h => XDi_gU hj ht hl hdis hdn h
theorem XW1 {id : Nat} [hm : Mixed P] (hw : wfR ops = true := by rfl) : XD ⟨P, w0, n, Q⟩ ops k [] [] e L → X ⟨P, w0, n, Q⟩ k (.region id ops true) e L := fun h => X_draws hw h
theorem KP {C : Cx} {K : Pend} (h : Keeps C ops e L K := by repeat (first | exact keeps_nil | exact keeps_fnil | refine keeps_skip (h := ?_) | refine keeps_takeQ (h := ?_))) : Keeps C ops e L K := h
end
theorem ZD {g g' : Prop} (h : g') (s : g' → g := by first | exact XP1 | exact Dq1 | exact Ds1 | exact XF1 | exact XU1 | exact XW1) : g := s h
theorem Z {g g' : Prop} (h : g') (s : g' → g := by first | exact Zq1 | exact Zs1 | exact ZT1 | exact ZF1 | exact XO_nil | exact X_seq | exact X_region | exact X_block | exact X_skip | exact X_exit | exact X_ret | exact XE_code | exact XE_block | exact XE_code_exit | exact XE_block_exit | exact XE_code_ret | exact XE_block_ret | exact XE_pred_ret | exact XE_pred_exit | exact XE_block_other rfl | exact ZU1) : g := s h
end Go.Proofs.YtamecmklcnohjaaGreat.Sep
namespace Go.Proofs.YtamecmklcnohjaaGreat.Sep
open Go.RowKit
set_option linter.unusedSimpArgs false
set_option linter.unusedVariables false
set_option maxHeartbeats 8000000
attribute [local irreducible] X XE XO XD XDi XDa PV RV DV pt base Spec Sl Mp Keeps

def ofL : List (Int × Int) → Int → List Int
  | [], _ => []
  | (a, v) :: w, o => if a = o then v :: ofL w o else ofL w o
def cutW : List (Int × Int) → Int → Nat → List (Int × Int)
  | [], _, _ => []
  | (a, v) :: w, o, k => if a = o then (match k with | 0 => cutW w o 0 | k + 1 => (a, v) :: cutW w o k) else (a, v) :: cutW w o k
theorem ofL_append (w u : List (Int × Int)) (o : Int) : ofL (w ++ u) o = ofL w o ++ ofL u o := by
  induction w with
  | nil => rfl
  | cons p w ih => obtain ⟨a, v⟩ := p; simp only [List.cons_append, ofL, ih]; split <;> rfl
theorem ofL_cutW (w : List (Int × Int)) (o : Int) (k : Nat) : ofL (cutW w o k) o = (ofL w o).take k := by
  induction w generalizing k with
  | nil => simp [ofL, cutW]
  | cons p w ih =>
    obtain ⟨a, v⟩ := p
    by_cases h : a = o
    · cases k with
      | zero => simp [ofL, cutW, h, ih]
      | succ k => simp [ofL, cutW, h, ih]
    · simp [ofL, cutW, h, ih]
theorem ofL_cutW_ne (w : List (Int × Int)) (o o' : Int) (k : Nat) (hne : o' ≠ o) : ofL (cutW w o k) o' = ofL w o' := by
  induction w generalizing k with
  | nil => simp [ofL, cutW]
  | cons p w ih =>
    obtain ⟨a, v⟩ := p
    by_cases h : a = o
    · subst h
      cases k with
      | zero => simp [ofL, cutW, Ne.symm hne, ih]
      | succ k => simp [ofL, cutW, Ne.symm hne, ih]
    · simp only [cutW, h, if_false, ofL, ih]
theorem length_cutW (w : List (Int × Int)) (o : Int) (k : Nat) : (cutW w o k).length + ((ofL w o).length - k) = w.length := by
  induction w generalizing k with
  | nil => simp [ofL, cutW]
  | cons p w ih =>
    obtain ⟨a, v⟩ := p
    by_cases h : a = o
    · cases k with
      | zero => have := ih 0; simp [ofL, cutW, h]; omega
      | succ k => have := ih k; simp [ofL, cutW, h]; omega
    · have := ih k; simp [ofL, cutW, h]; omega
theorem cutW_all (w : List (Int × Int)) (o : Int) (k : Nat) (h : (ofL w o).length ≤ k) : cutW w o k = w := by
  induction w generalizing k with
  | nil => rfl
  | cons p w ih =>
    obtain ⟨a, v⟩ := p
    by_cases ha : a = o
    · simp only [ofL, ha, if_true, List.length_cons] at h
      cases k with
      | zero => omega
      | succ k => simp only [cutW, ha, if_true]; rw [ih k (by omega)]
    · simp only [ofL, ha, if_false] at h
      simp only [cutW, ha, if_false]; rw [ih k h]
theorem length_ofL_le (w : List (Int × Int)) (o : Int) : (ofL w o).length ≤ w.length := by
  have := length_cutW w o 0; omega

def keyE (p : Int × Int) : Value := .agg #[.int .u64 p.1, .int .i64 p.2]
abbrev vU : Int → Value := fun n => .int .u64 n
abbrev vI : Int → Value := fun n => .int .i64 n
instance tk_key : TK Tryz.prog 249 keyE := tk_pair Tryz.underlying249 (by kernel_rfl) Tryz.underlying32 Tryz.underlying3 (by decide) (by decide) rfl rfl
structure RosRel (at_ : List ((Int × Int) × Int)) (ln : List (Int × Int)) (w : List (Int × Int)) : Prop where
  get : ∀ o p, lk at_ (o, p) = if 0 ≤ p then (ofL w o)[p.toNat]? else none
  len : ∀ o, (lk ln o).getD 0 = ((ofL w o).length : Int)
  total : at_.length = w.length
def Ros (r : Nat) (w : List (Int × Int)) : HP := fun H => ∃ x : Nat × Nat × List ((Int × Int) × Int) × List (Int × Int), (x.2.2.1.map (·.1)).Nodup ∧ RosRel x.2.2.1 x.2.2.2 w ∧
  SL [pt r (.cells [.map (some x.1), .map (some x.2.1)].toArray 240 (0, 0)), Mp keyE vU x.1 x.2.2.1, Mp vU vI x.2.1 x.2.2.2] H
theorem Ros.open {r : Nat} {w : List (Int × Int)} : ∀ H, Ros r w H → ∃ x : Nat × Nat × List ((Int × Int) × Int) × List (Int × Int), ((x.2.2.1.map (·.1)).Nodup ∧ RosRel x.2.2.1 x.2.2.2 w) ∧
    SL [pt r (.cells [.map (some x.1), .map (some x.2.1)].toArray 240 (0, 0)), Mp keyE vU x.1 x.2.2.1, Mp vU vI x.2.1 x.2.2.2] H := fun H ⟨x, h1, h2, h3⟩ => ⟨x, ⟨h1, h2⟩, h3⟩
theorem Ros.fold {r m1 m2 : Nat} {w : List (Int × Int)} {at_ : List ((Int × Int) × Int)} {ln : List (Int × Int)} (h : RosRel at_ ln w) : ∀ H,
    SL [pt r (.cells [.map (some m1), .map (some m2)].toArray 240 (0, 0)), Mp keyE vU m1 at_, Mp vU vI m2 ln] H → Ros r w H := fun H hs => by
  refine ⟨(m1, m2, at_, ln), ?_, h, hs⟩
  obtain ⟨_, _, _, _, _, _, _, _, _, hm, _⟩ := hs
  unfold Mp at hm
  exact hm.1
theorem Ros.add {at_ : List ((Int × Int) × Int)} {ln w : List (Int × Int)} (h : RosRel at_ ln w) (o n : Int) :
    RosRel (ins at_ (o, ((ofL w o).length : Int)) n) (ins ln o ((ofL w o).length + 1 : Int)) (w ++ [(o, n)]) := by
  have hnone : lk at_ (o, ((ofL w o).length : Int)) = none := by rw [h.get]; simp
  refine ⟨fun o' p => ?_, fun o' => ?_, ?_⟩
  · rw [lk_ins, h.get]
    by_cases h1 : o' = o
    · subst h1
      by_cases h2 : p = ((ofL w o').length : Int)
      · subst h2; simp [ofL_append, ofL]
      · have : ¬ ((o', p) = (o', ((ofL w o').length : Int))) := fun e => h2 (Prod.mk.inj e).2
        rw [if_neg this]
        by_cases h3 : 0 ≤ p
        · rw [if_pos h3, if_pos h3, ofL_append]
          simp only [ofL, if_true]
          rcases Nat.lt_or_ge p.toNat (ofL w o').length with h4 | h4
          · rw [List.getElem?_append_left h4]
          · rw [List.getElem?_eq_none h4, List.getElem?_eq_none (by simp; omega)]
        · rw [if_neg h3, if_neg h3]
    · have : ¬ ((o', p) = (o, ((ofL w o).length : Int))) := fun e => h1 (Prod.mk.inj e).1
      rw [if_neg this, ofL_append]
      simp [ofL, Ne.symm h1]
  · rw [lk_ins, ofL_append]
    by_cases h1 : o' = o
    · subst h1; simp [ofL]
    · rw [if_neg h1, h.len]; simp [ofL, Ne.symm h1]
  · rw [length_ins, hnone]; simp [h.total]
theorem Ros.cut {at_ : List ((Int × Int) × Int)} {ln w : List (Int × Int)} {o : Int} {k : Nat} (hn : (at_.map (·.1)).Nodup) (h : RosRel at_ ln (cutW w o (k + 1))) (hk : k < (ofL w o).length) :
    RosRel (del at_ (o, (k : Int))) (ins ln o (k : Int)) (cutW w o k) := by
  have hlen : ((ofL w o).take (k + 1)).length = k + 1 := by simp; omega
  have hsome : (lk at_ (o, (k : Int))).isSome := by
    rw [h.get, ofL_cutW]
    simp [List.getElem?_take]
    exact hk
  refine ⟨fun o' p => ?_, fun o' => ?_, ?_⟩
  · rw [lk_del hn, h.get]
    by_cases h1 : o' = o
    · subst h1
      rw [ofL_cutW, ofL_cutW]
      by_cases h2 : p = (k : Int)
      · subst h2; simp [List.getElem?_take]
      · have : ¬ ((o', p) = (o', (k : Int))) := fun e => h2 (Prod.mk.inj e).2
        rw [if_neg this]
        by_cases h3 : 0 ≤ p
        · rw [if_pos h3, if_pos h3, List.getElem?_take, List.getElem?_take]
          split <;> split <;> first | rfl | (exfalso; omega)
        · rw [if_neg h3, if_neg h3]
    · have : ¬ ((o', p) = (o, (k : Int))) := fun e => h1 (Prod.mk.inj e).1
      rw [if_neg this, ofL_cutW_ne _ _ _ _ h1, ofL_cutW_ne _ _ _ _ h1]
  · rw [lk_ins]
    by_cases h1 : o' = o
    · subst h1; rw [if_pos rfl, ofL_cutW]; simp; omega
    · rw [if_neg h1, h.len, ofL_cutW_ne _ _ _ _ h1, ofL_cutW_ne _ _ _ _ h1]
  · rw [length_del, hsome, if_pos rfl, h.total]
    have h1 := length_cutW w o (k + 1)
    have h2 := length_cutW w o k
    omega
theorem Ros.drop {at_ : List ((Int × Int) × Int)} {ln w : List (Int × Int)} {o : Int} (hn : (ln.map (·.1)).Nodup) (h : RosRel at_ ln w) (h0 : ofL w o = []) : RosRel at_ (del ln o) w :=
  ⟨h.get, fun o' => by
    rw [lk_del hn]
    by_cases h1 : o' = o
    · subst h1; simp [h0]
    · rw [if_neg h1, h.len], h.total⟩

theorem ros_new : Spec Tryz.prog 89 [] [] (fun v L => ∃ r, v = .pointer (some ⟨r, 0, none⟩) ∧ L = [Ros r []]) := by
  refine Spec.intro (IsEnt.out) Tryz.func89 rfl Tryz.ntmps89 (by simp) (fun w0 F => ?_)
  simp only [envOf, List.zipIdx, List.map, List.cons_append, List.nil_append, Nat.zero_add, Nat.reduceAdd]
  (repeat refine Z ?_)
  refine XO_dv (dv_makeMap keyE vU) (hk := ?_)
  rintro _ _ ⟨m1, rfl, rfl⟩
  (repeat refine Z ?_)
  refine XO_dv (dv_makeMap vU vI) (hk := ?_)
  rintro _ _ ⟨m2, rfl, rfl⟩
  (repeat refine Z ?_)
  refine XO_dv dv_box (hk := ?_)
  rintro _ _ ⟨r, rfl, rfl⟩
  (repeat refine Z ?_)
  refine XE_ret (.inl rfl) (tells_tmps rfl rfl) ⟨_, ⟨r, rfl, rfl⟩, ?_⟩
  simp only [List.cons_append, List.nil_append]
  refine ent_fold (by exact FAs) (Ros.fold (m1 := m1) (m2 := m2) (at_ := []) (ln := []) ⟨fun o p => by simp [lk, ofL], fun o => by simp [lk, ofL], rfl⟩) ent_refl
theorem ros_len (r : Nat) (w : List (Int × Int)) (o : Int) : Spec Tryz.prog 105 [.pointer (some ⟨r, 0, none⟩), .int .u64 o] [Ros r w] (fun v L => v = .int .i64 ((ofL w o).length : Int) ∧ L = [Ros r w]) := by
  refine Spec.intro (IsEnt.out) Tryz.func105 rfl Tryz.ntmps105 (by simp) (fun w0 F => ?_)
  simp only [envOf, List.zipIdx, List.map, List.cons_append, List.nil_append, Nat.zero_add, Nat.reduceAdd]
  (refine X_open .here Ros.open ?_; rintro ⟨m1, m2, at_, ln⟩ ⟨hn, hrel⟩; dsimp only [List.cons_append, List.nil_append] at hn hrel ⊢)
  (repeat refine Z ?_)
  (refine X_cond rfl (fun h => by cases h) (fun _ => ?_))
  (repeat refine Z ?_)
  refine XO_rv (rv_lookup (ke := vU) (ve := vI) o 0) (hk := ?_)
  rw [hrel.len o]
  (repeat refine Z ?_)
  refine XE_ret (.inl rfl) (tells_tmps rfl rfl) ⟨_, ⟨?_, rfl⟩, ?_⟩
  · rfl
  · ((try simp only [List.cons_append, List.nil_append]); refine ent_fold (by exact FAs) (Ros.fold hrel) ?_; exact EN)
def atL (w : List (Int × Int)) (o p : Int) : Option Int := if 0 ≤ p then (ofL w o)[p.toNat]? else none
theorem ros_add (r : Nat) (w : List (Int × Int)) (o m : Int) (hw : w.length ≤ 1000000) : Spec Tryz.prog 94 [.pointer (some ⟨r, 0, none⟩), .int .u64 o, .int .u64 m] [Ros r w] (fun v L => v = .int .i64 ((ofL w o).length : Int) ∧ L = [Ros r (w ++ [(o, m)])]) := by
  have hb := length_ofL_le w o
  refine Spec.intro (IsEnt.out) Tryz.func94 rfl Tryz.ntmps94 (by simp) (fun w0 F => ?_)
  simp only [envOf, List.zipIdx, List.map, List.cons_append, List.nil_append, Nat.zero_add, Nat.reduceAdd]
  (refine X_open .here Ros.open ?_; rintro ⟨m1, m2, at_, ln⟩ ⟨hn, hrel⟩; dsimp only [List.cons_append, List.nil_append] at hn hrel ⊢)
  (repeat refine Z ?_)
  (refine X_cond rfl (fun h => by cases h) (fun _ => ?_))
  (repeat refine Z ?_)
  refine XO_rv (rv_lookup (ke := vU) (ve := vI) o 0) (hk := ?_)
  have hlen := hrel.len o
  rw [hlen]
  (repeat refine Z ?_)
  refine XO_dv dv_alloc (hk := ?_)
  rintro _ _ ⟨kb, rfl, rfl⟩
  (repeat refine Z ?_)
  refine XO_dv0 dv_storeW (hk := ?_)
  rintro _ _ rfl
  (repeat refine Z ?_)
  repeat (first | refine Dq ?_ | refine Ds ?_ | refine XDi_gF (h := ?_) | refine XDi_gU (h := ?_) | refine XD_pick (h := ?_) | refine X_draws (h := ?_))
  refine XD_one (h := ?_)
  refine XDa_dv0 (dv_mapUpdate (ke := keyE) (ve := vU) (o, ((ofL w o).length : Int)) m) (hk := ?_)
  rintro _ _ rfl
  refine XD_end (h := ?_)
  (repeat refine Z ?_)
  refine XO_rv (rv_lookup (ke := vU) (ve := vI) o 0) (hk := ?_)
  rw [hlen]
  (repeat refine Z ?_)
  refine XO_dv0 (dv_mapUpdate (ke := vU) (ve := vI) o ((ofL w o).length + 1 : Int)) (hk := ?_)
  rintro _ _ rfl
  (repeat refine Z ?_)
  replace hrel := Ros.add hrel o m
  refine XE_ret (.inl rfl) (tells_tmps rfl rfl) ⟨_, ⟨?_, rfl⟩, ?_⟩
  · rfl
  · ((try simp only [List.cons_append, List.nil_append]); refine ent_fold (by exact FAs) (Ros.fold hrel) ?_; exact EN)
theorem drop_rev (xs : List Int) (k : Nat) (h : k < xs.length) : (xs.drop k).reverse = (xs.drop (k + 1)).reverse ++ [xs[k]] := by
  rw [List.drop_eq_getElem_cons h, List.reverse_cons]
theorem ros_cut (r : Nat) (w : List (Int × Int)) (o m : Int) (hm : 0 ≤ m) (hw : w.length ≤ 1000000) : Spec Tryz.prog 142 [.pointer (some ⟨r, 0, none⟩), .int .u64 o, .int .i64 m] [Ros r w]
    (fun v L => ∃ a c, v = .slice a ((ofL w o).drop m.toNat).reverse.length c ∧ L = [Sl (eI .u64) a c ((ofL w o).drop m.toNat).reverse, Ros r (cutW w o m.toNat)]) := by
  have hb := length_ofL_le w o
  refine Spec.intro (IsEnt.out) Tryz.func142 rfl Tryz.ntmps142 (by simp) (fun w0 F => ?_)
  simp only [envOf, List.zipIdx, List.map, List.cons_append, List.nil_append, Nat.zero_add, Nat.reduceAdd]
  (refine X_open .here Ros.open ?_; rintro ⟨m1, m2, at_, ln⟩ ⟨hn, hrel⟩; dsimp only [List.cons_append, List.nil_append] at hn hrel ⊢)
  (repeat refine Z ?_)
  refine X_cond rfl (fun h => by simp at h; omega) (fun _ => ?_)
  (repeat refine Z ?_)
  refine XO_rv (rv_lookup (ke := vU) (ve := vI) o 0) (hk := ?_)
  rw [hrel.len o]
  (repeat refine Z ?_)
  refine X_loop (ι := Nat × (Option Addr × Nat) × List ((Int × Int) × Int) × List (Int × Int)) (fun s => s.1 ≤ (ofL w o).length ∧ (m.toNat ≤ s.1 ∨ s.1 = (ofL w o).length) ∧ RosRel s.2.2.1 s.2.2.2 (cutW w o s.1) ∧ (s.2.2.1.map (·.1)).Nodup)
    (fun s => [(0, .pointer (some ⟨r, 0, none⟩)), (1, .int .u64 o), (2, .int .i64 m), (7, .slice s.2.1.1 ((ofL w o).drop s.1).reverse.length s.2.1.2), (8, .int .i64 ((s.1 : Int) - 1))])
    (fun s => Sl (eI .u64) s.2.1.1 s.2.1.2 ((ofL w o).drop s.1).reverse :: pt r (.cells [.map (some m1), .map (some m2)].toArray 240 (0, 0)) :: Mp keyE vU m1 s.2.2.1 :: Mp vU vI m2 s.2.2.2 :: F)
    (fun s => s.1) ((ofL w o).length, (none, 0), at_, ln) ⟨Nat.le_refl _, .inr rfl, by rw [cutW_all _ _ _ (Nat.le_refl _)]; exact hrel, hn⟩ ?_ ?_ ?_
  · rw [List.drop_length]; exact SBs
  · rw [List.drop_length]
    intro H hH
    exact SL_nilSl (eI .u64) hH
  rintro ⟨j, ⟨a, c⟩, at1, ln1⟩ ⟨hj, hjm, hrel1, hn1⟩
  dsimp only at hj hjm hrel1 hn1 ⊢
  (repeat refine Z ?_)
  refine X_cond rfl ?_ ?_ <;> intro hc <;> simp only [decide_eq_true_eq, decide_eq_false_iff_not] at hc
  · obtain ⟨k, rfl⟩ : ∃ k, j = k + 1 := ⟨j - 1, by omega⟩
    rw [show ((k + 1 : Nat) : Int) - 1 = (k : Int) from by omega] at *
    have hk : k < (ofL w o).length := by omega
    have hat : lk at1 (o, (k : Int)) = some (ofL w o)[k] := by
      rw [hrel1.get, ofL_cutW]
      simp [List.getElem?_take, hk]
    (repeat refine Z ?_)
    refine XO_dv dv_alloc (hk := ?_)
    rintro _ _ ⟨kb, rfl, rfl⟩
    (repeat refine Z ?_)
    refine XO_dv0 dv_storeW (hk := ?_)
    rintro _ _ rfl
    (repeat refine Z ?_)
    repeat (first | refine Dq ?_ | refine Ds ?_ | refine XDi_gF (h := ?_) | refine XDi_gU (h := ?_) | refine XD_pick (h := ?_) | refine X_draws (h := ?_))
    refine XDi_rv (rv_lookup (ke := keyE) (ve := vU) (o, (k : Int)) 0) (h := ?_)
    rw [hat, Option.getD_some]
    repeat (first | refine Dq ?_ | refine Ds ?_ | refine XDi_gF (h := ?_) | refine XDi_gU (h := ?_) | refine XD_pick (h := ?_) | refine X_draws (h := ?_))
    refine XD_one (h := ?_)
    refine XDa_dv (dv_lit (E' := eI .u64) [(ofL w o)[k]]) (hk := ?_)
    rintro _ _ ⟨lb, rfl, rfl⟩
    refine XD_one (h := ?_)
    refine XDa_dv (dv_append (E' := eI .u64) (xs := ((ofL w o).drop (k + 1)).reverse) (ys := [(ofL w o)[k]]) (hv := Sl.view) (hb := by simp; omega)) (hk := ?_)
    rintro _ _ ⟨a', c', rfl, rfl⟩
    rw [← drop_rev _ _ hk]
    refine XD_one (h := ?_)
    refine XDa_dv (dv_of_rv (rv_of_pv pv_assign)) (hk := ?_)
    rintro _ _ ⟨rfl, rfl⟩
    refine XD_end (h := ?_)
    (repeat refine Z ?_)
    repeat (first | refine Dq ?_ | refine Ds ?_ | refine XDi_gF (h := ?_) | refine XDi_gU (h := ?_) | refine XD_pick (h := ?_) | refine X_draws (h := ?_))
    refine XD_one (h := ?_)
    refine XDa_dv0 (dv_delete (ke := keyE) (ve := vU) (o, (k : Int))) (hk := ?_)
    rintro _ _ rfl
    refine XD_end (h := ?_)
    (repeat refine Z ?_)
    refine XO_dv0 (dv_mapUpdate (ke := vU) (ve := vI) o (k : Int)) (hk := ?_)
    rintro _ _ rfl
    (repeat refine Z ?_)
    refine X_round (k, (a', c'), del at1 (o, (k : Int)), ins ln1 o (k : Int)) ?_ ?_ ?_ ?_
    · exact ⟨by omega, by omega, Ros.cut hn1 hrel1 hk, nodup_del hn1 _⟩
    · exact Nat.lt_succ_self k
    · exact SBs
    · exact EN
  · obtain ⟨hw1, hd1⟩ : cutW w o j = cutW w o m.toNat ∧ (ofL w o).drop j = (ofL w o).drop m.toNat := by
      by_cases hh : m.toNat ≤ (ofL w o).length
      · have : j = m.toNat := by omega
        subst this; exact ⟨rfl, rfl⟩
      · have : j = (ofL w o).length := by omega
        subst this
        rw [cutW_all _ _ _ (Nat.le_refl _), cutW_all _ _ _ (by omega), List.drop_length, List.drop_eq_nil_of_le (by omega)]
        exact ⟨rfl, rfl⟩
    rw [hw1] at hrel1
    rw [hd1]
    have hlen1 := hrel1.len o
    (repeat refine Z ?_)
    refine XO_rv (rv_lookup (ke := vU) (ve := vI) o 0) (hk := ?_)
    rw [hlen1]
    (repeat refine Z ?_)
    refine X_cond rfl ?_ ?_ <;> intro h0
    · (repeat refine Z ?_)
      refine XO_fact (A := Mp vU vI m2 ln1) (hf := FDs) Mp.nodup (fun hn2 => ?_)
      refine XO_dv0 (dv_delete (ke := vU) (ve := vI) o) (hk := ?_)
      rintro _ _ rfl
      (repeat refine Z ?_)
      replace hrel := Ros.drop hn2 hrel1 (List.eq_nil_of_length_eq_zero (by simp at h0 ⊢; omega))
      refine XE_ret (.inl rfl) (tells_tmps rfl rfl) ⟨_, ⟨a, c, rfl, rfl⟩, ?_⟩
      simp only [List.cons_append, List.nil_append]
      refine ent_take FDs ?_
      ((try simp only [List.cons_append, List.nil_append]); refine ent_fold (by exact FAs) (Ros.fold hrel) ?_; exact EN)
    · (repeat refine Z ?_)
      replace hrel := hrel1
      refine XE_ret (.inl rfl) (tells_tmps rfl rfl) ⟨_, ⟨a, c, rfl, rfl⟩, ?_⟩
      simp only [List.cons_append, List.nil_append]
      refine ent_take FDs ?_
      ((try simp only [List.cons_append, List.nil_append]); refine ent_fold (by exact FAs) (Ros.fold hrel) ?_; exact EN)
end Go.Proofs.YtamecmklcnohjaaGreat.Sep
namespace Go.Proofs.YtamecmklcnohjaaGreat.Sep
open Go.RowKit
set_option linter.unusedSimpArgs false
set_option linter.unusedVariables false
section
variable {P : Program} {w0 : World} {n : Nat} {Q : Exit → Act → World → Prop} {k : List KI} {e : Env} {L R : List HP} {all : Array Oper} {rest : List Oper} {ty : TypeId} {pos : String} {aft : Array Edge} {d : Nat}
variable {α κ : Type} {E' : E α} {ke : κ → Value} {ve : α → Value}
def MpL {κ α : Type} (ke : κ → Value) (ve : α → Value) (b r : Nat) (l todo : List (κ × α)) (p : κ × α) : HP := fun H => (l.map (·.1)).Nodup ∧ ∃ es clock seen, ∃ en : MapEntry, H b = some (.map es clock) ∧ H r = some (.mapIter (some b) clock seen clock) ∧
  es.toList.map (fun e => (e.key, e.val)) = l.map (fun p => (ke p.1, ve p.2)) ∧ (∀ e ∈ es.toList, e.born < clock) ∧ (es.toList.map (·.born)).Nodup ∧
  (leftOf es seen).toList.map (fun e => (e.key, e.val)) = todo.map (fun p => (ke p.1, ve p.2)) ∧ en ∈ es.toList ∧ seen.back? = some en.born ∧ (en.key, en.val) = (ke p.1, ve p.2)
theorem MpL.on {b r : Nat} {l todo : List (κ × α)} {p : κ × α} : ∀ H, MpL ke ve b r l todo p H → MpI ke ve b r l todo H := by
  rintro H ⟨h1, es, clock, seen, en, h2, h3, h4, h5, h6, h7, _⟩
  exact ⟨h1, es, clock, seen, h2, h3, h4, h5, h6, h7⟩
theorem dv_nextL {b r : Nat} {l todo : List (κ × α)} {x : Operand} (hx : ev e x = some (.pointer (some ⟨r, 0, none⟩)) := by rfl) (hf : Find L (MpI ke ve b r l todo) R := by repeat (first | exact Find.here | apply Find.there)) :
    DV P w0 (.next x false) ty e L (fun v L' => (v = .tuple #[.bool false] ∧ todo = [] ∧ L' = MpI ke ve b r l [] :: R) ∨ ∃ t1 p t2, todo = t1 ++ p :: t2 ∧ v = .tuple #[.bool true, ke p.1, ve p.2] ∧ L' = MpL ke ve b r l (t1 ++ t2) p :: R) := dv_of_run fun tm w pos aft h2 h3 => by
  have h3' := h3.find hf
  obtain ⟨H0, hA0, hle0⟩ := h3'.atom
  obtain ⟨hn, es, clock, seen, hb, hr, hl, hold, hnd, htodo⟩ := hA0
  have hb1 := hle0 _ _ hb
  have hr1 := hle0 _ _ hr
  have hgr : (getObj r).run P w = .ok (.mapIter (some b) clock seen clock) w := by simp [getObj, Sem.run, hr1]
  have hgb : (getObj b).run P w = .ok (.map es clock) w := by simp [getObj, Sem.run, hb1]
  have htest := next_test_false seen es clock clock hold (Nat.le_refl _)
  have hmem : ∀ x ∈ (leftOf es seen).toList, x.born < clock := fun x hx => hold x (mem_left hx).1
  have e1 : (leftOf es seen).filter (fun x => decide (x.born < clock)) = leftOf es seen := Array.filter_eq_self.2 (fun x hx => by simpa using hmem x (by simpa using hx))
  have e2 : (leftOf es seen).filter (fun x => decide (x.born ≥ clock)) = #[] := by
    rw [Array.filter_eq_empty_iff]
    intro x hx
    have := hmem x (by simpa using hx)
    simp; omega
  have hexec : (execOp (Act.mk tm []).eval ⟨none, .next x false, ty, pos, aft, none⟩).run P w = ((Instr.next (.pointer (some ⟨r, 0, none⟩)) false ty).run P w).andThen fun v w => .ok (.value v) w := by
    simp [execOp, ev_sound h2 hx]
  rw [hexec]
  have hnx : (Instr.next (.pointer (some ⟨r, 0, none⟩)) false ty).run P w = ((choose (.mapNext (((if (leftOf es seen).isEmpty then #[none] else #[]) ++ (leftOf es seen).map some).size))).run P w).andThen fun j w => (match ((if (leftOf es seen).isEmpty then #[none] else #[]) ++ (leftOf es seen).map some)[j]? with
      | some (some e) => do
        setObj r (.mapIter (some b) clock (seen.push e.born) clock)
        pure (.tuple #[.bool true, e.key, e.val])
      | some none => pure (.tuple #[.bool false])
      | none => stuck "Next: no such candidate" : Sem Value).run P w := by
    unfold Instr.next
    simp only [Sem.run_bind, hgr, hgb, Result.andThen_ok, htest, Bool.false_eq_true, if_false]
    have e1' : Array.filter (fun x => decide (x.born < clock)) (Array.filter (fun e => !seen.contains e.born) es) = leftOf es seen := e1
    have e2' : Array.filter (fun x => decide (x.born ≥ clock)) (Array.filter (fun e => !seen.contains e.born) es) = #[] := e2
    rw [e1', e2']
    simp only [Array.append_empty]
    rfl
  rw [hnx]
  by_cases h0 : (leftOf es seen).size = 0
  · have hE : leftOf es seen = #[] := Array.eq_empty_of_size_eq_zero h0
    have ht : todo = [] := by rw [hE] at htodo; simpa using htodo.symm
    subst ht
    refine ⟨.tuple #[.bool false], w, _, ?_, .inl ⟨rfl, rfl, rfl⟩, h3'⟩
    rw [hE]
    simp [choose, Sem.run, Question.forced]
  · have hne : (leftOf es seen).isEmpty = false := by simp [Array.isEmpty, h0]
    have hch : ∃ (j : Nat) (w1 : World), j < (leftOf es seen).size ∧ (w1 = w ∨ w1 = w.drew) ∧ (choose (Question.mapNext (leftOf es seen).size)).run P w = .ok j w1 := by
      by_cases hf : (leftOf es seen).size ≤ 1
      · exact ⟨0, w, by omega, .inl rfl, by simp [choose, Sem.run, Question.forced, hf]⟩
      · exact ⟨_, w.drew, Nat.mod_lt _ (by omega), .inr rfl, by
          simp only [choose, Sem.run, Question.forced, decide_eq_true_eq, hf, if_false, Question.cut]
          rfl⟩
    obtain ⟨j, w1, hj, hw1, hrun⟩ := hch
    have hs1 : Sat w0 w1 (MpI ke ve b r l todo :: R) := by
      rcases hw1 with rfl | rfl
      · exact h3'
      · exact h3'.drew
    have hheap : w1.heap = w.heap := by rcases hw1 with rfl | rfl <;> rfl
    have hjt : j < todo.length := by
      have := congrArg List.length htodo
      simp at this; omega
    have hkv : ((leftOf es seen)[j].key, (leftOf es seen)[j].val) = (ke todo[j].1, ve todo[j].2) := by
      have := congrArg (fun q => q[j]?) htodo
      simp [hj, hjt] at this
      rw [Prod.mk.injEq]; exact this
    obtain ⟨hkv1, hkv2⟩ := Prod.mk.inj hkv
    refine ⟨.tuple #[.bool true, ke todo[j].1, ve todo[j].2], { w1 with heap := w1.heap.setIfInBounds r (.mapIter (some b) clock (seen.push (leftOf es seen)[j].born) clock) }, _, ?_, .inr ⟨todo.take j, todo[j], todo.drop (j + 1), by simp, rfl, rfl⟩, ?_⟩
    · simp only [hne, Bool.false_eq_true, if_false, Array.empty_append, Array.size_map, hrun, Result.andThen_ok, Array.getElem?_map, Array.getElem?_eq_getElem hj, Option.map_some, Sem.run_bind]
      have hr2 : w1.heap[r]? = some (.mapIter (some b) clock seen clock) := by rw [hheap]; exact hr1
      have : ∀ o' : Obj, (setObj r o').run P w1 = .ok () { w1 with heap := w1.heap.setIfInBounds r o' } := fun o' => by simp [setObj, Sem.run, hr2]
      rw [this]
      simp [hkv1, hkv2]
    · refine Sat.turn1w (b := r) hs1 (fun H hH => ?_) rfl rfl rfl (heap_set_at (by rw [hheap]; exact hr1)) (fun k hk => by simp [Array.getElem?_setIfInBounds_ne (Ne.symm hk)]) (fun H hH hleH => ?_)
      · obtain ⟨_, _, _, _, _, h, _⟩ := hH
        rw [h]; simp
      · obtain ⟨_, es', clock', seen', hb', hr', _⟩ := hH
        have hbe := hleH _ _ hb'
        rw [hheap, hb1] at hbe
        obtain ⟨rfl, rfl⟩ : es = es' ∧ clock = clock' := by simpa using hbe
        have hbr : b ≠ r := by
          rintro rfl
          rw [hb'] at hr'; cases hr'
        refine ⟨hn, es, clock, seen.push (leftOf es seen)[j].born, (leftOf es seen)[j], ?_, by simp, hl, hold, hnd, ?_, (mem_left (Array.mem_toList_iff.2 (Array.getElem_mem hj))).1, by simp, hkv⟩
        · show (if b = r then _ else H b) = _
          rw [if_neg hbr]; exact hb'
        · rw [leftOf_push hnd hj, List.map_append, List.map_take, List.map_drop, htodo, List.map_append, List.map_take, List.map_drop]
theorem rv_entry {b r : Nat} {l todo : List (κ × α)} {p : κ × α} {x : Operand} (hx : ev e x = some (.pointer (some ⟨r, 0, none⟩)) := by rfl) (hf : Find L (MpL ke ve b r l todo p) R := by repeat (first | exact Find.here | apply Find.there)) : RV P w0 (.entry x) ty e L (.tuple #[ke p.1, ve p.2]) :=
  fun tm w pos aft h2 h3 => by
    obtain ⟨H0, hA0, hle0⟩ := (h3.find hf).atom
    obtain ⟨hn, es, clock, seen, en, hb, hr, hl, hold, hnd, htodo, hmem, hback, hkv⟩ := hA0
    have hb1 := hle0 _ _ hb
    have hr1 := hle0 _ _ hr
    obtain ⟨hkv1, hkv2⟩ := Prod.mk.inj hkv
    have hgr : (getObj r).run P w = .ok (.mapIter (some b) clock seen clock) w := by simp [getObj, Sem.run, hr1]
    have hgb : (getObj b).run P w = .ok (.map es clock) w := by simp [getObj, Sem.run, hb1]
    have hfd : es.find? (·.born == en.born) = some en := by rw [← Array.find?_toList]; exact find_born en es.toList hnd hmem
    have hent : (Instr.entry (.pointer (some ⟨r, 0, none⟩))).run P w = .ok (.tuple #[ke p.1, ve p.2]) w := by
      simp only [Instr.entry, Sem.run_bind, hgr, Result.andThen_ok, hback, hgb, bne_self_eq_false, Bool.false_eq_true, if_false, hfd, hkv1, hkv2]
      rfl
    simp [execOp, ev_sound h2 hx, hent]
theorem filter_eraseIdx {β : Type} (f : β → Bool) : ∀ (l : List β) (j : Nat) (hj : j < l.length), f l[j] = false → (l.eraseIdx j).filter f = l.filter f
  | [], j, hj, _ => absurd hj (Nat.not_lt_zero _)
  | x :: l, 0, hj, h => by
    have h' : f x = false := h
    simp [h']
  | x :: l, j + 1, hj, h => by
    have := filter_eraseIdx f l j (by simpa using hj) (by simpa using h)
    simp only [List.eraseIdx_cons_succ, List.filter_cons, this]
theorem dv_deleteI [DecidableEq κ] {T T' K el : Nat} {x ix : Operand} {b r : Nat} {l todo : List (κ × α)} (kk : κ) [hu : TU P T (.map K el)] (hx : ev e x = some (.map (some b)) := by rfl)
    (hf : Find L (MpI ke ve b r l todo) R := by repeat (first | exact Find.here | apply Find.there)) (hk : ev e ix = some (ke kk) := by rfl) (ht : TK P K ke := by infer_instance) (hnt : kk ∉ todo.map (·.1)) :
    DV P w0 (.call ⟨.builtin .delete, #[x, ix], #[T, T']⟩) ty e L (fun _ L' => L' = MpI ke ve b r (del l kk) todo :: R) := dv_of_run fun tm w pos aft h2 h3 => by
  have h3' := h3.find hf
  obtain ⟨H0, hA0, hle0⟩ := h3'.atom
  obtain ⟨hn, es, clock, seen, hb0, hr0, hes, hborn, hbn, htodo⟩ := hA0
  have hb := hle0 _ _ hb0
  have h4 : (underlying T).run P w = .ok (.map K el) w := run_und hu.out
  have h5 := run_findKey ht kk w hes
  have hdel := del_at l kk 0
  have hsz : es.size = l.length := by have := congrArg List.length hes; simpa using this
  have key : ∀ es' : Array MapEntry, es'.toList.map (fun e => (e.key, e.val)) = (del l kk).map (fun p => (ke p.1, ve p.2)) → es'.toList.Sublist es.toList → (leftOf es' seen).toList = (leftOf es seen).toList →
      Sat w0 { w with heap := w.heap.setIfInBounds b (.map es' clock) } (MpI ke ve b r (del l kk) todo :: R) := by
    intro es' he hsub hleft
    refine Sat.turn1w (b := b) (o' := .map es' clock) h3' (fun H hH => ?_) rfl rfl rfl (heap_set_at hb) (fun k hk => by simp [Array.getElem?_setIfInBounds_ne (Ne.symm hk)]) (fun H hH hleH => ?_)
    · obtain ⟨_, _, _, _, h, _⟩ := hH
      rw [h]; simp
    · obtain ⟨_, es2, clock2, seen2, hb2, hr2, _, _, _, htodo2⟩ := hH
      have hbe := hleH _ _ hb2
      rw [hb] at hbe
      obtain ⟨rfl, rfl⟩ : es = es2 ∧ clock = clock2 := by simpa using hbe
      have hre := hleH _ _ hr2
      have hre0 := hle0 _ _ hr0
      rw [hre0] at hre
      obtain rfl : seen = seen2 := by simpa using hre
      have hbr : r ≠ b := by
        rintro rfl
        rw [hb2] at hr2; cases hr2
      refine ⟨nodup_del hn kk, es', clock, seen, by simp, ?_, he, fun en hen => hborn en (hsub.subset hen), (hsub.map _).nodup hbn, by rw [hleft]; exact htodo⟩
      show (if r = b then _ else H r) = _
      rw [if_neg hbr]; exact hr2
  cases hfi : findIx l kk 0 with
  | none =>
    rw [hfi] at hdel h5
    refine ⟨.tuple #[], _, _, ?_, rfl, key es ?_ (List.Sublist.refl _) rfl⟩
    · simp [execOp, resolve, invoke, builtin, Builtin.delete_, ev_sound h2 hx, ev_sound h2 hk, h4, run_getMap hb, ht.check, h5, run_setMap hb]
    · simp only at hdel; rw [hdel]; exact hes
  | some p =>
    obtain ⟨j, u⟩ := p
    have hkey := ins_at l kk u 0
    rw [hfi] at hdel h5 hkey
    obtain ⟨m, hjm, hm, hdel⟩ := hdel
    obtain rfl : j = m := by omega
    obtain ⟨m2, hjm2, _, _, hkm⟩ := hkey
    obtain rfl : j = m2 := by omega
    have hjs : j < es.size := by omega
    have hent : es.toList[j].key = ke kk := by
      have h6 := congrArg (fun q => q[j]?) hes
      have h7 : l[j]? = some l[j] := List.getElem?_eq_getElem hm
      simp [hjs, hm] at h6
      rw [List.getElem?_map, h7] at hkm
      simp at hkm
      rw [← hkm]
      simpa using h6.1
    refine ⟨.tuple #[], _, _, ?_, rfl, key (es.eraseIdxIfInBounds j) ?_ ?_ ?_⟩
    · simp [execOp, resolve, invoke, builtin, Builtin.delete_, ev_sound h2 hx, ev_sound h2 hk, h4, run_getMap hb, ht.check, h5, run_setMap hb]
    · rw [hdel]
      simp only [Array.eraseIdxIfInBounds, hjs, dif_pos, Array.toList_eraseIdx]
      have he : ∀ {β γ : Type} (f : β → γ) (l : List β) (i : Nat), (l.eraseIdx i).map f = (l.map f).eraseIdx i := by
        intro β γ f l
        induction l with
        | nil => intro i; rfl
        | cons a l ih => intro i; cases i <;> simp [ih]
      rw [he, he, hes]
    · simp only [Array.eraseIdxIfInBounds, hjs, dif_pos, Array.toList_eraseIdx]
      exact List.eraseIdx_sublist _ _
    · simp only [Array.eraseIdxIfInBounds, hjs, dif_pos]
      unfold leftOf
      rw [Array.toList_filter, Array.toList_filter, Array.toList_eraseIdx]
      refine filter_eraseIdx _ _ _ (by simpa using hjs) ?_
      cases hc : (!seen.contains es.toList[j].born) with
      | false => rfl
      | true =>
        exfalso
        have hin : es.toList[j] ∈ (leftOf es seen).toList := by
          unfold leftOf
          rw [Array.toList_filter, List.mem_filter]
          exact ⟨List.getElem_mem _, hc⟩
        have h8 : (es.toList[j].key, es.toList[j].val) ∈ (leftOf es seen).toList.map (fun e => (e.key, e.val)) := List.mem_map.2 ⟨_, hin, rfl⟩
        rw [htodo] at h8
        obtain ⟨q, hq, hqe⟩ := List.mem_map.1 h8
        have h9 : ke q.1 = ke kk := by rw [← hent]; exact congrArg Prod.fst hqe
        exact hnt (List.mem_map.2 ⟨q, hq, ht.inj _ _ h9⟩)
end
end Go.Proofs.YtamecmklcnohjaaGreat.Sep
