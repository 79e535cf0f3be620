import Derived.Test.YteobjankkcdaoaaSepM
namespace Go.Proofs.Yteobjankkcdaoaa.Sep
open Go.RowKit
set_option linter.unusedSimpArgs false
set_option linter.unusedVariables false
set_option linter.unusedSectionVars false

/-! ### structs, stores, append -/
class TS (P : Program) (fs : List Field) (ps : outParam (List (Nat × Nat))) : Prop where
  out : ∀ w, (fs.mapM (m := Sem) fun f => do pure (f.offset, ← sizeOf f.type)).run P w = .ok ps w
instance ts_nil {P : Program} : TS P [] [] := ⟨fun w => rfl⟩
instance ts_cons {P : Program} {f : Field} {fs : List Field} {z : Value} {s b : Nat} {ps : List (Nat × Nat)} [h : TI P f.type z s b] [hs : TS P fs ps] : TS P (f :: fs) ((f.offset, s) :: ps) :=
  ⟨fun w => by simp only [List.mapM_cons, Sem.run_bind, run_size h, Result.andThen_ok, Sem.run_pure, hs.out]⟩
theorem setRow_at {w : World} {g : Nat} {cur new : Array Value} {t : TypeId} {fr : Nat × Nat} (h : w.heap[g]? = some (.cells cur t fr)) : (w.setRow g new).heap[g]? = some (.cells new t fr) := by
  simp [World.setRow, Array.getElem?_modify, h]
theorem setRow_ne {w : World} {g k : Nat} {new : Array Value} (h : k ≠ g) : (w.setRow g new).heap[k]? = w.heap[k]? := by
  simp [World.setRow, Array.getElem?_modify, Ne.symm h]
section
variable {P : Program} {w0 : World} {n : Nat} {Q : Exit → Act → World → Prop} {k : List KI} {e : Env} {L R : List HP} {all : Array Oper} {rest : List Oper} {ty : TypeId} {pos : String} {aft : Array Edge} {d : Nat}
variable {α : Type} {E' : E α}
/-- A struct that is written out, all its fields of one cell, in order. -/
theorem pv_build {T len by' : Nat} {fl : List Field} {parts : Array (Nat × Operand)} {z : Value} {vs : List Value} {ps : List (Nat × Nat)} [hu : TU P T (.struct fl.toArray)] [hi : TI P T z len by'] [hs : TS P fl ps] (hp : parts.toList.map (·.1) = List.range' 0 len := by rfl)
    (hv : evl e (parts.toList.map (·.2)) = some vs := by rfl) (hps : ps = (List.range' 0 len).map (fun i => (i, 1)) := by rfl) (hz : z.cells.size = len := by rfl) (h1 : vs.all Value.oneCell' = true := by rfl) : PV P (.build T parts) ty e (.agg vs.toArray) := fun tm w pos aft h2 => by
  have h4 := evl_sound (ds := []) h2 hv
  have hl : vs.length = len := by
    have := congrArg List.length hp
    simp at this
    rw [← h4]; simp [this]
  have hparts : parts.toList.map (fun x => (x.fst, (Act.mk tm []).eval x.snd)) = (List.range' 0 vs.length).zip vs := by
    rw [hl, ← hp, ← h4]
    generalize parts.toList = l
    induction l with
    | nil => rfl
    | cons p l ih => simp [ih]
  have hcs : ∀ v ∈ vs, v.cells = #[v] := fun v hv => by
    have := List.all_eq_true.1 h1 v hv
    cases v <;> first | rfl | (simp [Value.oneCell'] at this)
  have hus : (underlying T).run P w = .ok (.struct fl.toArray) w := run_und hu.out
  have hfill := fill_seq 1 vs 0 z.cells (fun v hv => by rw [hcs v hv]; rfl) (by rw [hl, hz]; omega)
  have hfm : vs.flatMap (·.cells.toList) = vs := by
    clear hfill hparts hl h4 hv h1
    induction vs with
    | nil => rfl
    | cons v vs ih => simp [List.flatMap_cons, hcs v (by simp), ih (fun u hu => hcs u (by simp [hu]))]
  have hpl : ∀ (places : Nat → Option (Nat × Nat)) (cells : Array Value) (l : List (Nat × Value)), (∀ p ∈ l, places p.1 = some (p.1 * 1, 1)) → Instr.fill places cells l = Instr.fill (fun i => some (i * 1, 1)) cells l := by
    intro places cells l
    induction l generalizing cells with
    | nil => intro _; rfl
    | cons p l ih =>
      intro hp
      obtain ⟨i, v⟩ := p
      have := hp (i, v) (by simp)
      simp only at this
      simp only [Instr.fill, this]
      split
      · rfl
      · exact ih _ fun q hq => hp q (by simp [hq])
  have hmem : ∀ p ∈ (List.range' 0 vs.length).zip vs, ps.toArray[p.1]? = some (p.1 * 1, 1) := by
    intro p hp
    have := (List.of_mem_zip hp).1
    rw [List.mem_range'_1] at this
    rw [hps]
    simp [show p.1 < len by omega]
  simp only [execOp, Instr.build, Sem.run_bind, run_zero hi, Result.andThen_ok, hus, List.mapM_toArray, Sem.run_map, hs.out]
  have hp2 : (Array.map (fun x : Nat × Operand => match x with | (i, x) => (i, (Act.mk tm []).eval x)) parts).toList = (List.range' 0 vs.length).zip vs := by rw [Array.toList_map]; exact hparts
  rw [hp2, hpl _ _ _ hmem, hfill]
  simp only [Sem.run_bind, Sem.run_pure, Result.andThen_ok]
  congr 3
  apply Array.ext'
  simp [hfm, hl, ← hz]
theorem dv_box {T : TypeId} {x : Operand} {row : List Value} (hx : ev e x = some (.agg row.toArray) := by rfl) : DV P w0 (.box T x) ty e L (fun v L' => ∃ b, v = .pointer (some ⟨b, 0, none⟩) ∧ L' = pt b (.cells row.toArray T (0, 0)) :: L) :=
  dv_of_run fun tm w pos aft h2 h3 => ⟨.pointer (some ⟨w.heap.size, 0, none⟩), w.alloc (.cells row.toArray T), _, by simp [execOp, Instr.box, newVar, newRow, ev_sound h2 hx, Value.cells], ⟨_, rfl, rfl⟩, h3.alloc⟩
theorem dv_box1 {T : TypeId} {x : Operand} {v : Value} (hx : ev e x = some v := by rfl) (h1 : v.oneCell' = true := by rfl) : DV P w0 (.box T x) ty e L (fun u L' => ∃ b, u = .pointer (some ⟨b, 0, none⟩) ∧ L' = pt b (.cells [v].toArray T (0, 0)) :: L) :=
  dv_of_run fun tm w pos aft h2 h3 => ⟨.pointer (some ⟨w.heap.size, 0, none⟩), w.alloc (.cells #[v] T), _, by
    have : v.cells = #[v] := by cases v <;> first | rfl | (simp [Value.oneCell'] at h1)
    simp [execOp, Instr.box, newVar, newRow, ev_sound h2 hx, this], ⟨_, rfl, rfl⟩, h3.alloc⟩
theorem dv_alloc {T s by' : Nat} {z : Value} {row : List Value} [hi : TI P T z s by'] (hz : z.cells = row.toArray := by rfl) : DV P w0 (.alloc T) ty e L (fun u L' => ∃ b, u = .pointer (some ⟨b, 0, none⟩) ∧ L' = pt b (.cells row.toArray T (0, 0)) :: L) :=
  dv_of_run fun tm w pos aft h2 h3 => ⟨.pointer (some ⟨w.heap.size, 0, none⟩), w.alloc (.cells row.toArray T), _, by
    simp [execOp, Instr.alloc, newVar, newRow, run_zero hi, hz], ⟨_, rfl, rfl⟩, h3.alloc⟩
theorem run_storeAt {w : World} {T b o s by' : Nat} {v : Value} {z : Value} {cur : Array Value} {T' : TypeId} (hi : TI P T z s by') (hl : v.cells.size = s) (h1 : ∀ u ∈ v.cells.toList, u.oneCell' = true) (hb : w.heap[b]? = some (.cells cur T' (0, 0))) (hfit : o + s ≤ cur.size) :
    (Instr.storeAt T (.pointer (some ⟨b, o, none⟩)) v).run P w = .ok () (w.setRow b (cur.toList.take o ++ v.cells.toList ++ cur.toList.drop (o + s)).toArray) := by
  have hst := run_storeCells_at P b o T' v.cells.toList 0 cur w hb (by simp [hl]; exact hfit) h1
  simp only [Nat.add_zero, Array.length_toList, hl] at hst
  simp [Instr.storeAt, Instr.sureAddr, storeVar, run_size hi, hl, hst]
theorem sat_setRow {w : World} {b : Nat} {cur new : Array Value} {T' : TypeId} (h : Sat w0 w (pt b (.cells cur T' (0, 0)) :: R)) : Sat w0 (w.setRow b new) (pt b (.cells new T' (0, 0)) :: R) :=
  h.put rfl rfl rfl (setRow_at h.block) (fun _ hk => setRow_ne hk)
theorem dv_store {T : TypeId} {x y : Operand} {b o by' : Nat} {v : Value} {row row' : List Value} {T' : TypeId} {z : Value} [hi : TI P T z 1 by'] (hx : ev e x = some (.pointer (some ⟨b, o, none⟩)) := by rfl) (hy : ev e y = some v := by rfl)
    (hf : Find L (pt b (.cells row.toArray T' (0, 0))) R := by repeat (first | exact Find.here | apply Find.there)) (h1 : v.oneCell' = true := by rfl) (ho : (o < row.length : Bool) = true := by rfl) (hr : row.set o v = row' := by first | (simp only [List.set_cons_zero, List.set_cons_succ]; rfl) | rfl) :
    DV P w0 (.store T x y) ty e L (fun _ L' => L' = pt b (.cells row'.toArray T' (0, 0)) :: R) := dv_of_skip fun tm w pos aft h2 h3 => by
  have h3' := h3.find hf
  have ho' : o < row.length := by simpa using ho
  have hc : v.cells = #[v] := by cases v <;> first | rfl | (simp [Value.oneCell'] at h1)
  have hrun := run_storeAt (P := P) (v := v) (o := o) hi (by rw [hc]; rfl) (by rw [hc]; simpa using h1) h3'.block (by simp; omega)
  subst hr
  have e1 : (row.toArray.toList.take o ++ v.cells.toList ++ row.toArray.toList.drop (o + 1)).toArray = (row.set o v).toArray := by
    rw [hc]; simp [List.set_eq_take_append_cons_drop, ho']
  rw [e1] at hrun
  exact ⟨w.setRow b (row.set o v).toArray, _, by simp only [execOp, ev_sound h2 hx, ev_sound h2 hy, Sem.run_bind, hrun, Result.andThen_ok, Sem.run_pure], rfl, sat_setRow h3'⟩
/-- A whole variable is stored. -/
theorem dv_storeW {T s by' : Nat} {x y : Operand} {b : Nat} {row vs : List Value} {T' : TypeId} {z : Value} [hi : TI P T z s by'] (hx : ev e x = some (.pointer (some ⟨b, 0, none⟩)) := by rfl) (hy : ev e y = some (.agg vs.toArray) := by rfl)
    (hf : Find L (pt b (.cells row.toArray T' (0, 0))) R := by repeat (first | exact Find.here | apply Find.there)) (hl : vs.length = s := by rfl) (hr : row.length = s := by rfl) (h1 : vs.all Value.oneCell' = true := by rfl) :
    DV P w0 (.store T x y) ty e L (fun _ L' => L' = pt b (.cells vs.toArray T' (0, 0)) :: R) := dv_of_skip fun tm w pos aft h2 h3 => by
  have h3' := h3.find hf
  have hrun := run_storeAt (P := P) (v := .agg vs.toArray) (o := 0) hi (by simpa [Value.cells] using hl) (by simpa [Value.cells] using h1) h3'.block (by simp [hr])
  have e1 : (row.toArray.toList.take 0 ++ (Value.agg vs.toArray).cells.toList ++ row.toArray.toList.drop (0 + s)).toArray = vs.toArray := by
    simp [Value.cells, ← hr]
  rw [e1] at hrun
  exact ⟨w.setRow b vs.toArray, _, by simp only [execOp, ev_sound h2 hx, ev_sound h2 hy, Sem.run_bind, hrun, Result.andThen_ok, Sem.run_pure], rfl, sat_setRow h3'⟩
theorem run_append_room' {w : World} {t tx ty e : TypeId} {i : TypeInfo} (ht : P.underlying t = some (.slice e)) (hi : P.info? e = some i) {g off sLen sCap : Nat} {cur : Array Value} {T : TypeId} (hg : w.heap[g]? = some (.cells cur T (0, 0))) {x : Value} {n : Nat} {news : List Value}
    (hs : Src P i.size tx x n news w) (hroom : sLen + n ≤ sCap) (hfit : off + sLen * i.size + news.length ≤ cur.size) :
    (Builtin.append_ #[t, tx] ty #[.slice (some ⟨g, off, none⟩) sLen sCap, x]).run P w = .ok (.slice (some ⟨g, off, none⟩) (sLen + n) sCap) (w.setRow g (cur.toList.take (off + sLen * i.size) ++ news ++ cur.toList.drop (off + sLen * i.size + news.length)).toArray) := by
  have hst := run_storeCells_at P g (off + sLen * i.size) T news 0 cur w hg (by simpa using hfit) hs.one
  simp only [Nat.add_zero] at hst
  rcases hs.kind with ⟨e', hk⟩ | hk <;> simp [Builtin.append_, run_und ht, run_und hk, sizeOf, typeInfo, hi, hs.len, hroom, hs.cells, Addr.add_lit, hst]
theorem src_of_view {w : World} {A : HP} {a : Option Addr} {ys : List α} {c tx el : Nat} {H : PH} (hv : View A E' a ys) (hA : A H) (hle : PH.le H w) (hk : P.underlying tx = some (.slice el)) : Src P E'.sz tx (.slice a ys.length c) ys.length (flat E' ys) w := by
  rcases hv H hA with rfl | ⟨ad, rfl, hsp, row, T, fr, hb, hr⟩
  · have hz : ∀ (w : World), (Builtin.firstCells E'.sz 0 (.slice a 0 c)).run P w = .ok #[] w := fun w => by
      cases a with
      | none => simp [Builtin.firstCells]
      | some ad => simp [Builtin.firstCells, loadCells, loadCellsFrom]
    exact ⟨.inl ⟨el, hk⟩, fun _ => rfl, hz w, hz w.drew, by simp, fun _ h => by cases h⟩
  · refine Src.ofSlice w hk ad ys.length c (flat E' ys) (flat_length E' ys) (fun j u hj => ?_) (flat_one E' ys)
    have h1 := hle _ _ hb
    have h2 := hr j u hj
    obtain ⟨b, o, sp⟩ := ad
    simp only at hsp; subst hsp
    rw [show (⟨b, o, none⟩ : Addr).add j = ⟨b, o + j, none⟩ from by unfold Addr.add; split <;> simp_all]
    simp [World.cell?, h1, h2]
/-- append(x, y...): y is read, x is given up for what comes of it. -/
theorem dv_append {t tx el s by' : Nat} {x y : Operand} {a a2 : Option Addr} {c c2 : Nat} {xs ys : List α} {A : HP} {z : Value} [hu : TU P t (.slice el)] [hux : TU P tx (.slice el)] [hi : TI P el z s by'] (hx : ev e x = some (.slice a xs.length c) := by rfl) (hy : ev e y = some (.slice a2 ys.length c2) := by rfl)
    (hv : View A E' a2 ys) (hf : FindAll L [Sl E' a c xs, A] R := by repeat (first | exact FindAll.nil | exact Find.here | apply Find.there | apply FindAll.cons)) (hs : E'.sz = s := by rfl) (hz : z.cells.size = s := by rfl) (hby : (0 < by' : Bool) = true := by rfl) (hb : (xs.length + ys.length) * by' ≤ 140737488355328 := by omega) :
    DV P w0 (.call ⟨.builtin .append, #[x, y], #[t, tx]⟩) ty e L (fun v L' => ∃ a' c', v = .slice a' (xs ++ ys).length c' ∧ L' = Sl E' a' c' (xs ++ ys) :: A :: R) := dv_of_run fun tm w pos aft h2 h3 => by
  subst hs
  have hby' : 0 < by' := by simpa using hby
  have h3' := h3.findAll hf
  obtain ⟨i, hinf, hzero, hsz, hbytes⟩ := hi.out
  obtain ⟨H1, hA1, hle1⟩ := (Sat.drop h3').atom
  have hsrc : Src P i.size tx (.slice a2 ys.length c2) ys.length (flat E' ys) w := by rw [hsz]; exact src_of_view hv hA1 hle1 hux.out
  have hop : ∀ (res : Result Value), (Builtin.append_ #[t, tx] ty #[.slice a xs.length c, .slice a2 ys.length c2]).run P w = res →
      (execOp (Act.mk tm []).eval ⟨none, .call ⟨.builtin .append, #[x, y], #[t, tx]⟩, ty, pos, aft, none⟩).run P w = res.andThen fun v w => .ok (.value v) w := by
    intro res h
    simp [execOp, resolve, invoke, builtin, ev_sound h2 hx, ev_sound h2 hy, h]
  have hlen : (xs ++ ys).length = xs.length + ys.length := by simp
  obtain ⟨H0, hA0, hle0⟩ := h3'.atom
  by_cases hroom : xs.length + ys.length ≤ c
  · cases a with
    | none =>
      obtain ⟨rfl, rfl⟩ := hA0
      have hy0 : ys = [] := by
        have : ys.length = 0 := by simpa using hroom
        exact List.length_eq_zero_iff.1 this
      subst hy0
      refine ⟨.slice none 0 0, w, _, ?_, ⟨none, 0, rfl, rfl⟩, h3'⟩
      rw [hop (.ok (.slice none 0 0) w)]
      · rfl
      · have hk := hux.out
        simp [Builtin.append_, run_und hu.out, run_und hk, sizeOf, typeInfo, hinf, hsrc.len, Builtin.lenOf]
        have hz : (Builtin.firstCells i.size 0 (.slice a2 0 c2)).run P w = .ok #[] w := hsrc.cells
        simp [hz]
    | some ad =>
      obtain ⟨b, o, sp⟩ := ad
      obtain ⟨_, hsp, row, T, hrow, pre, post, hr, hp, hq⟩ := hA0
      simp only at hsp; subst hsp
      have hrw := hle0 _ _ hrow
      have hpl : post.length = (c - xs.length) * E'.sz := hq
      have hge : ys.length * E'.sz ≤ (c - xs.length) * E'.sz := Nat.mul_le_mul_right _ (by omega)
      have hsize : row.size = o + xs.length * E'.sz + (c - xs.length) * E'.sz := by
        rw [← Array.length_toList, hr]; simp [flat_length, hp, hq, Nat.add_assoc]
      have hrun := run_append_room' (ty := ty) hu.out hinf hrw hsrc hroom (by rw [hsz, flat_length, hsize]; exact Nat.add_le_add_left hge _)
      refine ⟨_, _, _, by rw [hop _ hrun]; rfl, ⟨some ⟨b, o, none⟩, c, by rw [hlen], rfl⟩, ?_⟩
      rw [hsz]
      refine Sat.turn1 (b := b) h3' (fun H hH => ?_) rfl rfl rfl (setRow_at hrw) (fun k hk => setRow_ne hk) (fun H hH => ?_)
      · obtain ⟨_, _, row, T, hb, _⟩ := hH
        rw [hb]; simp
      · refine ⟨by rw [hlen]; exact hroom, rfl, _, T, by simp; rfl, pre, post.drop (ys.length * E'.sz), ?_, hp, ?_⟩
        · have e1 : (pre ++ flat E' xs).length = o + xs.length * E'.sz := by simp [flat_length, hp]
          rw [hr, flat_length]
          rw [List.take_left' e1, ← List.drop_drop, List.drop_left' e1, flat_append]
          simp [List.append_assoc]
        · rw [List.length_drop, hq, hlen, ← Nat.sub_mul]; congr 1; omega
  · have hfc : ∀ w' : World, w'.heap = w.heap → (Builtin.firstCells i.size xs.length (.slice a xs.length c)).run P w' = .ok (flat E' xs).toArray w' := by
      intro w' hw'
      have hle' : PH.le H0 w' := fun b o hb => by rw [hw']; exact hle0 b o hb
      have := (src_of_view (P := P) (tx := tx) (el := el) (c := c) (Sl.view (e := E') (a := a) (c := c) (xs := xs)) hA0 hle' hux.out).cells
      rw [hsz]; exact this
    have hneed : c < xs.length + ys.length := by omega
    have hb' : (xs.length + ys.length) * i.bytes ≤ 140737488355328 := by rw [hbytes]; exact hb
    have h63 : ((xs.length + ys.length : Nat) : Int) ≤ 9223372036854775807 := by
      have : (xs.length + ys.length) * 1 ≤ (xs.length + ys.length) * by' := Nat.mul_le_mul_left _ hby'
      omega
    have hrun := run_append_grow_src w t tx ty el i z hu.out hinf hzero a xs.length c (flat E' xs) (hfc w.drew rfl) (.slice a2 ys.length c2) ys.length (flat E' ys) hsrc hneed h63 (growslice_fits hneed hb')
    refine ⟨_, _, _, by rw [hop _ hrun]; rfl, ⟨some ⟨w.heap.size, 0, none⟩, _, by rw [hlen], rfl⟩, ?_⟩
    have hd : Sat w0 w.drew (A :: R) := (Sat.drop h3').drew
    refine (hd.alloc (o := .cells ((flat E' xs ++ flat E' ys).toArray ++ Builtin.zeroCells z.cells (grownCap w (xs.length + ys.length) c el - (xs.length + ys.length))) el)).map fun _ => SL.head fun H hH => ?_
    refine ⟨by rw [hlen]; exact grownCap_ge w _ _ _, rfl, _, el, hH, [], (Builtin.zeroCells z.cells (grownCap w (xs.length + ys.length) c el - (xs.length + ys.length))).toList, by simp [flat_append], rfl, ?_⟩
    rw [Array.length_toList, hlen]
    simp [Builtin.zeroCells, hz]
/-- An answer that lies in a variable. -/
theorem tells_cell {fn : Func} {T t : TypeId} {b s by' : Nat} {row : List Value} {T' : TypeId} {fr : Nat × Nat} {dd : TypeDesc} {z : Value} [hu : TU P T dd] [hi : TI P T z s by'] (hr : fn.results = #[.cell t T]) (ht : e.get t = some (.pointer (some ⟨b, 0, none⟩)) := by rfl) (hg : aggD dd = true := by rfl) (hl : row.length = s := by rfl)
    (hf : Find L (pt b (.cells row.toArray T' fr)) R := by repeat (first | exact Find.here | apply Find.there)) : Tells ⟨P, w0, n, Q⟩ fn e L (.agg row.toArray) := by
  intro tm w _ h2 h3
  have h4 := h2 t _ ht
  have h5 := (holds_pt (b := b) (o := 0) (row := row) (T := T') (fr := fr) (vs := row) (by simp)).cell (h3.find hf)
  simp only [Nat.zero_add] at h5
  have h6 := run_loadAtA (P := P) (w := w) (b := b) (o := 0) hu.out hg hi hl (by simpa using h5)
  simp only [Instr.loadAt, Instr.sureAddr, Sem.run_bind, Sem.run_pure, Result.andThen_ok] at h6
  unfold results
  rw [hr]
  simp [List.mapM_toArray, h4, asAddr, h6]
end
end Go.Proofs.Yteobjankkcdaoaa.Sep
