import Derived.Test.YtamecmklcnohjaaGreatBn2
import Derived.Test.YtamecmklcnohjaaGreatBn1
import Derived.Laws.MakeOwn
import Derived.Laws.Slices
import Derived.Laws.StructEq
import Derived.Laws.IdiomRangeMap
/- What the laws share: a separation logic over the model, and what the program's functions do, by it. Part 3 of 14: SepS SepN SepF SepR. -/
namespace Go.Proofs.YtamecmklcnohjaaGreat.Sep
open Go.RowKit
set_option linter.unusedSimpArgs false
set_option linter.unusedVariables false
set_option linter.unusedSectionVars false

/-! ### structs, stores, append -/
class TS (P : Program) (fs : List Field) (ps : outParam (List (Nat × Nat))) : Prop where
  out : ∀ w, (fs.mapM (m := Sem) fun f => do pure (f.offset, ← sizeOf f.type)).run P w = .ok ps w
instance ts_nil {P : Program} : TS P [] [] := ⟨fun w => rfl⟩
instance ts_cons {P : Program} {f : Field} {fs : List Field} {z : Value} {s b : Nat} {ps : List (Nat × Nat)} [h : TI P f.type z s b] [hs : TS P fs ps] : TS P (f :: fs) ((f.offset, s) :: ps) :=
  ⟨fun w => by simp only [List.mapM_cons, Sem.run_bind, run_size h, Result.andThen_ok, Sem.run_pure, hs.out]⟩
theorem setRow_at {w : World} {g : Nat} {cur new : Array Value} {t : TypeId} {fr : Nat × Nat} (h : w.heap[g]? = some (.cells cur t fr)) : (w.setRow g new).heap[g]? = some (.cells new t fr) := by
  simp [World.setRow, Array.getElem?_modify, h]
theorem setRow_ne {w : World} {g k : Nat} {new : Array Value} (h : k ≠ g) : (w.setRow g new).heap[k]? = w.heap[k]? := by
  simp [World.setRow, Array.getElem?_modify, Ne.symm h]
section
variable {P : Program} {w0 : World} {n : Nat} {Q : Exit → Act → World → Prop} {k : List KI} {e : Env} {L R : List HP} {all : Array Oper} {rest : List Oper} {ty : TypeId} {pos : String} {aft : Array Edge} {d : Nat}
variable {α : Type} {E' : E α}
/-- A struct that is written out, all its fields of one cell, in order. -/
theorem pv_build {T len by' : Nat} {fl : List Field} {parts : Array (Nat × Operand)} {z : Value} {vs : List Value} {ps : List (Nat × Nat)} [hu : TU P T (.struct fl.toArray)] [hi : TI P T z len by'] [hs : TS P fl ps] (hp : parts.toList.map (·.1) = List.range' 0 len := by rfl)
    (hv : evl e (parts.toList.map (·.2)) = some vs := by rfl) (hps : ps = (List.range' 0 len).map (fun i => (i, 1)) := by rfl) (hz : z.cells.size = len := by rfl) (h1 : vs.all Value.oneCell' = true := by rfl) : PV P (.build T parts) ty e (.agg vs.toArray) := fun tm w pos aft h2 => by
  have h4 := evl_sound (ds := []) h2 hv
  have hl : vs.length = len := by
    have := congrArg List.length hp
    simp at this
    rw [← h4]; simp [this]
  have hparts : parts.toList.map (fun x => (x.fst, (Act.mk tm []).eval x.snd)) = (List.range' 0 vs.length).zip vs := by
    rw [hl, ← hp, ← h4]
    generalize parts.toList = l
    induction l with
    | nil => rfl
    | cons p l ih => simp [ih]
  have hcs : ∀ v ∈ vs, v.cells = #[v] := fun v hv => by
    have := List.all_eq_true.1 h1 v hv
    cases v <;> first | rfl | (simp [Value.oneCell'] at this)
  have hus : (underlying T).run P w = .ok (.struct fl.toArray) w := run_und hu.out
  have hfill := fill_seq 1 vs 0 z.cells (fun v hv => by rw [hcs v hv]; rfl) (by rw [hl, hz]; omega)
  have hfm : vs.flatMap (·.cells.toList) = vs := by
    clear hfill hparts hl h4 hv h1
    induction vs with
    | nil => rfl
    | cons v vs ih => simp [List.flatMap_cons, hcs v (by simp), ih (fun u hu => hcs u (by simp [hu]))]
  have hpl : ∀ (places : Nat → Option (Nat × Nat)) (cells : Array Value) (l : List (Nat × Value)), (∀ p ∈ l, places p.1 = some (p.1 * 1, 1)) → Instr.fill places cells l = Instr.fill (fun i => some (i * 1, 1)) cells l := by
    intro places cells l
    induction l generalizing cells with
    | nil => intro _; rfl
    | cons p l ih =>
      intro hp
      obtain ⟨i, v⟩ := p
      have := hp (i, v) (by simp)
      simp only at this
      simp only [Instr.fill, this]
      split
      · rfl
      · exact ih _ fun q hq => hp q (by simp [hq])
  have hmem : ∀ p ∈ (List.range' 0 vs.length).zip vs, ps.toArray[p.1]? = some (p.1 * 1, 1) := by
    intro p hp
    have := (List.of_mem_zip hp).1
    rw [List.mem_range'_1] at this
    rw [hps]
    simp [show p.1 < len by omega]
  simp only [execOp, Instr.build, Sem.run_bind, run_zero hi, Result.andThen_ok, hus, List.mapM_toArray, Sem.run_map, hs.out]
  have hp2 : (Array.map (fun x : Nat × Operand => match x with | (i, x) => (i, (Act.mk tm []).eval x)) parts).toList = (List.range' 0 vs.length).zip vs := by rw [Array.toList_map]; exact hparts
  rw [hp2, hpl _ _ _ hmem, hfill]
  simp only [Sem.run_bind, Sem.run_pure, Result.andThen_ok]
  congr 3
  apply Array.ext'
  simp [hfm, hl, ← hz]
theorem dv_box {T : TypeId} {x : Operand} {row : List Value} (hx : ev e x = some (.agg row.toArray) := by rfl) : DV P w0 (.box T x) ty e L (fun v L' => ∃ b, v = .pointer (some ⟨b, 0, none⟩) ∧ L' = pt b (.cells row.toArray T (0, 0)) :: L) :=
  dv_of_run fun tm w pos aft h2 h3 => ⟨.pointer (some ⟨w.heap.size, 0, none⟩), w.alloc (.cells row.toArray T), _, by simp [execOp, Instr.box, newVar, newRow, ev_sound h2 hx, Value.cells], ⟨_, rfl, rfl⟩, h3.alloc⟩
theorem dv_box1 {T : TypeId} {x : Operand} {v : Value} (hx : ev e x = some v := by rfl) (h1 : v.oneCell' = true := by rfl) : DV P w0 (.box T x) ty e L (fun u L' => ∃ b, u = .pointer (some ⟨b, 0, none⟩) ∧ L' = pt b (.cells [v].toArray T (0, 0)) :: L) :=
  dv_of_run fun tm w pos aft h2 h3 => ⟨.pointer (some ⟨w.heap.size, 0, none⟩), w.alloc (.cells #[v] T), _, by
    have : v.cells = #[v] := by cases v <;> first | rfl | (simp [Value.oneCell'] at h1)
    simp [execOp, Instr.box, newVar, newRow, ev_sound h2 hx, this], ⟨_, rfl, rfl⟩, h3.alloc⟩
theorem dv_alloc {T s by' : Nat} {z : Value} {row : List Value} [hi : TI P T z s by'] (hz : z.cells = row.toArray := by rfl) : DV P w0 (.alloc T) ty e L (fun u L' => ∃ b, u = .pointer (some ⟨b, 0, none⟩) ∧ L' = pt b (.cells row.toArray T (0, 0)) :: L) :=
  dv_of_run fun tm w pos aft h2 h3 => ⟨.pointer (some ⟨w.heap.size, 0, none⟩), w.alloc (.cells row.toArray T), _, by
    simp [execOp, Instr.alloc, newVar, newRow, run_zero hi, hz], ⟨_, rfl, rfl⟩, h3.alloc⟩
theorem run_storeAt {w : World} {T b o s by' : Nat} {v : Value} {z : Value} {cur : Array Value} {T' : TypeId} (hi : TI P T z s by') (hl : v.cells.size = s) (h1 : ∀ u ∈ v.cells.toList, u.oneCell' = true) (hb : w.heap[b]? = some (.cells cur T' (0, 0))) (hfit : o + s ≤ cur.size) :
    (Instr.storeAt T (.pointer (some ⟨b, o, none⟩)) v).run P w = .ok () (w.setRow b (cur.toList.take o ++ v.cells.toList ++ cur.toList.drop (o + s)).toArray) := by
  have hst := run_storeCells_at P b o T' v.cells.toList 0 cur w hb (by simp [hl]; exact hfit) h1
  simp only [Nat.add_zero, Array.length_toList, hl] at hst
  simp [Instr.storeAt, Instr.sureAddr, storeVar, run_size hi, hl, hst]
theorem sat_setRow {w : World} {b : Nat} {cur new : Array Value} {T' : TypeId} (h : Sat w0 w (pt b (.cells cur T' (0, 0)) :: R)) : Sat w0 (w.setRow b new) (pt b (.cells new T' (0, 0)) :: R) :=
  h.put rfl rfl rfl (setRow_at h.block) (fun _ hk => setRow_ne hk)
theorem dv_store {T : TypeId} {x y : Operand} {b o by' : Nat} {v : Value} {row row' : List Value} {T' : TypeId} {z : Value} [hi : TI P T z 1 by'] (hx : ev e x = some (.pointer (some ⟨b, o, none⟩)) := by rfl) (hy : ev e y = some v := by rfl)
    (hf : Find L (pt b (.cells row.toArray T' (0, 0))) R := by repeat (first | exact Find.here | apply Find.there)) (h1 : v.oneCell' = true := by rfl) (ho : (o < row.length : Bool) = true := by rfl) (hr : row.set o v = row' := by first | (simp only [List.set_cons_zero, List.set_cons_succ]; rfl) | rfl) :
    DV P w0 (.store T x y) ty e L (fun _ L' => L' = pt b (.cells row'.toArray T' (0, 0)) :: R) := dv_of_skip fun tm w pos aft h2 h3 => by
  have h3' := h3.find hf
  have ho' : o < row.length := by simpa using ho
  have hc : v.cells = #[v] := by cases v <;> first | rfl | (simp [Value.oneCell'] at h1)
  have hrun := run_storeAt (P := P) (v := v) (o := o) hi (by rw [hc]; rfl) (by rw [hc]; simpa using h1) h3'.block (by simp; omega)
  subst hr
  have e1 : (row.toArray.toList.take o ++ v.cells.toList ++ row.toArray.toList.drop (o + 1)).toArray = (row.set o v).toArray := by
    rw [hc]; simp [List.set_eq_take_append_cons_drop, ho']
  rw [e1] at hrun
  exact ⟨w.setRow b (row.set o v).toArray, _, by simp only [execOp, ev_sound h2 hx, ev_sound h2 hy, Sem.run_bind, hrun, Result.andThen_ok, Sem.run_pure], rfl, sat_setRow h3'⟩
/-- A whole variable is stored. -/
theorem dv_storeW {T s by' : Nat} {x y : Operand} {b : Nat} {row vs : List Value} {T' : TypeId} {z : Value} [hi : TI P T z s by'] (hx : ev e x = some (.pointer (some ⟨b, 0, none⟩)) := by rfl) (hy : ev e y = some (.agg vs.toArray) := by rfl)
    (hf : Find L (pt b (.cells row.toArray T' (0, 0))) R := by repeat (first | exact Find.here | apply Find.there)) (hl : vs.length = s := by rfl) (hr : row.length = s := by rfl) (h1 : vs.all Value.oneCell' = true := by rfl) :
    DV P w0 (.store T x y) ty e L (fun _ L' => L' = pt b (.cells vs.toArray T' (0, 0)) :: R) := dv_of_skip fun tm w pos aft h2 h3 => by
  have h3' := h3.find hf
  have hrun := run_storeAt (P := P) (v := .agg vs.toArray) (o := 0) hi (by simpa [Value.cells] using hl) (by simpa [Value.cells] using h1) h3'.block (by simp [hr])
  have e1 : (row.toArray.toList.take 0 ++ (Value.agg vs.toArray).cells.toList ++ row.toArray.toList.drop (0 + s)).toArray = vs.toArray := by
    simp [Value.cells, ← hr]
  rw [e1] at hrun
  exact ⟨w.setRow b vs.toArray, _, by simp only [execOp, ev_sound h2 hx, ev_sound h2 hy, Sem.run_bind, hrun, Result.andThen_ok, Sem.run_pure], rfl, sat_setRow h3'⟩
theorem run_append_room' {w : World} {t tx ty e : TypeId} {i : TypeInfo} (ht : P.underlying t = some (.slice e)) (hi : P.info? e = some i) {g off sLen sCap : Nat} {cur : Array Value} {T : TypeId} (hg : w.heap[g]? = some (.cells cur T (0, 0))) {x : Value} {n : Nat} {news : List Value}
    (hs : Src P i.size tx x n news w) (hroom : sLen + n ≤ sCap) (hfit : off + sLen * i.size + news.length ≤ cur.size) :
    (Builtin.append_ #[t, tx] ty #[.slice (some ⟨g, off, none⟩) sLen sCap, x]).run P w = .ok (.slice (some ⟨g, off, none⟩) (sLen + n) sCap) (w.setRow g (cur.toList.take (off + sLen * i.size) ++ news ++ cur.toList.drop (off + sLen * i.size + news.length)).toArray) := by
  have hst := run_storeCells_at P g (off + sLen * i.size) T news 0 cur w hg (by simpa using hfit) hs.one
  simp only [Nat.add_zero] at hst
  rcases hs.kind with ⟨e', hk⟩ | hk <;> simp [Builtin.append_, run_und ht, run_und hk, sizeOf, typeInfo, hi, hs.len, hroom, hs.cells, Addr.add_lit, hst]
theorem src_of_view {w : World} {A : HP} {a : Option Addr} {ys : List α} {c tx el : Nat} {H : PH} (hv : View A E' a ys) (hA : A H) (hle : PH.le H w) (hk : P.underlying tx = some (.slice el)) : Src P E'.sz tx (.slice a ys.length c) ys.length (flat E' ys) w := by
  rcases hv H hA with rfl | ⟨ad, rfl, hsp, row, T, fr, hb, hr⟩
  · have hz : ∀ (w : World), (Builtin.firstCells E'.sz 0 (.slice a 0 c)).run P w = .ok #[] w := fun w => by
      cases a with
      | none => simp [Builtin.firstCells]
      | some ad => simp [Builtin.firstCells, loadCells, loadCellsFrom]
    exact ⟨.inl ⟨el, hk⟩, fun _ => rfl, hz w, hz w.drew, by simp, fun _ h => by cases h⟩
  · refine Src.ofSlice w hk ad ys.length c (flat E' ys) (flat_length E' ys) (fun j u hj => ?_) (flat_one E' ys)
    have h1 := hle _ _ hb
    have h2 := hr j u hj
    obtain ⟨b, o, sp⟩ := ad
    simp only at hsp; subst hsp
    rw [show (⟨b, o, none⟩ : Addr).add j = ⟨b, o + j, none⟩ from by unfold Addr.add; split <;> simp_all]
    simp [World.cell?, h1, h2]
/-- append(x, y...): y is read, x is given up for what comes of it. -/
theorem dv_append {t tx el s by' : Nat} {x y : Operand} {a a2 : Option Addr} {c c2 : Nat} {xs ys : List α} {A : HP} {z : Value} [hu : TU P t (.slice el)] [hux : TU P tx (.slice el)] [hi : TI P el z s by'] (hx : ev e x = some (.slice a xs.length c) := by rfl) (hy : ev e y = some (.slice a2 ys.length c2) := by rfl)
    (hv : View A E' a2 ys) (hf : FindAll L [Sl E' a c xs, A] R := by repeat (first | exact FindAll.nil | exact Find.here | apply Find.there | apply FindAll.cons)) (hs : E'.sz = s := by rfl) (hz : z.cells.size = s := by rfl) (hby : (0 < by' : Bool) = true := by rfl) (hb : (xs.length + ys.length) * by' ≤ 140737488355328 := by omega) :
    DV P w0 (.call ⟨.builtin .append, #[x, y], #[t, tx]⟩) ty e L (fun v L' => ∃ a' c', v = .slice a' (xs ++ ys).length c' ∧ L' = Sl E' a' c' (xs ++ ys) :: A :: R) := dv_of_run fun tm w pos aft h2 h3 => by
  subst hs
  have hby' : 0 < by' := by simpa using hby
  have h3' := h3.findAll hf
  obtain ⟨i, hinf, hzero, hsz, hbytes⟩ := hi.out
  obtain ⟨H1, hA1, hle1⟩ := (Sat.drop h3').atom
  have hsrc : Src P i.size tx (.slice a2 ys.length c2) ys.length (flat E' ys) w := by rw [hsz]; exact src_of_view hv hA1 hle1 hux.out
  have hop : ∀ (res : Result Value), (Builtin.append_ #[t, tx] ty #[.slice a xs.length c, .slice a2 ys.length c2]).run P w = res →
      (execOp (Act.mk tm []).eval ⟨none, .call ⟨.builtin .append, #[x, y], #[t, tx]⟩, ty, pos, aft, none⟩).run P w = res.andThen fun v w => .ok (.value v) w := by
    intro res h
    simp [execOp, resolve, invoke, builtin, ev_sound h2 hx, ev_sound h2 hy, h]
  have hlen : (xs ++ ys).length = xs.length + ys.length := by simp
  obtain ⟨H0, hA0, hle0⟩ := h3'.atom
  by_cases hroom : xs.length + ys.length ≤ c
  · cases a with
    | none =>
      obtain ⟨rfl, rfl⟩ := hA0
      have hy0 : ys = [] := by
        have : ys.length = 0 := by simpa using hroom
        exact List.length_eq_zero_iff.1 this
      subst hy0
      refine ⟨.slice none 0 0, w, _, ?_, ⟨none, 0, rfl, rfl⟩, h3'⟩
      rw [hop (.ok (.slice none 0 0) w)]
      · rfl
      · have hk := hux.out
        simp [Builtin.append_, run_und hu.out, run_und hk, sizeOf, typeInfo, hinf, hsrc.len, Builtin.lenOf]
        have hz : (Builtin.firstCells i.size 0 (.slice a2 0 c2)).run P w = .ok #[] w := hsrc.cells
        simp [hz]
    | some ad =>
      obtain ⟨b, o, sp⟩ := ad
      obtain ⟨_, hsp, row, T, hrow, pre, post, hr, hp, hq⟩ := hA0
      simp only at hsp; subst hsp
      have hrw := hle0 _ _ hrow
      have hpl : (c - xs.length) * E'.sz ≤ post.length := hq
      have hge : ys.length * E'.sz ≤ (c - xs.length) * E'.sz := Nat.mul_le_mul_right _ (by omega)
      have hsize : row.size = o + xs.length * E'.sz + post.length := by
        rw [← Array.length_toList, hr]; simp [flat_length, hp, Nat.add_assoc]
      have hrun := run_append_room' (ty := ty) hu.out hinf hrw hsrc hroom (by rw [hsz, flat_length, hsize]; exact Nat.add_le_add_left (Nat.le_trans hge hpl) _)
      refine ⟨_, _, _, by rw [hop _ hrun]; rfl, ⟨some ⟨b, o, none⟩, c, by rw [hlen], rfl⟩, ?_⟩
      rw [hsz]
      refine Sat.turn1 (b := b) h3' (fun H hH => ?_) rfl rfl rfl (setRow_at hrw) (fun k hk => setRow_ne hk) (fun H hH => ?_)
      · obtain ⟨_, _, row, T, hb, _⟩ := hH
        rw [hb]; simp
      · refine ⟨by rw [hlen]; exact hroom, rfl, _, T, by simp; rfl, pre, post.drop (ys.length * E'.sz), ?_, hp, ?_⟩
        · have e1 : (pre ++ flat E' xs).length = o + xs.length * E'.sz := by simp [flat_length, hp]
          rw [hr, flat_length]
          rw [List.take_left' e1, ← List.drop_drop, List.drop_left' e1, flat_append]
          simp [List.append_assoc]
        · rw [List.length_drop, hlen]
          have e2 : (c - (xs.length + ys.length)) * E'.sz = (c - xs.length) * E'.sz - ys.length * E'.sz := by rw [← Nat.sub_mul]; congr 1; omega
          rw [e2]; omega
  · have hfc : ∀ w' : World, w'.heap = w.heap → (Builtin.firstCells i.size xs.length (.slice a xs.length c)).run P w' = .ok (flat E' xs).toArray w' := by
      intro w' hw'
      have hle' : PH.le H0 w' := fun b o hb => by rw [hw']; exact hle0 b o hb
      have := (src_of_view (P := P) (tx := tx) (el := el) (c := c) (Sl.view (e := E') (a := a) (c := c) (xs := xs)) hA0 hle' hux.out).cells
      rw [hsz]; exact this
    have hneed : c < xs.length + ys.length := by omega
    have hb' : (xs.length + ys.length) * i.bytes ≤ 140737488355328 := by rw [hbytes]; exact hb
    have h63 : ((xs.length + ys.length : Nat) : Int) ≤ 9223372036854775807 := by
      have : (xs.length + ys.length) * 1 ≤ (xs.length + ys.length) * by' := Nat.mul_le_mul_left _ hby'
      omega
    have hrun := run_append_grow_src w t tx ty el i z hu.out hinf hzero a xs.length c (flat E' xs) (hfc w.drew rfl) (.slice a2 ys.length c2) ys.length (flat E' ys) hsrc hneed h63 (growslice_fits hneed hb')
    refine ⟨_, _, _, by rw [hop _ hrun]; rfl, ⟨some ⟨w.heap.size, 0, none⟩, _, by rw [hlen], rfl⟩, ?_⟩
    have hd : Sat w0 w.drew (A :: R) := (Sat.drop h3').drew
    refine (hd.alloc (o := .cells ((flat E' xs ++ flat E' ys).toArray ++ Builtin.zeroCells z.cells (grownCap w (xs.length + ys.length) c el - (xs.length + ys.length))) el)).map fun _ => SL.head fun H hH => ?_
    refine ⟨by rw [hlen]; exact grownCap_ge w _ _ _, rfl, _, el, hH, [], (Builtin.zeroCells z.cells (grownCap w (xs.length + ys.length) c el - (xs.length + ys.length))).toList, by simp [flat_append], rfl, ?_⟩
    rw [Array.length_toList, hlen]
    simp [Builtin.zeroCells, hz]
/-- An answer that lies in a variable. -/
theorem tells_cell {fn : Func} {T t : TypeId} {b s by' : Nat} {row : List Value} {T' : TypeId} {fr : Nat × Nat} {dd : TypeDesc} {z : Value} [hu : TU P T dd] [hi : TI P T z s by'] (hr : fn.results = #[.cell t T]) (ht : e.get t = some (.pointer (some ⟨b, 0, none⟩)) := by rfl) (hg : aggD dd = true := by rfl) (hl : row.length = s := by rfl)
    (hf : Find L (pt b (.cells row.toArray T' fr)) R := by repeat (first | exact Find.here | apply Find.there)) : Tells ⟨P, w0, n, Q⟩ fn e L (.agg row.toArray) := by
  intro tm w _ h2 h3
  have h4 := h2 t _ ht
  have h5 := (holds_pt (b := b) (o := 0) (row := row) (T := T') (fr := fr) (vs := row) (by simp)).cell (h3.find hf)
  simp only [Nat.zero_add] at h5
  have h6 := run_loadAtA (P := P) (w := w) (b := b) (o := 0) hu.out hg hi hl (by simpa using h5)
  simp only [Instr.loadAt, Instr.sureAddr, Sem.run_bind, Sem.run_pure, Result.andThen_ok] at h6
  unfold results
  rw [hr]
  simp [List.mapM_toArray, h4, asAddr, h6]
end
end Go.Proofs.YtamecmklcnohjaaGreat.Sep
namespace Go.Proofs.YtamecmklcnohjaaGreat.Sep
open Go.RowKit
set_option linter.unusedSimpArgs false
set_option linter.unusedVariables false
/-! numbers: bits, shifts, division -/
section
variable {P : Program} {w0 : World} {n : Nat} {Q : Exit → Act → World → Prop} {k : List KI} {e : Env} {L R : List HP} {all : Array Oper} {rest : List Oper} {ty : TypeId} {pos : String} {aft : Array Edge} {d : Nat}
def isBit : BinOp → Bool
  | .and | .or | .xor | .andNot => true
  | _ => false
theorem pv_bits {op : BinOp} {t t' : TypeId} {x y : Operand} {kk : IntKind} {a b : Int} (hop : isBit op = true := by rfl) (hx : ev e x = some (.int kk a) := by rfl) (hy : ev e y = some (.int kk b) := by rfl) : PV P (.binOp op t x y t') ty e (.int kk (bitop op kk a b)) :=
  fun tm w pos aft h => by
    simp only [execOp, ev_sound h hx, ev_sound h hy, Sem.run_bind, run_guard_int, Result.andThen_ok]
    cases op <;> simp [isBit] at hop <;> simp [binOp, Op.intBits, bitop]
theorem pv_shrN {t t' : TypeId} {x y : Operand} {kk k2 : IntKind} {a b : Int} (hx : ev e x = some (.int kk a) := by rfl) (hy : ev e y = some (.int k2 b) := by rfl) (h0 : 0 ≤ b := by omega) : PV P (.binOp .shr t x y t') ty e (.int kk (a / (2 ^ (min b.toNat kk.bits) : Nat))) :=
  fun tm w pos aft h => by
    simp only [execOp, ev_sound h hx, ev_sound h hy, Sem.run_bind, run_guard_int, Result.andThen_ok]
    have : ¬ b < 0 := by omega
    have h2 : (2 : Int) ^ (min b.toNat kk.bits) = ((2 ^ (min b.toNat kk.bits) : Nat) : Int) := by simp
    have h3 : 0 < 2 ^ (min b.toNat kk.bits) := Nat.two_pow_pos _
    simp only [binOp, Op.shift, this, if_false, h2]
    rw [Int.fdiv_eq_ediv_of_nonneg _ (by omega)]
    simp
theorem pv_shr12 {t t' : TypeId} {x y : Operand} {kk k2 : IntKind} {a : Int} (hx : ev e x = some (.int kk a) := by rfl) (hy : ev e y = some (.int k2 12) := by rfl) (hk : Nat.ble 12 kk.bits = true := by rfl) : PV P (.binOp .shr t x y t') ty e (.int kk (a / 4096)) := by
  have h := pv_shrN (P := P) (ty := ty) (t := t) (t' := t') hx hy (by decide)
  rwa [show min (12 : Int).toNat kk.bits = 12 from Nat.min_eq_left (Nat.le_of_ble_eq_true hk)] at h
theorem pv_shlN {t t' : TypeId} {x y : Operand} {kk k2 : IntKind} {a b r : Int} (hx : ev e x = some (.int kk a) := by rfl) (hy : ev e y = some (.int k2 b) := by rfl) (h0 : 0 ≤ b := by omega) (hw : kk.wrap (a * (2 ^ (min b.toNat kk.bits) : Nat)) = r := by rfl) : PV P (.binOp .shl t x y t') ty e (.int kk r) :=
  fun tm w pos aft h => by
    subst hw
    simp only [execOp, ev_sound h hx, ev_sound h hy, Sem.run_bind, run_guard_int, Result.andThen_ok]
    have : ¬ b < 0 := by omega
    have h2 : (2 : Int) ^ (min b.toNat kk.bits) = ((2 ^ (min b.toNat kk.bits) : Nat) : Int) := by simp
    simp only [binOp, Op.shift, this, if_false, h2]
    simp
theorem pv_shl12 {t t' : TypeId} {x y : Operand} {kk k2 : IntKind} {a r : Int} (hx : ev e x = some (.int kk a) := by rfl) (hy : ev e y = some (.int k2 12) := by rfl) (hk : Nat.ble 12 kk.bits = true := by rfl) (hw : kk.wrap (a * 4096) = r := by first | exact wrap_i64 (by omega) (by omega) | exact wrap_u64 (by omega) (by omega) | rfl) : PV P (.binOp .shl t x y t') ty e (.int kk r) := by
  refine pv_shlN hx hy (by decide) ?_
  rw [show min (12 : Int).toNat kk.bits = 12 from Nat.min_eq_left (Nat.le_of_ble_eq_true hk)]
  exact hw
theorem pv_quo {t t' : TypeId} {x y : Operand} {kk : IntKind} {a b r : Int} (hx : ev e x = some (.int kk a) := by rfl) (hy : ev e y = some (.int kk b) := by rfl) (h0 : 0 ≤ a := by omega) (h1 : 0 < b := by omega) (hw : kk.wrap (a / b) = r := by first | exact wrap_i64 (by omega) (by omega) | exact wrap_u64 (by omega) (by omega) | rfl) : PV P (.binOp .quo t x y t') ty e (.int kk r) :=
  fun tm w pos aft h => by
    subst hw
    simp only [execOp, ev_sound h hx, ev_sound h hy, Sem.run_bind, run_guard_int, Result.andThen_ok]
    have : ¬ b = 0 := by omega
    simp [binOp, Op.intDiv, this, Int.tdiv_eq_ediv_of_nonneg h0]
theorem pv_rem {t t' : TypeId} {x y : Operand} {kk : IntKind} {a b : Int} (hx : ev e x = some (.int kk a) := by rfl) (hy : ev e y = some (.int kk b) := by rfl) (h0 : 0 ≤ a := by omega) (h1 : 0 < b := by omega) : PV P (.binOp .rem t x y t') ty e (.int kk (a % b)) :=
  fun tm w pos aft h => by
    simp only [execOp, ev_sound h hx, ev_sound h hy, Sem.run_bind, run_guard_int, Result.andThen_ok]
    have : ¬ b = 0 := by omega
    simp [binOp, Op.intDiv, this, Int.tmod_eq_emod_of_nonneg h0]
theorem pv_neg {t : TypeId} {x : Operand} {kk : IntKind} {a r : Int} (hx : ev e x = some (.int kk a) := by rfl) (hw : kk.wrap (0 - a) = r := by first | exact wrap_i64 (by omega) (by omega) | rfl) : PV P (.unOp .neg t x) ty e (.int kk r) :=
  fun tm w pos aft h => by subst hw; simp [execOp, ev_sound h hx, Op.unary, Op.intArith]
theorem pv_makeFunc {fn : Fn} {first captured : Array Operand} {vs ws : List Value} (hv : evl e first.toList = some vs := by rfl) (hw : evl e captured.toList = some ws := by rfl) : PV P (.makeFunc fn first captured) ty e (.func fn vs.toArray ws.toArray) :=
  fun tm w pos aft h => by
    have h1 : first.map (Act.mk tm []).eval = vs.toArray := by apply Array.toList_inj.1; simpa using evl_sound h hv
    have h2 : captured.map (Act.mk tm []).eval = ws.toArray := by apply Array.toList_inj.1; simpa using evl_sound h hw
    simp [execOp, Instr.makeFunc, h1, h2]
end
/-! what the bits are -/
theorem wrap_u64_eq (x : Int) : IntKind.u64.wrap x = x % 18446744073709551616 := by
  simp [IntKind.wrap, IntKind.bits, IntKind.signed]
theorem bitop_and_u64 {a b : Nat} (ha : a < 18446744073709551616) (hb : b < 18446744073709551616) : bitop .and .u64 a b = ((a &&& b : Nat) : Int) := by
  have h1 : a &&& b ≤ a := Nat.and_le_left
  have e1 : BitVec.ofInt 64 (a : Int) = BitVec.ofNat 64 a := by simp
  have e2 : BitVec.ofInt 64 (b : Int) = BitVec.ofNat 64 b := by simp
  have : (BitVec.ofNat 64 a &&& BitVec.ofNat 64 b).toNat = a &&& b := by
    rw [BitVec.toNat_and, BitVec.toNat_ofNat, BitVec.toNat_ofNat, Nat.mod_eq_of_lt (by omega), Nat.mod_eq_of_lt (by omega)]
  show IntKind.u64.wrap ((BitVec.ofInt 64 (a : Int) &&& BitVec.ofInt 64 (b : Int)).toNat : Int) = _
  rw [e1, e2, this]
  exact wrap_u64 (by omega) (by omega)
theorem and_mask (a k : Nat) : a &&& (2 ^ k - 1) = a % 2 ^ k := by rw [Nat.and_two_pow_sub_one_eq_mod]
theorem pow_two_of {n : Nat} (h : n ≠ 0) (h2 : n &&& (n - 1) = 0) : ∃ k, n = 2 ^ k := by
  induction n using Nat.strongRecOn with
  | _ n ih =>
    rcases Nat.mod_two_eq_zero_or_one n with hp | hp
    · have hlt : n / 2 < n := by omega
      have hne : n / 2 ≠ 0 := by omega
      have h3 : (n / 2) &&& (n / 2 - 1) = 0 := by
        have := congrArg (· / 2) h2
        simp only [Nat.and_div_two] at this
        rw [show (n - 1) / 2 = n / 2 - 1 from by omega] at this
        simpa using this
      obtain ⟨k, hk⟩ := ih _ hlt hne h3
      exact ⟨k + 1, by rw [Nat.pow_succ]; omega⟩
    · by_cases h1 : n = 1
      · exact ⟨0, h1⟩
      · exfalso
        have h3 : (n &&& (n - 1)) / 2 = 0 := by rw [h2]
        rw [Nat.and_div_two, show (n - 1) / 2 = n / 2 from by omega, Nat.and_self] at h3
        omega
theorem pow_two_and (k : Nat) : 2 ^ k &&& (2 ^ k - 1) = 0 := by rw [and_mask]; exact Nat.mod_self _
end Go.Proofs.YtamecmklcnohjaaGreat.Sep
namespace Go.Proofs.YtamecmklcnohjaaGreat.Sep
open Go.RowKit
set_option linter.unusedSimpArgs false
set_option linter.unusedVariables false
/-! slices: made, cut, copied, stored into -/
section
variable {P : Program} {w0 : World} {n : Nat} {Q : Exit → Act → World → Prop} {k : List KI} {e : Env} {L R : List HP} {all : Array Oper} {rest : List Oper} {ty : TypeId} {pos : String} {aft : Array Edge} {d : Nat}
variable {α : Type} {E' : E α}
theorem flat_replicate (x : α) (m : Nat) : ∀ j, (flat E' (List.replicate m x))[j]? = if j < m * E'.sz then (E'.cells x)[j % E'.sz]? else none := by
  induction m with
  | zero => intro j; simp
  | succ m ih =>
    intro j
    rw [List.replicate_succ, flat_cons]
    have hp := E'.pos
    by_cases hj : j < E'.sz
    · rw [List.getElem?_append_left (by rw [E'.len]; exact hj), Nat.mod_eq_of_lt hj, if_pos (by rw [Nat.add_mul]; omega)]
    · rw [List.getElem?_append_right (by rw [E'.len]; omega), E'.len, ih]
      have h1 : (j - E'.sz) % E'.sz = j % E'.sz := by rw [← Nat.mod_eq_sub_mod (by omega)]
      rw [h1]
      by_cases h2 : j - E'.sz < m * E'.sz
      · rw [if_pos h2, if_pos (by rw [Nat.add_mul]; omega)]
      · rw [if_neg h2, if_neg (by rw [Nat.add_mul]; omega)]
theorem made_flat {z : Array Value} {x : α} (hz : z = (E'.cells x).toArray) (m : Nat) : (madeCells z (m * E'.sz)).toList = flat E' (List.replicate m x) := by
  subst hz
  apply List.ext_getElem?
  intro j
  rw [flat_replicate]
  have hp := E'.pos
  by_cases hj : j < m * E'.sz
  · rw [if_pos hj]
    have h1 : j % E'.sz < (E'.cells x).length := by rw [E'.len]; exact Nat.mod_lt _ hp
    rw [List.getElem?_eq_getElem h1]
    simp [madeCells, hj, E'.len, List.getElem?_eq_getElem h1]
  · rw [if_neg hj]
    simp [madeCells]; omega
theorem dv_makeSlice {T el s by' : Nat} {l c : Operand} {kl kc : IntKind} {z : Value} {m : Int} (x : α) [hu : TU P T (.slice el)] [hi : TI P el z s by'] (hl : ev e l = some (.int kl m) := by rfl) (hc : ev e c = some (.int kc m) := by rfl)
    (hs : E'.sz = s := by rfl) (hz : z.cells = (E'.cells x).toArray := by rfl) (h0 : 0 ≤ m := by omega) (hb : (by' : Int) * m ≤ 140737488355328 := by omega) (h63 : m ≤ 9223372036854775807 := by omega) :
    DV P w0 (.makeSlice T l c) ty e L (fun v L' => ∃ b, v = .slice (some ⟨b, 0, none⟩) m.toNat m.toNat ∧ L' = Sl E' (some ⟨b, 0, none⟩) m.toNat (List.replicate m.toNat x) :: L) := dv_of_run fun tm w pos aft h2 h3 => by
  obtain ⟨i, hinf, hzero, hsz, hbytes⟩ := hi.out
  subst hs
  have hr := run_make (P := P) w T el i z hu.out hinf hzero kl kc m m h0 (Int.le_refl _) (by rw [hbytes]; omega) h63
  refine ⟨_, _, _, by simp only [execOp, ev_sound h2 hl, ev_sound h2 hc, Sem.run_bind, hr, Result.andThen_ok, Sem.run_pure]; rfl, ⟨_, rfl, rfl⟩, ?_⟩
  rw [hsz]
  refine (h3.alloc (o := .cells (madeCells z.cells (m.toNat * E'.sz)) el)).map fun _ => SL.head fun H hH => ?_
  refine ⟨by simp, rfl, _, el, hH, [], [], ?_, rfl, by simp⟩
  simp [made_flat hz]
/-- x[:h] -/
theorem pv_sliceH {T el s by' : Nat} {x hi : Operand} {z : Value} {a : Option Addr} {len cap : Nat} {kh : IntKind} {h : Int} [hu : TU P T (.slice el)] [hti : TI P el z s by'] (hx : ev e x = some (.slice a len cap) := by rfl) (hh : ev e hi = some (.int kh h) := by rfl)
    (h0 : 0 ≤ h := by omega) (h1 : h ≤ (cap : Int) := by omega) : PV P (.slice T x none (some hi) none) ty e (.slice a h.toNat cap) := fun tm w pos aft ha => by
  have hel : P.elem T = el := by unfold Program.elem; rw [hu.out]
  have hr1 := run_sliceAt_slice (P := P) (w := w) T (.slice a len cap) none (some (.int kh h)) none (by rw [hel]; exact hu.out)
  have hr2 := run_slice_h (P := P) (w := w) T a len cap (by rw [hel]; exact hu.out) kh h h0 h1
  have hsz : (sizeOf (P.elem T)).run P w = .ok s w := by rw [hel]; exact run_size hti
  have : sliced a 0 h.toNat cap s = .slice a h.toNat cap := by
    unfold sliced
    cases a <;> simp [Addr.add]
  simp [execOp, ev_sound ha hx, ev_sound ha hh, hr1, hr2, hsz, this]
/-- x[l:], to be read. -/
theorem dv_sliceL {T el s by' : Nat} {x lo : Operand} {z : Value} {a : Option Addr} {xs : List α} {A : HP} {cap : Nat} {kl : IntKind} {l : Int} [hu : TU P T (.slice el)] [hti : TI P el z s by'] (hx : ev e x = some (.slice a xs.length cap) := by rfl) (hh : ev e lo = some (.int kl l) := by rfl)
    (hv : View A E' a xs) (hf : Find L A R := by repeat (first | exact Find.here | apply Find.there)) (hs : E'.sz = s := by rfl) (h0 : 0 ≤ l := by omega) (h1 : l ≤ (xs.length : Int) := by omega) (h2 : xs.length ≤ cap) :
    DV P w0 (.slice T x (some lo) none none) ty e L (fun v L' => ∃ a', v = .slice a' (xs.drop l.toNat).length (cap - l.toNat) ∧ View A E' a' (xs.drop l.toNat) ∧ L' = L) := dv_of_run fun tm w pos aft ha h3 => by
  have hel : P.elem T = el := by unfold Program.elem; rw [hu.out]
  have hr1 := run_sliceAt_slice (P := P) (w := w) T (.slice a xs.length cap) (some (.int kl l)) none none (by rw [hel]; exact hu.out)
  have hr2 := run_slice_l (P := P) (w := w) T a xs.length cap (by rw [hel]; exact hu.out) kl l h0 h1
  have hsz : (sizeOf (P.elem T)).run P w = .ok s w := by rw [hel]; exact run_size hti
  refine ⟨sliced a l.toNat xs.length cap s, w, _, by simp [execOp, ev_sound ha hx, ev_sound ha hh, hr1, hr2, hsz], ⟨if cap = l.toNat then a else a.map (·.add (l.toNat * s)), by rw [List.length_drop]; rfl, ?_, rfl⟩, h3⟩
  obtain ⟨H1, hA, _⟩ := (h3.find hf).atom
  intro H hH
  by_cases he : xs.drop l.toNat = []
  · exact .inl he
  right
  have hlt : l.toNat < xs.length := by
    rcases Nat.lt_or_ge l.toNat xs.length with h | h
    · exact h
    · exact absurd (List.drop_eq_nil_of_le h) he
  rcases hv H hH with rfl | ⟨⟨b, o, sp⟩, rfl, hsp, row, T', fr, hb, hrow⟩
  · simp at hlt
  simp only at hsp
  subst hsp
  have hne : ¬ cap = l.toNat := by omega
  have h4 : (⟨b, o, none⟩ : Addr).add (l.toNat * s) = ⟨b, o + l.toNat * s, none⟩ := by unfold Addr.add; split <;> simp_all
  refine ⟨⟨b, o + l.toNat * s, none⟩, by simp [hne, h4], rfl, row, T', fr, hb, fun j v hj => ?_⟩
  have h5 : (flat E' xs)[l.toNat * s + j]? = some v := by
    rw [← List.take_append_drop l.toNat xs, flat_append, List.getElem?_append_right (by rw [flat_length, List.length_take, hs]; exact Nat.le_trans (Nat.mul_le_mul_right _ (Nat.min_le_left _ _)) (Nat.le_add_right _ _)), flat_length, List.length_take, Nat.min_eq_left (by omega), hs]
    rw [Nat.add_sub_cancel_left]; exact hj
  have := hrow _ _ h5
  simp only at this ⊢
  rw [Nat.add_assoc]; exact this
theorem View.take {A : HP} {a : Option Addr} {xs : List α} (m : Nat) (h : View A E' a xs) : View A E' a (xs.take m) := fun H hH => by
  rcases h H hH with rfl | ⟨ad, ha, hs, row, T, fr, hb, hr⟩
  · exact .inl (by simp)
  · refine .inr ⟨ad, ha, hs, row, T, fr, hb, fun j v hj => hr j v ?_⟩
    rw [← List.take_append_drop m xs, flat_append]
    rw [List.getElem?_append_left (List.getElem?_eq_some_iff.1 hj).1]
    exact hj
theorem Sl.take {a : Option Addr} {c m : Nat} {xs : List α} : ∀ H, Sl E' a c xs H → Sl E' a c (xs.take m) H := by
  intro H h
  cases a with
  | none => obtain ⟨rfl, rfl⟩ := h; exact ⟨by simp, rfl⟩
  | some ad =>
    obtain ⟨hc, hs, row, T, hb, pre, post, hr, hp, hq⟩ := h
    refine ⟨by simp; omega, hs, row, T, hb, pre, flat E' (xs.drop m) ++ post, ?_, hp, ?_⟩
    · rw [hr]
      conv => lhs; rw [← List.take_append_drop m xs, flat_append]
      simp [List.append_assoc]
    · rw [List.length_append, flat_length, List.length_take, List.length_drop]
      have e2 : (c - min m xs.length) * E'.sz = (xs.length - m) * E'.sz + (c - xs.length) * E'.sz := by rw [← Nat.add_mul]; congr 1; omega
      rw [e2]; omega
/-- Less room is told. -/
theorem Sl.less {a : Option Addr} {c c' : Nat} {xs : List α} (h1 : c' ≤ c) (h2 : xs.length ≤ c') : ∀ H, Sl E' a c xs H → Sl E' a c' xs H := by
  intro H h
  cases a with
  | none => obtain ⟨rfl, rfl⟩ := h; exact ⟨rfl, by omega⟩
  | some ad =>
    obtain ⟨hc, hs, row, T, hb, pre, post, hr, hp, hq⟩ := h
    exact ⟨h2, hs, row, T, hb, pre, post, hr, hp, Nat.le_trans (Nat.mul_le_mul_right _ (by omega)) hq⟩
theorem SL_take {a : Option Addr} {c : Nat} {xs : List α} (m : Nat) {H : PH} (hf : Find L (Sl E' a c xs) R) (h : SL L H) : SL (Sl E' a c (xs.take m) :: R) H := SL.head Sl.take (hf.fwd h)
/-- Cells of an element are stored into. -/
theorem Sl.put {w : World} {b o c i f : Nat} {xs : List α} {vs : List Value} {x' : α} (hl : i < xs.length) (hfit : f + vs.length ≤ E'.sz) (hx' : E'.cells x' = (E'.cells xs[i]).take f ++ vs ++ (E'.cells xs[i]).drop (f + vs.length)) {H : PH} (h : Sl E' (some ⟨b, o, none⟩) c xs H) :
    ∃ row T, H b = some (.cells row T (0, 0)) ∧ o + i * E'.sz + f + vs.length ≤ row.size ∧
      ∀ H', H' b = some (.cells (row.toList.take (o + i * E'.sz + f) ++ vs ++ row.toList.drop (o + i * E'.sz + f + vs.length)).toArray T (0, 0)) → Sl E' (some ⟨b, o, none⟩) c (xs.set i x') H' := by
  obtain ⟨hc, hs, row, T, hb, pre, post, hr, hp, hq⟩ := h
  simp only at hp
  have hlen : (E'.cells xs[i]).length = E'.sz := E'.len _
  have hF : flat E' xs = (flat E' xs).take (i * E'.sz) ++ E'.cells xs[i] ++ (flat E' xs).drop (i * E'.sz + E'.sz) := by
    have := flat_set E' xs i xs[i] hl
    rwa [List.set_getElem_self] at this
  have hA : ((flat E' xs).take (i * E'.sz)).length = i * E'.sz := by
    rw [List.length_take, flat_length]
    exact Nat.min_eq_left (Nat.mul_le_mul_right _ (by omega))
  generalize hAd : (flat E' xs).take (i * E'.sz) = A at hF hA
  generalize hBd : (flat E' xs).drop (i * E'.sz + E'.sz) = B at hF
  have hset : flat E' (xs.set i x') = A ++ E'.cells x' ++ B := by rw [flat_set E' xs i x' hl, hAd, hBd]
  generalize E'.cells xs[i] = C at hlen hx' hF
  refine ⟨row, T, hb, ?_, fun H' hH' => ⟨by simpa using hc, rfl, _, T, hH', pre, post, ?_, hp, by simpa using hq⟩⟩
  · rw [← Array.length_toList, hr, hF]; simp [hA, hp, hlen]; omega
  · rw [hr, hF, hset, hx']
    have e1 : pre ++ (A ++ C ++ B) ++ post = (pre ++ A ++ C.take f) ++ (C.drop f ++ B ++ post) := by
      simp only [List.append_assoc]
      rw [← List.append_assoc (C.take f), List.take_append_drop]
    have e2 : pre ++ (A ++ C ++ B) ++ post = (pre ++ A ++ C.take (f + vs.length)) ++ (C.drop (f + vs.length) ++ B ++ post) := by
      simp only [List.append_assoc]
      rw [← List.append_assoc (C.take (f + vs.length)), List.take_append_drop]
    have l1 : (pre ++ A ++ C.take f).length = o + i * E'.sz + f := by simp [hA, hp, hlen]; omega
    have l2 : (pre ++ A ++ C.take (f + vs.length)).length = o + i * E'.sz + f + vs.length := by simp [hA, hp, hlen]; omega
    rw [show (pre ++ (A ++ C ++ B) ++ post).take (o + i * E'.sz + f) = pre ++ A ++ C.take f from by rw [e1, List.take_left' l1]]
    rw [show (pre ++ (A ++ C ++ B) ++ post).drop (o + i * E'.sz + f + vs.length) = C.drop (f + vs.length) ++ B ++ post from by rw [e2, List.drop_left' l2]]
    simp [List.append_assoc]
theorem dv_putEl {T m by' : Nat} {x y : Operand} {b o c i s f : Nat} {v : Value} {xs : List α} {vs : List Value} {z : Value} [hti : TI P T z m by'] (x' : α) (hf : Find L (Sl E' (some ⟨b, o, none⟩) c xs) R) (hx : ev e x = some (.pointer (some ⟨b, o + i * s + f, none⟩))) (hy : ev e y = some v)
    (hvs : v.cells.toList = vs) (hone : ∀ u ∈ vs, u.oneCell' = true) (hm : vs.length = m) (hs : E'.sz = s) (hl : i < xs.length) (hfit : f + vs.length ≤ E'.sz) (hx' : E'.cells x' = (E'.cells xs[i]).take f ++ vs ++ (E'.cells xs[i]).drop (f + vs.length)) :
    DV P w0 (.store T x y) ty e L (fun _ L' => L' = Sl E' (some ⟨b, o, none⟩) c (xs.set i x') :: R) := dv_of_skip fun tm w pos aft h2 h3 => by
  have h3' := h3.find hf
  obtain ⟨H0, hA0, hle0⟩ := h3'.atom
  subst hs
  obtain ⟨row, T', hb, hsz, hput⟩ := Sl.put (w := w) (x' := x') hl hfit hx' hA0
  have hrw := hle0 _ _ hb
  have hrun := run_storeAt (P := P) (v := v) (o := o + i * E'.sz + f) hti (by rw [← hm, ← hvs, Array.length_toList]) (by rw [hvs]; exact hone) hrw (by rw [← hm]; exact hsz)
  refine ⟨_, _, by simp only [execOp, ev_sound h2 hx, ev_sound h2 hy, Sem.run_bind, hrun, Result.andThen_ok, Sem.run_pure]; rfl, rfl, ?_⟩
  rw [hvs, ← hm]
  refine Sat.turn1 (b := b) h3' (fun H hH => ?_) rfl rfl rfl (setRow_at hrw) (fun k hk => setRow_ne hk) (fun H hH => ?_)
  · obtain ⟨_, _, row, T, hb, _⟩ := hH
    rw [hb]; simp
  · exact hput _ (by simp)
theorem flat_drop : ∀ (xs : List α) (m : Nat), flat E' (xs.drop m) = (flat E' xs).drop (m * E'.sz)
  | [], m => by simp
  | x :: xs, 0 => by simp
  | x :: xs, m + 1 => by
    rw [List.drop_succ_cons, flat_drop xs m, flat_cons, show (m + 1) * E'.sz = (E'.cells x).length + m * E'.sz from by rw [E'.len, Nat.add_mul]; omega, ← List.drop_drop, List.drop_left]
/-- copy(x, y) -/
theorem dv_copy {dT sT el s by' : Nat} {x y : Operand} {a2 : Option Addr} {b o c m c2 : Nat} {xs ys : List α} {A : HP} {z : Value} [hu : TU P dT (.slice el)] [hux : TU P sT (.slice el)] [hi : TI P el z s by'] (hx : ev e x = some (.slice (some ⟨b, o, none⟩) xs.length c) := by rfl) (hy : ev e y = some (.slice a2 m c2) := by rfl)
    (hv : View A E' a2 ys) (hn : ys.length = min m xs.length) (hf : FindAll L [Sl E' (some ⟨b, o, none⟩) c xs, A] R := by repeat (first | exact FindAll.nil | exact Find.here | apply Find.there | apply FindAll.cons)) (hs : E'.sz = s := by rfl) :
    DV P w0 (.call ⟨.builtin .copy, #[x, y], #[dT, sT]⟩) ty e L (fun v L' => v = .int .i64 (ys.length : Int) ∧ L' = Sl E' (some ⟨b, o, none⟩) c (ys ++ xs.drop ys.length) :: A :: R) := dv_of_run fun tm w pos aft h2 h3 => by
  subst hs
  have h3' := h3.findAll hf
  obtain ⟨i, hinf, hzero, hsz, hbytes⟩ := hi.out
  obtain ⟨H1, hA1, hle1⟩ := (Sat.drop h3').atom
  have hsrc := (src_of_view (P := P) (tx := sT) (c := c2) hv hA1 hle1 hux.out).cells
  have hsrc' : (Builtin.firstCells E'.sz ys.length (.slice a2 m c2)).run P w = .ok (flat E' ys).toArray w := by
    cases a2 <;> exact hsrc
  obtain ⟨H0, hA0, hle0⟩ := h3'.atom
  obtain ⟨hc, hsp, row, T, hrow, pre, post, hr, hp, hq⟩ := hA0
  simp only at hp hrow
  have hrw := hle0 _ _ hrow
  have hle : ys.length ≤ xs.length := by rw [hn]; exact Nat.min_le_right _ _
  have hrl : row.size = o + xs.length * E'.sz + post.length := by rw [← Array.length_toList, hr]; simp [flat_length, hp]; omega
  have hge : ys.length * E'.sz ≤ xs.length * E'.sz := Nat.mul_le_mul_right _ hle
  have hst := run_storeCells_at P b o T (flat E' ys) 0 row w hrw (by rw [flat_length, hrl]; omega) (flat_one E' ys)
  simp only [Nat.add_zero] at hst
  have hrun : (Builtin.copy_ #[dT, sT] ty #[.slice (some ⟨b, o, none⟩) xs.length c, .slice a2 m c2]).run P w = .ok (.int .i64 (ys.length : Int)) (w.setRow b (row.toList.take o ++ flat E' ys ++ row.toList.drop (o + (flat E' ys).length)).toArray) := by
    simp [Builtin.copy_, run_und hu.out, Builtin.lenOf, sizeOf, typeInfo, hinf, hsz, ← hn, hsrc', hst, goInt]
  refine ⟨_, _, _, by simp [execOp, resolve, invoke, builtin, ev_sound h2 hx, ev_sound h2 hy, hrun]; rfl, ⟨rfl, rfl⟩, ?_⟩
  refine Sat.turn1 (b := b) h3' (fun H hH => ?_) rfl rfl rfl (setRow_at hrw) (fun k hk => setRow_ne hk) (fun H hH => ?_)
  · obtain ⟨_, _, row, T, hb, _⟩ := hH
    rw [hb]; simp
  · refine ⟨by simp; omega, rfl, _, T, by simp; rfl, pre, post, ?_, hp, ?_⟩
    · rw [hr, flat_length, flat_append, flat_drop]
      rw [List.append_assoc pre, List.take_left' hp, ← List.drop_drop, List.drop_left' hp, List.drop_append_of_le_length (by rw [flat_length]; exact hge)]
      simp [List.append_assoc]
    · refine Nat.le_trans (Nat.le_of_eq ?_) hq
      simp; congr 1; omega
/-- A struct that is written out, of which some fields are told: the cells are said. -/
theorem pv_buildG {T len by' : Nat} {fl : List Field} {parts : Array (Nat × Operand)} {z : Value} {vs : List Value} {ps : List (Nat × Nat)} (cells : List Value) [hu : TU P T (.struct fl.toArray)] [hi : TI P T z len by'] [hs : TS P fl ps]
    (hv : evl e (parts.toList.map (·.2)) = some vs := by rfl) (hf : Instr.fill (fun i => ps.toArray[i]?) z.cells ((parts.toList.map (·.1)).zip vs) = some cells.toArray := by rfl) : PV P (.build T parts) ty e (.agg cells.toArray) := fun tm w pos aft h2 => by
  have h4 := evl_sound (ds := []) h2 hv
  have hparts : parts.toList.map (fun x => (x.fst, (Act.mk tm []).eval x.snd)) = (parts.toList.map (·.1)).zip vs := by
    rw [← h4]
    generalize parts.toList = l
    induction l with
    | nil => rfl
    | cons p l ih => simp [ih]
  have hus : (underlying T).run P w = .ok (.struct fl.toArray) w := run_und hu.out
  simp only [execOp, Instr.build, Sem.run_bind, run_zero hi, Result.andThen_ok, hus, List.mapM_toArray, Sem.run_map, hs.out]
  have hp2 : (Array.map (fun x : Nat × Operand => match x with | (i, x) => (i, (Act.mk tm []).eval x)) parts).toList = (parts.toList.map (·.1)).zip vs := by rw [Array.toList_map]; exact hparts
  rw [hp2]
  have hf' : Instr.fill (fun x => ps.toArray[x]?) z.cells ((parts.toList.map (·.1)).zip vs) = some cells.toArray := hf
  rw [hf']
  rfl
theorem pv_build0 {T len by' : Nat} {fl : List Field} {z : Value} {ps : List (Nat × Nat)} {cells : List Value} [hu : TU P T (.struct fl.toArray)] [hi : TI P T z len by'] [hs : TS P fl ps] (hz : z.cells = cells.toArray := by rfl) : PV P (.build T #[]) ty e (.agg cells.toArray) :=
  pv_buildG cells (vs := []) rfl (by rw [← hz]; rfl)
/-- One answer, off a slot or off a variable. -/
def Told (P : Program) (w0 : World) (e : Env) (L : List HP) (r : ResultVar) (v : Value) : Prop := ∀ tm w, Agree e tm → Sat w0 w L → ((match r with | .tmp t => pure (tm.getD t undef) | .cell a t => do loadVar t (← asAddr (tm.getD a undef)) : Sem Value)).run P w = .ok v w
theorem told_tmp {t : Nat} {v : Value} (h : e.get t = some v := by rfl) : Told P w0 e L (.tmp t) v := fun tm w h2 h3 => by
  have h4 := h2 t _ h
  simp [h4]
theorem told_cell {T t : TypeId} {b s by' : Nat} {row : List Value} {T' : TypeId} {fr : Nat × Nat} {dd : TypeDesc} {z : Value} [hu : TU P T dd] [hi : TI P T z s by'] (ht : e.get t = some (.pointer (some ⟨b, 0, none⟩)) := by rfl) (hg : aggD dd = true := by rfl) (hl : row.length = s := by rfl)
    (hf : Find L (pt b (.cells row.toArray T' fr)) R := by repeat (first | exact Find.here | apply Find.there)) : Told P w0 e L (.cell t T) (.agg row.toArray) := by
  intro tm w h2 h3
  have h4 := h2 t _ ht
  have h5 := (holds_pt (b := b) (o := 0) (row := row) (T := T') (fr := fr) (vs := row) (by simp)).cell (h3.find hf)
  simp only [Nat.zero_add] at h5
  have h6 := run_loadAtA (P := P) (w := w) (b := b) (o := 0) hu.out hg hi hl (by simpa using h5)
  simp only [Instr.loadAt, Instr.sureAddr, Sem.run_bind, Sem.run_pure, Result.andThen_ok] at h6
  simp [h4, asAddr, h6]
def ToldAll (P : Program) (w0 : World) (e : Env) (L : List HP) : List ResultVar → List Value → Prop
  | [], [] => True
  | r :: rs, v :: vs => Told P w0 e L r v ∧ ToldAll P w0 e L rs vs
  | _, _ => False
theorem tells_many {fn : Func} {rs : List ResultVar} {vs : List Value} (hr : fn.results = rs.toArray) (h : ToldAll P w0 e L rs vs) : Tells ⟨P, w0, n, Q⟩ fn e L (tup vs) := by
  intro tm w _ h2 h3
  have key : ∀ (rs : List ResultVar) (vs : List Value), ToldAll P w0 e L rs vs → (rs.mapM (m := Sem) fun | .tmp t => pure (tm.getD t undef) | .cell a t => do loadVar t (← asAddr (tm.getD a undef))).run P w = .ok vs w := by
    intro rs
    induction rs with
    | nil => intro vs hv; cases vs with
      | nil => rfl
      | cons => cases hv
    | cons r rs ih => intro vs hv; cases vs with
      | nil => cases hv
      | cons v vs =>
        have h4 := hv.1 tm w h2 h3
        have h5 := ih vs hv.2
        simp only [List.mapM_cons, Sem.run_bind, h4, Result.andThen_ok, h5, Sem.run_pure]
  have := key rs vs h
  unfold results
  rw [hr]
  simp only [List.mapM_toArray, Sem.run_map, Sem.run_bind]
  erw [this]
  simp only [Result.andThen_ok]
  cases vs with
  | nil => rfl
  | cons v l => cases l <;> simp [tup]
end
end Go.Proofs.YtamecmklcnohjaaGreat.Sep
namespace Go.Proofs.YtamecmklcnohjaaGreat.Sep
open Go.RowKit
set_option linter.unusedSimpArgs false
set_option linter.unusedVariables false
/-! arrays, structs that are compared, ranges over maps, parts of elements -/
section
variable {P : Program} {w0 : World} {n : Nat} {Q : Exit → Act → World → Prop} {k : List KI} {e : Env} {L R : List HP} {all : Array Oper} {rest : List Oper} {ty : TypeId} {pos : String} {aft : Array Edge} {d : Nat}
variable {α κ : Type} {E' : E α}
/-- The place of an element of an array. -/
theorem pv_indexArr {T el s by' len : Nat} {x i : Operand} {z : Value} {b o : Nat} {kk : IntKind} {iv : Int} [hu : TU P T (.array len el)] [hi : TI P el z s by'] (hx : ev e x = some (.pointer (some ⟨b, o, none⟩)) := by rfl) (hiv : ev e i = some (.int kk iv) := by rfl)
    (h0 : 0 ≤ iv := by omega) (h1 : iv < (len : Int) := by omega) : PV P (.indexAddr T x i) ty e (.pointer (some ⟨b, o + iv.toNat * s, none⟩)) :=
  fun tm w pos aft h => by
    have h2 : (underlying T).run P w = .ok (.array len el) w := run_und hu.out
    have h3 : (Addr.mk b o none).add (iv.toNat * s) = ⟨b, o + iv.toNat * s, none⟩ := by unfold Addr.add; split <;> simp_all
    simp [execOp, Instr.indexAt, ev_sound h hx, ev_sound h hiv, asIntOf, Instr.sureAddr, h2, h0, h1, run_size hi, h3]
/-- All of an array, as a slice. -/
theorem pv_sliceArr {T el s by' len : Nat} {x : Operand} {z : Value} {b o : Nat} [hu : TU P T (.array len el)] [hi : TI P el z s by'] (hx : ev e x = some (.pointer (some ⟨b, o, none⟩)) := by rfl) : PV P (.slice T x none none none) ty e (.slice (some ⟨b, o, none⟩) len len) :=
  fun tm w pos aft h => by
    have h2 : (underlying T).run P w = .ok (.array len el) w := run_und hu.out
    have h3 : ∀ m, (Addr.mk b o none).add (0 * m) = ⟨b, o, none⟩ := fun m => by unfold Addr.add; split <;> simp_all
    have h4 : P.elem T = el := by unfold Program.elem; rw [hu.out]
    have h5 : P.arrayLen T = len := by unfold Program.arrayLen; rw [hu.out]
    have h6 := run_sliceAt_array_all (P := P) w T ⟨b, o, none⟩ (by rw [h4, h5]; exact hu.out)
    rw [h4, h5] at h6
    have h7 := h3 0
    rw [Nat.zero_mul] at h7
    simp [execOp, ev_sound h hx, h6, run_size hi, slicedAt, h7]
/-- Fields that are numbers of one cell each, one behind the other. -/
def RecAre (P : Program) : Nat → List Field → List IntKind → Prop
  | _, [], [] => True
  | o, f :: fs, k :: ks => f.name ≠ "_" ∧ f.offset = o ∧ P.underlying f.type = some (.int k) ∧ RecAre P (o + 1) fs ks
  | _, _, _ => False
class TEq (P : Program) (T : TypeId) (ks : outParam (List IntKind)) : Prop where
  out : ∃ fl : List Field, P.underlying T = some (.struct fl.toArray) ∧ P.stoodInHeld T = false ∧ P.eqGuardType P.depth T = false ∧ RecAre P 0 fl ks
theorem run_part1 {t : TypeId} {kk : IntKind} (h : P.underlying t = some (.int kk)) {X : Array Value} {o : Nat} {v : Value} (hv : X[o]? = some v) (w : World) : (part t X o).run P w = .ok v w := by
  simp [part, run_isAgg h, aggD, hv]
theorem run_eqFields {w : World} {d : Nat} {X Y : Array Value} : ∀ (fl : List Field) (ks : List IntKind) (o : Nat) (xs ys : List Int), RecAre P o fl ks → xs.length = ks.length → ys.length = ks.length →
    (∀ j v, (recCells ks xs)[j]? = some v → X[o + j]? = some v) → (∀ j v, (recCells ks ys)[j]? = some v → Y[o + j]? = some v) → (Op.eqFields (d + 1) X Y fl).run P w = .ok (decide (xs = ys)) w
  | [], [], o, xs, ys, _, hx, hy, _, _ => by
    obtain rfl : xs = [] := List.length_eq_zero_iff.1 hx
    obtain rfl : ys = [] := List.length_eq_zero_iff.1 hy
    simp [Op.eqFields]
  | [], _ :: _, _, _, _, h, _, _, _, _ => by cases h
  | _ :: _, [], _, _, _, h, _, _, _, _ => by cases h
  | f :: fs, kk :: ks, o, [], _, _, hx, _, _, _ => by cases hx
  | f :: fs, kk :: ks, o, _ :: _, [], _, _, hy, _, _ => by cases hy
  | f :: fs, kk :: ks, o, x :: xs, y :: ys, h, hx, hy, hX, hY => by
    obtain ⟨h1, h2, h3, h4⟩ := h
    have ih := run_eqFields (w := w) (d := d) (X := X) (Y := Y) fs ks (o + 1) xs ys h4 (by simpa using hx) (by simpa using hy)
      (fun j v hj => by have := hX (j + 1) v (by simpa [recCells] using hj); rwa [show o + 1 + j = o + (j + 1) from by omega])
      (fun j v hj => by have := hY (j + 1) v (by simpa [recCells] using hj); rwa [show o + 1 + j = o + (j + 1) from by omega])
    have e1 : X[o]? = some (.int kk x) := hX 0 _ (by simp [recCells])
    have e2 : Y[o]? = some (.int kk y) := hY 0 _ (by simp [recCells])
    unfold Op.eqFields
    rw [if_pos h1, h2]
    simp only [Sem.run_bind, run_part1 h3 e1, run_part1 h3 e2, Result.andThen_ok, run_eqInt h3, Sem.run_ite, ih]
    by_cases hxy : x = y
    · simp [hxy]
    · simp [hxy]
theorem run_eqRec {T : TypeId} {ks : List IntKind} (ht : TEq P T ks) (xs ys : List Int) (hx : xs.length = ks.length) (hy : ys.length = ks.length) (w : World) :
    (Op.equal T (.agg (recCells ks xs).toArray) (.agg (recCells ks ys).toArray)).run P w = .ok (decide (xs = ys)) w := by
  obtain ⟨fl, hu, hs, _, hr⟩ := ht.out
  have hf : P.fieldsOf T = fl.toArray := by unfold Program.fieldsOf; rw [hu]
  have h1 : (Op.equal T (.agg (recCells ks xs).toArray) (.agg (recCells ks ys).toArray)).run P w = _ := run_equalIn_struct (P := P) w 9999 T (recCells ks xs).toArray (recCells ks ys).toArray (by rw [hf]; exact hu) hs
  rw [hf] at h1
  rw [h1]
  exact run_eqFields (d := 9998) fl ks 0 xs ys hr hx hy (fun j v hj => by simpa using hj) (fun j v hj => by simpa using hj)
theorem run_guard_agg {op : BinOp} {t : TypeId} {x y : Operand} {a b : Array Value} (h : P.eqGuardType P.depth t = false) {w : World} : (eqGuard op t x y (.agg a) (.agg b)).run P w = .ok () w := by
  cases op <;> simp [eqGuard, h]
theorem pv_eqRec {t t' : TypeId} {x y : Operand} {ks : List IntKind} (xs ys : List Int) [ht : TEq P t ks] (hx : ev e x = some (.agg (recCells ks xs).toArray) := by rfl) (hy : ev e y = some (.agg (recCells ks ys).toArray) := by rfl) (lx : xs.length = ks.length := by rfl) (ly : ys.length = ks.length := by rfl) :
    PV P (.binOp .eql t x y t') ty e (.bool (decide (xs = ys))) :=
  fun tm w pos aft h => by
    obtain ⟨_, _, _, hq, _⟩ := ht.out
    simp only [execOp, ev_sound h hx, ev_sound h hy, Sem.run_bind, run_guard_agg hq, Result.andThen_ok]
    simp [binOp, run_eqRec ht xs ys lx ly]
theorem pv_neRec {t t' : TypeId} {x y : Operand} {ks : List IntKind} (xs ys : List Int) [ht : TEq P t ks] (hx : ev e x = some (.agg (recCells ks xs).toArray) := by rfl) (hy : ev e y = some (.agg (recCells ks ys).toArray) := by rfl) (lx : xs.length = ks.length := by rfl) (ly : ys.length = ks.length := by rfl) :
    PV P (.binOp .neq t x y t') ty e (.bool (!decide (xs = ys))) :=
  fun tm w pos aft h => by
    obtain ⟨_, _, _, hq, _⟩ := ht.out
    simp only [execOp, ev_sound h hx, ev_sound h hy, Sem.run_bind, run_guard_agg hq, Result.andThen_ok]
    simp [binOp, run_eqRec ht xs ys lx ly]
/-- Some cells of an element, as a struct. -/
theorem rv_elS {T : TypeId} {x : Operand} {b o c s m by' : Nat} {xs : List α} {vs : List Value} {dd : TypeDesc} {z : Value} (i f : Nat) [hu : TU P T dd] [hi : TI P T z m by'] (hf : Find L (Sl E' (some ⟨b, o, none⟩) c xs) R := by repeat (first | exact Find.here | apply Find.there)) (hx : ev e x = some (.pointer (some ⟨b, o + i * s + f, none⟩)) := by rfl)
    (hg : aggD dd = true := by rfl) (hs : E'.sz = s := by rfl) (hl : i < xs.length := by omega) (hv : ((E'.cells xs[i]).drop f).take m = vs := by rfl) (hm : vs.length = m := by rfl) (hfit : f + m ≤ E'.sz := by decide) : RV P w0 (.load T x) ty e L (.agg vs.toArray) := by
  subst hs
  have hget : xs[i]? = some xs[i] := by simp [hl]
  exact rv_loadA hg hf hx hm (holds_sl (f := f) (vs := vs) hget (by rw [hm]; exact hv) (by rw [hm]; exact hfit))
/-! ranges over maps -/
theorem Sat.turn1w {w0 w w' : World} {A B : HP} {L : List HP} {b : Nat} {o' : Obj} (h : Sat w0 w (A :: L)) (hA : ∀ H, A H → H b ≠ none) (h1 : w'.os = w.os) (h2 : w'.tape = w.tape) (h3 : w'.output = w.output)
    (hb : w'.heap[b]? = some o') (hk : ∀ k, k ≠ b → w'.heap[k]? = w.heap[k]?) (hB : ∀ H, A H → PH.le H w → B (fun k => if k = b then some o' else H k)) : Sat w0 w' (B :: L) := by
  refine h.turn h1 h2 h3 fun H1 hA1 hle => ⟨fun k => if k = b then some o' else H1 k, hB H1 hA1 hle, fun k o ho => ?_, fun k hne => ?_, fun k hn hne => ?_⟩
  · by_cases e : k = b
    · subst e; simp at ho; rw [← ho]; exact hb
    · simp [e] at ho; rw [hk k e]; exact hle k o ho
  · by_cases e : k = b
    · left; rw [e]; exact hA H1 hA1
    · simp [e] at hne; exact .inl hne
  · have e : k ≠ b := by rintro rfl; exact hA H1 hA1 hn
    exact hk k e
theorem leftOf_push {es : Array MapEntry} {seen : Array Nat} (hnd : (es.toList.map (·.born)).Nodup) {j : Nat} (hj : j < (leftOf es seen).size) : (leftOf es (seen.push (leftOf es seen)[j].born)).toList = (leftOf es seen).toList.take j ++ (leftOf es seen).toList.drop (j + 1) := by
  have h1 : leftOf es (seen.push (leftOf es seen)[j].born) = (leftOf es seen).filter (fun x => x.born != (leftOf es seen)[j].born) := by
    unfold leftOf
    rw [Array.filter_filter]
    congr 1; funext x
    rw [contains_push]
    cases seen.contains x.born <;> simp [bne]
  rw [h1, Array.toList_filter]
  have hnd2 : ((leftOf es seen).toList.map (·.born)).Nodup := by
    have : (leftOf es seen).toList = es.toList.filter (fun e => !seen.contains e.born) := by unfold leftOf; rw [Array.toList_filter]
    rw [this]
    exact (List.Sublist.map _ List.filter_sublist).nodup hnd
  have hj' : j < (leftOf es seen).toList.length := by simpa using hj
  have hget : (leftOf es seen)[j] = (leftOf es seen).toList[j] := by simp
  rw [hget]
  clear hget h1 hnd hj
  generalize (leftOf es seen).toList = l at hnd2 hj' ⊢
  induction l generalizing j with
  | nil => simp at hj'
  | cons x l ih =>
    rw [List.map_cons, List.nodup_cons] at hnd2
    cases j with
    | zero =>
      simp only [List.getElem_cons_zero, List.take_zero, List.nil_append, Nat.zero_add, List.drop_succ_cons, List.drop_zero]
      rw [List.filter_cons_of_neg (by simp)]
      rw [List.filter_eq_self]
      intro y hy
      simp only [bne_iff_ne, ne_eq]
      intro h
      exact hnd2.1 (List.mem_map.2 ⟨y, hy, h⟩)
    | succ j =>
      simp only [List.getElem_cons_succ, List.take_succ_cons, List.drop_succ_cons, List.cons_append]
      have hj2 : j < l.length := by simpa using hj'
      rw [List.filter_cons_of_pos, ih hnd2.2 hj2]
      simp only [bne_iff_ne, ne_eq]
      intro h
      exact hnd2.1 (List.mem_map.2 ⟨l[j], List.getElem_mem hj2, h.symm⟩)
variable {ke : κ → Value} {ve : α → Value}
/-- A map that is gone through, by the iterator in r: what has not been met is told. -/
def MpI {κ α : Type} (ke : κ → Value) (ve : α → Value) (b r : Nat) (l todo : List (κ × α)) : HP := fun H => (l.map (·.1)).Nodup ∧ ∃ es clock seen, H b = some (.map es clock) ∧ H r = some (.mapIter (some b) clock seen clock) ∧
  es.toList.map (fun e => (e.key, e.val)) = l.map (fun p => (ke p.1, ve p.2)) ∧ (∀ e ∈ es.toList, e.born < clock) ∧ (es.toList.map (·.born)).Nodup ∧
  (leftOf es seen).toList.map (fun e => (e.key, e.val)) = todo.map (fun p => (ke p.1, ve p.2))
theorem MpI.done {b r : Nat} {l todo : List (κ × α)} : ∀ H, MpI ke ve b r l todo H → Mp ke ve b l H := by
  rintro H ⟨h1, es, clock, seen, h2, h3, h4, h5, h6, h7⟩
  exact ⟨h1, es, clock, h2, h4, h5, h6⟩
theorem leftOf_none (es : Array MapEntry) : leftOf es #[] = es := by
  unfold leftOf
  exact Array.filter_eq_self.2 (fun x _ => by simp)
theorem dv_range {T K el : Nat} {x : Operand} {b : Nat} {l : List (κ × α)} [hu : TU P T (.map K el)] (hx : ev e x = some (.map (some b)) := by rfl) (hf : Find L (Mp ke ve b l) R := by repeat (first | exact Find.here | apply Find.there)) :
    DV P w0 (.range T x) ty e L (fun v L' => ∃ r, v = .pointer (some ⟨r, 0, none⟩) ∧ L' = MpI ke ve b r l l :: R) := dv_of_run fun tm w pos aft h2 h3 => by
  have h3' := h3.find hf
  obtain ⟨hn, es, clock, hb, hl, hold, hnd⟩ := Mp.at h3'
  refine ⟨_, _, _, by simp only [execOp, ev_sound h2 hx, run_range_map w T K el b es clock hu.out hb, Sem.run_bind, Result.andThen_ok, Sem.run_pure]; rfl, ⟨_, rfl, rfl⟩, ?_⟩
  have hlt : b < w.heap.size := (Array.getElem?_eq_some_iff.1 hb).1
  refine Sat.turn h3' rfl rfl rfl (fun H1 hA hle => ?_)
  refine ⟨fun x => if x = w.heap.size then some (.mapIter (some b) clock #[] clock) else H1 x, ?_, ?_, ?_, ?_⟩
  · obtain ⟨_, es', clock', hb', _⟩ := hA
    have := hle _ _ hb'
    rw [hb] at this
    obtain ⟨rfl, rfl⟩ : es = es' ∧ clock = clock' := by simpa using this
    refine ⟨hn, es, clock, #[], ?_, by simp, hl, hold, hnd, by rw [leftOf_none]; exact hl⟩
    show (if b = w.heap.size then _ else H1 b) = _
    rw [if_neg (by omega)]; exact hb'
  · intro x o hx
    by_cases hxr : x = w.heap.size
    · simp [hxr] at hx; subst hx; rw [hxr]; exact heap_alloc_new w _
    · simp [hxr] at hx
      have := hle _ _ hx
      rw [heap_alloc_old w _ (Array.getElem?_eq_some_iff.1 this).1]; exact this
  · intro x hx
    by_cases hxr : x = w.heap.size
    · right; subst hxr; exact Array.getElem?_eq_none (Nat.le_refl _)
    · left; simpa [hxr] using hx
  · intro x _ hx
    have : x < w.heap.size := by
      rcases Nat.lt_or_ge x w.heap.size with h | h
      · exact h
      · exact absurd (Array.getElem?_eq_none h) hx
    rw [heap_alloc_old w _ this]
theorem dv_next {b r : Nat} {l todo : List (κ × α)} {x : Operand} (hx : ev e x = some (.pointer (some ⟨r, 0, none⟩)) := by rfl) (hf : Find L (MpI ke ve b r l todo) R := by repeat (first | exact Find.here | apply Find.there)) :
    DV P w0 (.next x false) ty e L (fun v L' => (v = .tuple #[.bool false] ∧ todo = [] ∧ L' = MpI ke ve b r l [] :: R) ∨ ∃ t1 p t2, todo = t1 ++ p :: t2 ∧ v = .tuple #[.bool true, ke p.1, ve p.2] ∧ L' = MpI ke ve b r l (t1 ++ t2) :: R) := dv_of_run fun tm w pos aft h2 h3 => by
  have h3' := h3.find hf
  obtain ⟨H0, hA0, hle0⟩ := h3'.atom
  obtain ⟨hn, es, clock, seen, hb, hr, hl, hold, hnd, htodo⟩ := hA0
  have hb1 := hle0 _ _ hb
  have hr1 := hle0 _ _ hr
  have hgr : (getObj r).run P w = .ok (.mapIter (some b) clock seen clock) w := by simp [getObj, Sem.run, hr1]
  have hgb : (getObj b).run P w = .ok (.map es clock) w := by simp [getObj, Sem.run, hb1]
  have htest := next_test_false seen es clock clock hold (Nat.le_refl _)
  have hmem : ∀ x ∈ (leftOf es seen).toList, x.born < clock := fun x hx => hold x (mem_left hx).1
  have e1 : (leftOf es seen).filter (fun x => decide (x.born < clock)) = leftOf es seen := Array.filter_eq_self.2 (fun x hx => by simpa using hmem x (by simpa using hx))
  have e2 : (leftOf es seen).filter (fun x => decide (x.born ≥ clock)) = #[] := by
    rw [Array.filter_eq_empty_iff]
    intro x hx
    have := hmem x (by simpa using hx)
    simp; omega
  have hexec : (execOp (Act.mk tm []).eval ⟨none, .next x false, ty, pos, aft, none⟩).run P w = ((Instr.next (.pointer (some ⟨r, 0, none⟩)) false ty).run P w).andThen fun v w => .ok (.value v) w := by
    simp [execOp, ev_sound h2 hx]
  rw [hexec]
  have hnx : (Instr.next (.pointer (some ⟨r, 0, none⟩)) false ty).run P w = ((choose (.mapNext (((if (leftOf es seen).isEmpty then #[none] else #[]) ++ (leftOf es seen).map some).size))).run P w).andThen fun j w => (match ((if (leftOf es seen).isEmpty then #[none] else #[]) ++ (leftOf es seen).map some)[j]? with
      | some (some e) => do
        setObj r (.mapIter (some b) clock (seen.push e.born) clock)
        pure (.tuple #[.bool true, e.key, e.val])
      | some none => pure (.tuple #[.bool false])
      | none => stuck "Next: no such candidate" : Sem Value).run P w := by
    unfold Instr.next
    simp only [Sem.run_bind, hgr, hgb, Result.andThen_ok, htest, Bool.false_eq_true, if_false]
    have e1' : Array.filter (fun x => decide (x.born < clock)) (Array.filter (fun e => !seen.contains e.born) es) = leftOf es seen := e1
    have e2' : Array.filter (fun x => decide (x.born ≥ clock)) (Array.filter (fun e => !seen.contains e.born) es) = #[] := e2
    rw [e1', e2']
    simp only [Array.append_empty]
    rfl
  rw [hnx]
  by_cases h0 : (leftOf es seen).size = 0
  · have hE : leftOf es seen = #[] := Array.eq_empty_of_size_eq_zero h0
    have ht : todo = [] := by rw [hE] at htodo; simpa using htodo.symm
    subst ht
    refine ⟨.tuple #[.bool false], w, _, ?_, .inl ⟨rfl, rfl, rfl⟩, h3'⟩
    rw [hE]
    simp [choose, Sem.run, Question.forced]
  · have hne : (leftOf es seen).isEmpty = false := by simp [Array.isEmpty, h0]
    have hch : ∃ (j : Nat) (w1 : World), j < (leftOf es seen).size ∧ (w1 = w ∨ w1 = w.drew) ∧ (choose (Question.mapNext (leftOf es seen).size)).run P w = .ok j w1 := by
      by_cases hf : (leftOf es seen).size ≤ 1
      · exact ⟨0, w, by omega, .inl rfl, by simp [choose, Sem.run, Question.forced, hf]⟩
      · exact ⟨_, w.drew, Nat.mod_lt _ (by omega), .inr rfl, by
          simp only [choose, Sem.run, Question.forced, decide_eq_true_eq, hf, if_false, Question.cut]
          rfl⟩
    obtain ⟨j, w1, hj, hw1, hrun⟩ := hch
    have hs1 : Sat w0 w1 (MpI ke ve b r l todo :: R) := by
      rcases hw1 with rfl | rfl
      · exact h3'
      · exact h3'.drew
    have hheap : w1.heap = w.heap := by rcases hw1 with rfl | rfl <;> rfl
    have hjt : j < todo.length := by
      have := congrArg List.length htodo
      simp at this; omega
    have hkv : ((leftOf es seen)[j].key, (leftOf es seen)[j].val) = (ke todo[j].1, ve todo[j].2) := by
      have := congrArg (fun q => q[j]?) htodo
      simp [hj, hjt] at this
      rw [Prod.mk.injEq]; exact this
    obtain ⟨hkv1, hkv2⟩ := Prod.mk.inj hkv
    refine ⟨.tuple #[.bool true, ke todo[j].1, ve todo[j].2], { w1 with heap := w1.heap.setIfInBounds r (.mapIter (some b) clock (seen.push (leftOf es seen)[j].born) clock) }, _, ?_, .inr ⟨todo.take j, todo[j], todo.drop (j + 1), by simp, rfl, rfl⟩, ?_⟩
    · simp only [hne, Bool.false_eq_true, if_false, Array.empty_append, Array.size_map, hrun, Result.andThen_ok, Array.getElem?_map, Array.getElem?_eq_getElem hj, Option.map_some, Sem.run_bind]
      have hr2 : w1.heap[r]? = some (.mapIter (some b) clock seen clock) := by rw [hheap]; exact hr1
      have : ∀ o' : Obj, (setObj r o').run P w1 = .ok () { w1 with heap := w1.heap.setIfInBounds r o' } := fun o' => by simp [setObj, Sem.run, hr2]
      rw [this]
      simp [hkv1, hkv2]
    · refine Sat.turn1w (b := r) hs1 (fun H hH => ?_) rfl rfl rfl (heap_set_at (by rw [hheap]; exact hr1)) (fun k hk => by simp [Array.getElem?_setIfInBounds_ne (Ne.symm hk)]) (fun H hH hleH => ?_)
      · obtain ⟨_, _, _, _, _, h, _⟩ := hH
        rw [h]; simp
      · obtain ⟨_, es', clock', seen', hb', hr', _⟩ := hH
        have hbe := hleH _ _ hb'
        rw [hheap, hb1] at hbe
        obtain ⟨rfl, rfl⟩ : es = es' ∧ clock = clock' := by simpa using hbe
        have hbr : b ≠ r := by
          rintro rfl
          rw [hb'] at hr'; cases hr'
        refine ⟨hn, es, clock, seen.push (leftOf es seen)[j].born, ?_, by simp, hl, hold, hnd, ?_⟩
        · show (if b = r then _ else H b) = _
          rw [if_neg hbr]; exact hb'
        · rw [leftOf_push hnd hj, List.map_append, List.map_take, List.map_drop, htodo, List.map_append, List.map_take, List.map_drop]
end
/-! drawn regions: guards, known or not -/
section
variable {P : Program} {w0 : World} {n : Nat} {Q : Exit → Act → World → Prop} {ops : Array Oper} {k : List KI} {D : Pend} {vl : List Nat} {e : Env} {L R : List HP} {i d : Nat} {op : Op} {ty : TypeId} {pos : String} {aft : Array Edge} {v : Value}
def GOK (ops : Array Oper) (e : Env) : Option (Nat × Bool) → Prop
  | none => True
  | some (j, want) => ∃ t, (ops[j]?).bind (·.dst) = some t ∧ e.get t = some (.bool want)
theorem gok_wanted {g : Option (Nat × Bool)} (hg : GOK ops e g) {tm : Array Value} (ha : Agree (restr e (Oper.looksAt ops ⟨some d, op, ty, pos, aft, g⟩)) tm) : Region.wanted ⟨some d, op, ty, pos, aft, g⟩ (yielded ops tm) = true := by
  cases g with
  | none => rfl
  | some q =>
    obtain ⟨j, want⟩ := q
    obtain ⟨t, hj, ht⟩ := hg
    rw [wanted_of hj ht ha]; simp
theorem XDi_pvA {g : Option (Nat × Bool)} (hv : PV P op ty (restr e (Oper.looksAt ops ⟨some d, op, ty, pos, aft, g⟩)) v) (hg : GOK ops e g := by first | exact True.intro | exact ⟨_, rfl, rfl⟩)
    (hl : (Oper.looksAt ops ⟨some d, op, ty, pos, aft, g⟩).contains d = false := by kernel_rfl) (hdis : (D.all fun p => match ops[p.1]? with | some oj => !(oj.looksAt ops).contains d | none => true) = true := by kernel_rfl) (hdn : d < n := by exact Nat.le_of_ble_eq_true rfl)
    (h : XD ⟨P, w0, n, Q⟩ ops k ((i, v, true) :: D) (i :: vl) ((d, v) :: e) L) : XDi ⟨P, w0, n, Q⟩ ops k D vl e L i ⟨some d, op, ty, pos, aft, g⟩ :=
  XDi_gen (b := true) (fun _ ha => gok_wanted hg ha) (fun tm w pos aft ha _ => hv tm w pos aft ha) hl hdis hdn h
theorem XDi_rvA {g : Option (Nat × Bool)} (hv : RV P w0 op ty (restr e (Oper.looksAt ops ⟨some d, op, ty, pos, aft, g⟩)) L v) (hg : GOK ops e g := by first | exact True.intro | exact ⟨_, rfl, rfl⟩)
    (hl : (Oper.looksAt ops ⟨some d, op, ty, pos, aft, g⟩).contains d = false := by kernel_rfl) (hdis : (D.all fun p => match ops[p.1]? with | some oj => !(oj.looksAt ops).contains d | none => true) = true := by kernel_rfl) (hdn : d < n := by exact Nat.le_of_ble_eq_true rfl)
    (h : XD ⟨P, w0, n, Q⟩ ops k ((i, v, false) :: D) (i :: vl) ((d, v) :: e) L) : XDi ⟨P, w0, n, Q⟩ ops k D vl e L i ⟨some d, op, ty, pos, aft, g⟩ :=
  XDi_gen (b := false) (fun _ ha => gok_wanted hg ha) (fun tm w pos aft ha hs => hv tm w pos aft ha (hs rfl)) hl hdis hdn h
theorem XDi_gU {j t : Nat} {want : Bool} (hj : (ops[j]?).bind (·.dst) = some t := by rfl) (ht : e.get t = some undef := by rfl)
    (hl : (Oper.looksAt ops ⟨some d, op, ty, pos, aft, some (j, want)⟩).contains d = false := by kernel_rfl) (hdis : (D.all fun p => match ops[p.1]? with | some oj => !(oj.looksAt ops).contains d | none => true) = true := by kernel_rfl) (hdn : d < n := by exact Nat.le_of_ble_eq_true rfl)
    (h : XD ⟨P, w0, n, Q⟩ ops k ((i, undef, true) :: D) (i :: vl) ((d, undef) :: e) L) : XDi ⟨P, w0, n, Q⟩ ops k D vl e L i ⟨some d, op, ty, pos, aft, some (j, want)⟩ := by
  intro ho hi hr
  refine XD_read ho rfl hi hr hl hdis hdn ?_ h
  intro tm w ha _
  refine .inr ⟨?_, rfl⟩
  have h1 := ha t undef (by rw [restr_get, if_pos (guard_looks hj)]; exact ht)
  have : yielded ops tm j = none := by unfold yielded; rw [hj]; simp [h1, undef]
  simp [Region.wanted, this]
theorem XO_gU {all : Array Oper} {rest : List Oper} {op : Op} {j t : Nat} {want : Bool} (hj : (all[j]?).bind (·.dst) = some t := by rfl) (ht : e.get t = some undef := by rfl) (hd : d < n := by exact Nat.le_of_ble_eq_true rfl)
    (hk : XO ⟨P, w0, n, Q⟩ all k rest ((d, undef) :: e) L) : XO ⟨P, w0, n, Q⟩ all k (⟨some d, op, ty, pos, aft, some (j, want)⟩ :: rest) e L := by
  intro tm w h1 h2 h3
  have h4 := h2 t _ ht
  have hyi : yielded all tm j = none := by unfold yielded; rw [hj]; simp [h4, undef]
  unfold wpList
  rw [if_neg (show ¬ Region.wanted _ _ = true by simp [Region.wanted, hyi])]
  exact hk _ w (by simp [h1]) (h2.put (by rw [h1]; exact hd)) h3
theorem XDa_dvA {g : Option (Nat × Bool)} {Φ : Value → List HP → Prop} (hv : DV P w0 op ty (restr e (Oper.looksAt ops ⟨some d, op, ty, pos, aft, g⟩)) L Φ) (hg : GOK ops e g := by first | exact True.intro | exact ⟨_, rfl, rfl⟩) (hdn : d < n := by exact Nat.le_of_ble_eq_true rfl)
    (hk : ∀ v L', Φ v L' → Keeps ⟨P, w0, n, Q⟩ ops ((d, v) :: e) L' (D.filter fun p => !p.2.2 && !waits ops aft p.1) ∧ XD ⟨P, w0, n, Q⟩ ops k (D.filter fun p => !waits ops aft p.1) (i :: vl) ((d, v) :: e) L') : XDa ⟨P, w0, n, Q⟩ ops k D vl e L i ⟨some d, op, ty, pos, aft, g⟩ :=
  acts_gen (fun _ ha => gok_wanted hg ha) hv (fun x hx => by cases hx; exact hdn) (fun v L' h => hk v L' h)
theorem keeps_takeA {f : Nat × Value × Bool → Bool} {j : Nat} {K : Pend} {b : Bool} {g : Option (Nat × Bool)} (ho : ops[j]? = some ⟨some d, op, ty, pos, aft, g⟩ := by rfl) (hv : RV P w0 op ty (restr e (Oper.looksAt ops ⟨some d, op, ty, pos, aft, g⟩)) L v) (hg : GOK ops e g := by first | exact True.intro | exact ⟨_, rfl, rfl⟩) (hb : b = false := by rfl) (h : Keeps ⟨P, w0, n, Q⟩ ops e L (List.filter f K)) :
    Keeps ⟨P, w0, n, Q⟩ ops e L (List.filter f ((j, v, b) :: K)) := by
  intro p hp
  rcases List.mem_cons.1 (List.mem_filter.1 hp).1 with rfl | hq
  · intro o ho' tm w ha hs
    obtain rfl := Option.some.inj (ho.symm.trans ho')
    exact .inl ⟨gok_wanted hg ha, .inl (hv tm w pos aft ha (hs hb))⟩
  · exact h p (List.mem_filter.2 ⟨hq, (List.mem_filter.1 hp).2⟩)
theorem XD_head {C : Cx} {o : Oper} (hi : (readyV ops vl).head? = some i := by rfl) (ho : ops[i]? = some o := by rfl) (h : XDi C ops k D vl e L i o) : XD C ops k D vl e L := by
  obtain ⟨h1, o', ho', h2⟩ := mem_readyV.1 (List.mem_of_head? hi)
  obtain rfl := Option.some.inj (ho.symm.trans ho')
  exact h ho (by simpa using h1) h2
theorem XDi_either {j t : Nat} {want b : Bool} {dd : Option Nat} (hj : (ops[j]?).bind (·.dst) = some t := by rfl) (ht : e.get t = some (.bool b) := by rfl)
    (hT : b = true → XDi ⟨P, w0, n, Q⟩ ops k D vl ((t, .bool true) :: e) L i ⟨dd, op, ty, pos, aft, some (j, want)⟩) (hF : b = false → XDi ⟨P, w0, n, Q⟩ ops k D vl ((t, .bool false) :: e) L i ⟨dd, op, ty, pos, aft, some (j, want)⟩) :
    XDi ⟨P, w0, n, Q⟩ ops k D vl e L i ⟨dd, op, ty, pos, aft, some (j, want)⟩ := fun ho hi hr => XD_split t ht (fun h => hT h ho hi hr) (fun h => hF h ho hi hr)
theorem XDi_known {j t : Nat} {want b : Bool} {dd : Option Nat} (v : Bool) (hj : (ops[j]?).bind (·.dst) = some t := by rfl) (ht : e.get t = some (.bool b) := by rfl) (hb : b = v)
    (hT : XDi ⟨P, w0, n, Q⟩ ops k D vl ((t, .bool v) :: e) L i ⟨dd, op, ty, pos, aft, some (j, want)⟩) :
    XDi ⟨P, w0, n, Q⟩ ops k D vl e L i ⟨dd, op, ty, pos, aft, some (j, want)⟩ := fun ho hi hr => XD_reval t _ ht (congrArg Value.bool hb) (hT ho hi hr)
/-! the same by short names -/
theorem Dp {g : Option (Nat × Bool)} (hv : PV P op ty (restr e (Oper.looksAt ops ⟨some d, op, ty, pos, aft, g⟩)) v) (h : XD ⟨P, w0, n, Q⟩ ops k ((i, v, true) :: D) (i :: vl) ((d, v) :: e) L) (hg : GOK ops e g := by first | exact True.intro | exact ⟨_, rfl, rfl⟩)
    (hl : (Oper.looksAt ops ⟨some d, op, ty, pos, aft, g⟩).contains d = false := by kernel_rfl) (hdis : (D.all fun p => match ops[p.1]? with | some oj => !(oj.looksAt ops).contains d | none => true) = true := by kernel_rfl) (hdn : d < n := by exact Nat.le_of_ble_eq_true rfl) :
    XDi ⟨P, w0, n, Q⟩ ops k D vl e L i ⟨some d, op, ty, pos, aft, g⟩ := XDi_pvA hv hg hl hdis hdn h
theorem Dr {g : Option (Nat × Bool)} (hv : RV P w0 op ty (restr e (Oper.looksAt ops ⟨some d, op, ty, pos, aft, g⟩)) L v) (h : XD ⟨P, w0, n, Q⟩ ops k ((i, v, false) :: D) (i :: vl) ((d, v) :: e) L) (hg : GOK ops e g := by first | exact True.intro | exact ⟨_, rfl, rfl⟩)
    (hl : (Oper.looksAt ops ⟨some d, op, ty, pos, aft, g⟩).contains d = false := by kernel_rfl) (hdis : (D.all fun p => match ops[p.1]? with | some oj => !(oj.looksAt ops).contains d | none => true) = true := by kernel_rfl) (hdn : d < n := by exact Nat.le_of_ble_eq_true rfl) :
    XDi ⟨P, w0, n, Q⟩ ops k D vl e L i ⟨some d, op, ty, pos, aft, g⟩ := XDi_rvA hv hg hl hdis hdn h
end
end Go.Proofs.YtamecmklcnohjaaGreat.Sep
