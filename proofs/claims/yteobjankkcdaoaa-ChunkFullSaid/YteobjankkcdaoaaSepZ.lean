import Derived.Test.YteobjankkcdaoaaSepY
import Derived.Laws.IdiomStrings
namespace Go.Proofs.Yteobjankkcdaoaa.Sep
open Go.RowKit
set_option linter.unusedSimpArgs false
set_option linter.unusedVariables false
set_option linter.unusedSectionVars false
/-! strings and their bytes; parts of arrays -/
section
variable {P : Program} {w0 : World} {n : Nat} {Q : Exit → Act → World → Prop} {k : List KI} {e : Env} {L R : List HP} {all : Array Oper} {rest : List Oper} {ty : TypeId} {pos : String} {aft : Array Edge} {d : Nat}
theorem flat_eI (kk : IntKind) : ∀ xs : List Int, flat (eI kk) xs = xs.map (.int kk)
  | [] => rfl
  | x :: xs => by rw [flat_cons, flat_eI kk xs]; rfl
/-- A row of bytes that nobody changes. -/
def Frz (b : Nat) (bs : List Int) : HP := fun H => ∃ (row : Array Value) (T : TypeId) (fr : Nat × Nat), H b = some (.cells row T fr) ∧ ∀ (j : Nat) (v : Value), (flat (eI .u8) bs)[j]? = some v → row[j]? = some v
theorem Frz.view {b : Nat} {bs : List Int} : View (Frz b bs) (eI .u8) (some ⟨b, 0, none⟩) bs := fun H ⟨row, T, fr, hb, h⟩ => .inr ⟨⟨b, 0, none⟩, rfl, rfl, row, T, fr, hb, fun j v hj => by simpa using h j v hj⟩
theorem bytes_len {s : ByteArray} {bs : List Int} (hb : s.data.toList.map (fun b => (b.toNat : Int)) = bs) : s.size = bs.length := by subst hb; simp
/-- []byte(s) -/
theorem dv_bytesOf {S T el : TypeId} {x : Operand} {s : ByteArray} (bs : List Int) [hs : TU P S .string] [ht : TU P T (.slice el)] [he : TU P el (.int .u8)] (hx : ev e x = some (.string s) := by rfl) (hb : s.data.toList.map (fun b => (b.toNat : Int)) = bs := by rfl) :
    DV P w0 (.convert S T x) ty e L (fun v L' => ∃ b c, v = .slice (some ⟨b, 0, none⟩) bs.length c ∧ L' = Frz b bs :: L) := dv_of_run fun tm w pos aft h2 h3 => by
  have hrun := run_bytes_of_string (P := P) w S T el s hs.out ht.out he.out
  refine ⟨.slice (some ⟨w.heap.size, 0, none⟩) s.size (grownCap w s.size 0 el), w.drew.alloc (.cells (bytesRow s (grownCap w s.size 0 el)) el ((bytesRow s (grownCap w s.size 0 el)).size, (bytesRow s (grownCap w s.size 0 el)).size + 1)), Frz w.heap.size bs :: L, by simp [execOp, ev_sound h2 hx, hrun], ⟨w.heap.size, _, by rw [bytes_len hb], rfl⟩, ?_⟩
  refine ((h3.drew).alloc (o := .cells (bytesRow s (grownCap w s.size 0 el)) el ((bytesRow s (grownCap w s.size 0 el)).size, (bytesRow s (grownCap w s.size 0 el)).size + 1))).map fun _ => SL.head fun H hH => ⟨_, _, _, hH, fun j v hj => ?_⟩
  subst hb
  rw [flat_eI, List.map_map] at hj
  have hl : j < s.data.size := by
    have := (List.getElem?_eq_some_iff.1 hj).1
    simpa using this
  rw [bytesRow_at s _ j hl]
  simpa [Array.getElem?_eq_getElem hl] using hj
/-- string(b) -/
theorem rv_stringOf {S T el : TypeId} {x : Operand} {b o m c : Nat} {A : HP} {ns : List Int} (l : List UInt8) [hs : TU P S (.slice el)] [ht : TU P T .string] [he : TU P el (.int .u8)] (hx : ev e x = some (.slice (some ⟨b, o, none⟩) m c)) (hV : View A (eI .u8) (some ⟨b, o, none⟩) ns)
    (hm : m ≤ ns.length) (hl : l.map (fun b => (b.toNat : Int)) = ns.take m) (hf : Find L A R := by repeat (first | exact Find.here | apply Find.there)) : RV P w0 (.convert S T x) ty e L (.string ⟨l.toArray⟩) := fun tm w pos aft h2 h3 => by
  obtain ⟨H1, hA, hle⟩ := (h3.find hf).atom
  have hlm : l.length = m := by have := congrArg List.length hl; simp at this; omega
  have hc : ∀ j (hj : j < l.length), w.cell? ((⟨b, o, none⟩ : Addr).add j) = some (.int .u8 (l[j].toNat : Int)) := by
    intro j hj
    rcases hV H1 hA with rfl | ⟨ad, ha, hsp, row, T', fr, hb, hrow⟩
    · simp at hm; omega
    · cases ha
      have h5 : (flat (eI .u8) ns)[j]? = some (.int .u8 (l[j].toNat : Int)) := by
        rw [flat_eI, List.getElem?_map]
        have h6 : (ns.take m)[j]? = some (l[j].toNat : Int) := by rw [← hl]; simp [hj]
        rw [List.getElem?_take_of_lt (by omega)] at h6
        rw [h6]; rfl
      have h7 := hrow j _ h5
      have h8 : (⟨b, o, none⟩ : Addr).add j = ⟨b, o + j, none⟩ := by unfold Addr.add; split <;> simp_all
      rw [h8]
      simp only [World.cell?, hle _ _ hb]
      simpa using h7
  have hrun := run_convert_bytes_back (P := P) w S T el ⟨b, o, none⟩ c l hs.out he.out ht.out hc
  rw [hlm] at hrun
  simp [execOp, ev_sound h2 hx, hrun]
theorem run_guard_str {op : BinOp} {t : TypeId} {x y : Operand} {b : ByteArray} {v : Value} {w : World} : (eqGuard op t x y (.string b) v).run P w = .ok () w := by
  cases op <;> simp [eqGuard]
theorem run_eqStr {t : TypeId} {a b : ByteArray} (ht : P.underlying t = some .string) {w : World} : (Op.equal t (.string a) (.string b)).run P w = .ok (a == b) w :=
  equal_at P w t _ _ fun d => by simp [Op.equalIn, run_und ht]
theorem pv_neStr {t t' : TypeId} {x y : Operand} {a b : ByteArray} [ht : TU P t .string] (hx : ev e x = some (.string a) := by rfl) (hy : ev e y = some (.string b) := by rfl) : PV P (.binOp .neq t x y t') ty e (.bool (!(a.toList == b.toList))) :=
  fun tm w pos aft h => by
    simp only [execOp, ev_sound h hx, ev_sound h hy, Sem.run_bind, run_guard_str, Result.andThen_ok]
    simp [binOp, Op.stringOp, run_eqStr ht.out, bne]
/-- Parts of an array behind a pointer. -/
theorem pv_sliceArrL {T el s by' len : Nat} {x lo : Operand} {z : Value} {b o : Nat} {kl : IntKind} {l : Int} [hu : TU P T (.array len el)] [hi : TI P el z s by'] (hx : ev e x = some (.pointer (some ⟨b, o, none⟩)) := by rfl) (hlo : ev e lo = some (.int kl l) := by rfl) (h0 : 0 ≤ l := by omega) (h1 : l ≤ (len : Int) := by omega) :
    PV P (.slice T x (some lo) none none) ty e (.slice (subA (some ⟨b, o, none⟩) l.toNat len s) (len - l.toNat) (len - l.toNat)) :=
  fun tm w pos aft h => by
    have h2 : (underlying T).run P w = .ok (.array len el) w := run_und hu.out
    have h4 : P.elem T = el := by unfold Program.elem; rw [hu.out]
    have h5 : P.arrayLen T = len := by unfold Program.arrayLen; rw [hu.out]
    have h6 := run_sliceAt_array_l (P := P) w T ⟨b, o, none⟩ (by rw [h4, h5]; exact hu.out) kl l h0 (by rw [h5]; exact h1)
    rw [h4, h5] at h6
    simp [execOp, ev_sound h hx, ev_sound h hlo, h6, run_size hi, slicedAt, subA]
    split <;> rfl
theorem pv_sliceArrLH {T el s by' len : Nat} {x lo hi : Operand} {z : Value} {b o : Nat} {kl kh : IntKind} {l h : Int} [hu : TU P T (.array len el)] [hti : TI P el z s by'] (hx : ev e x = some (.pointer (some ⟨b, o, none⟩)) := by rfl) (hlo : ev e lo = some (.int kl l) := by rfl) (hhi : ev e hi = some (.int kh h) := by rfl)
    (h0 : 0 ≤ l := by omega) (h1 : l ≤ h := by omega) (h2 : h ≤ (len : Int) := by omega) :
    PV P (.slice T x (some lo) (some hi) none) ty e (.slice (subA (some ⟨b, o, none⟩) l.toNat len s) (h.toNat - l.toNat) (len - l.toNat)) :=
  fun tm w pos aft ha => by
    have h3 : (underlying T).run P w = .ok (.array len el) w := run_und hu.out
    have h4 : P.elem T = el := by unfold Program.elem; rw [hu.out]
    have h5 : P.arrayLen T = len := by unfold Program.arrayLen; rw [hu.out]
    have h6 := run_sliceAt_array_lh (P := P) w T ⟨b, o, none⟩ (by rw [h4, h5]; exact hu.out) kl kh l h h0 h1 (by rw [h5]; exact h2)
    rw [h4, h5] at h6
    simp [execOp, ev_sound ha hx, ev_sound ha hlo, ev_sound ha hhi, h6, run_size hti, slicedAt, subA]
    split <;> rfl
theorem zeros_eq (kk : IntKind) (m : Nat) : (Builtin.zeroCells #[Value.int kk 0] m).toList = flat (eI kk) (List.replicate m 0) := by
  rw [flat_eI]
  apply List.ext_getElem?
  intro i
  by_cases h : i < m
  · simp [Builtin.zeroCells, h, Nat.mod_one]
  · simp [Builtin.zeroCells, h]
/-- clear(x[i:i+m]) of numbers -/
theorem dv_clearAt {t el by' : Nat} {x : Operand} {b o c m c2 : Nat} {kk : IntKind} (i : Nat) {xs : List Int} [hu : TU P t (.slice el)] [hi : TI P el (.int kk 0) 1 by'] (hx : ev e x = some (.slice (some ⟨b, o + i, none⟩) m c2))
    (hf : Find L (Sl (eI kk) (some ⟨b, o, none⟩) c xs) R := by repeat (first | exact Find.here | apply Find.there)) (hm : i + m ≤ xs.length) :
    DV P w0 (.call ⟨.builtin .clear, #[x], #[t]⟩) ty e L (fun _ L' => L' = Sl (eI kk) (some ⟨b, o, none⟩) c (xs.take i ++ (List.replicate m 0 ++ xs.drop (i + m))) :: R) := dv_of_run fun tm w pos aft h2 h3 => by
  have h3' := h3.find hf
  by_cases hm0 : m = 0
  · subst hm0
    refine ⟨.tuple #[], w, _, ?_, rfl, by simpa using h3'⟩
    have h4 : (Builtin.clear_ #[t] ty #[.slice (some ⟨b, o + i, none⟩) 0 c2]).run P w = .ok (.tuple #[]) w := by simp [Builtin.clear_, run_und hu.out]
    simp [execOp, resolve, invoke, builtin, ev_sound h2 hx, h4]
  obtain ⟨H0, hA0, hle0⟩ := h3'.atom
  obtain ⟨hc, hsp, row, T, hrow, pre, post, hr, hp, hq⟩ := hA0
  have hrw := hle0 _ _ hrow
  simp only at hp hrow hrw
  have hzl : (Builtin.zeroCells #[Value.int kk 0] m).toList.length = m := by rw [zeros_eq, flat_eI]; simp
  have hzo : ∀ v ∈ (Builtin.zeroCells #[Value.int kk 0] m).toList, v.oneCell' = true := by rw [zeros_eq]; exact flat_one _ _
  have hsize : row.size = o + xs.length + post.length := by rw [← Array.length_toList, hr]; simp [flat_length, hp, eI]; omega
  have hst := run_storeCells_at P b (o + i) T (Builtin.zeroCells #[Value.int kk 0] m).toList 0 row w hrw (by rw [hzl, hsize]; omega) hzo
  simp only [Nat.add_zero] at hst
  have hzc : (Value.int kk 0).cells = #[Value.int kk 0] := rfl
  have hrun : (Builtin.clear_ #[t] ty #[.slice (some ⟨b, o + i, none⟩) m c2]).run P w = .ok (.tuple #[]) (w.setRow b (row.toList.take (o + i) ++ (Builtin.zeroCells #[Value.int kk 0] m).toList ++ row.toList.drop (o + i + (Builtin.zeroCells #[Value.int kk 0] m).toList.length)).toArray) := by
    obtain ⟨m', rfl⟩ : ∃ m', m = m' + 1 := ⟨m - 1, by omega⟩
    simp only [Builtin.clear_, Sem.run_bind, run_und hu.out, Result.andThen_ok, run_zero hi, hst]
    simp [run_und hu.out, run_zero hi, hst, hzc]
  have hop : ∀ (res : Result Value), (Builtin.clear_ #[t] ty #[.slice (some ⟨b, o + i, none⟩) m c2]).run P w = res →
      (execOp (Act.mk tm []).eval ⟨none, .call ⟨.builtin .clear, #[x], #[t]⟩, ty, pos, aft, none⟩).run P w = res.andThen fun v w => .ok (.value v) w := by
    intro res h
    simp [execOp, resolve, invoke, builtin, ev_sound h2 hx, h]
  refine ⟨_, _, _, by rw [hop _ hrun]; rfl, rfl, ?_⟩
  refine Sat.turn1 (b := b) h3' (fun H hH => ?_) rfl rfl rfl (setRow_at hrw) (fun k hk => setRow_ne hk) (fun H hH => ?_)
  · obtain ⟨_, _, row, T, hb, _⟩ := hH
    rw [hb]; simp
  · have hlen : (xs.take i ++ (List.replicate m 0 ++ xs.drop (i + m))).length = xs.length := by simp; omega
    refine ⟨by rw [hlen]; exact hc, rfl, _, T, by simp; rfl, pre, post, ?_, hp, by rw [hlen]; exact hq⟩
    have e1 : row.toList.take (o + i) = pre ++ flat (eI kk) (xs.take i) := by
      rw [hr, List.append_assoc, ← hp, List.take_length_add_append, flat_take, List.take_append_of_le_length (by rw [flat_length]; simp [eI]; omega)]
      simp [eI]
    have hzs : (Builtin.zeroCells #[Value.int kk 0] m).size = m := by simpa using hzl
    have e2 : row.toList.drop (o + i + m) = flat (eI kk) (xs.drop (i + m)) ++ post := by
      rw [hr, flat_drop, List.append_assoc, Nat.add_assoc, ← List.drop_drop, List.drop_left' hp, List.drop_append_of_le_length (by rw [flat_length]; simp [eI]; omega)]
      simp [eI]
    rw [e1, hzs, e2, zeros_eq, flat_append, flat_append]
    simp [List.append_assoc]
/-- A page's number, as two halves: a key. -/
def keyV (p : Int) : Value := .agg #[.int .u16 (p / 65536), .int .u16 (p % 65536)]
theorem run_eqPage {T el by' : Nat} {z : Value} (hu : P.underlying T = some (.array 2 el)) (he : P.underlying el = some (.int .u16)) (hi : TI P el z 1 by') (d : Nat) (a b : Int) (w : World) :
    (Op.equalIn (d + 2) T (keyV a) (keyV b)).run P w = .ok (a / 65536 == b / 65536 && a % 65536 == b % 65536) w := by
  have e1 := run_eqInt he d (a / 65536) (b / 65536) w
  have e2 := run_eqInt he d (a % 65536) (b % 65536) w
  have hs : (sizeOf el).run P w = .ok 1 w := run_size hi
  unfold Op.equalIn
  simp only [Sem.run_bind, run_und hu, Result.andThen_ok, keyV, hs]
  simp [Std.Legacy.Range.forIn_eq_forIn_range', Std.Legacy.Range.size, List.range', part, run_isAgg he, aggD, e1, e2]
  by_cases h1 : a / 65536 = b / 65536 <;> by_cases h2 : a % 65536 = b % 65536 <;> simp [*]
theorem tk_page {T el by' : Nat} {z : Value} [hu : TU P T (.array 2 el)] [he : TU P el (.int .u16)] [hi : TI P el z 1 by'] : TK P T keyV where
  inj := fun a b h => by
    simp only [keyV, Value.agg.injEq, Array.mk.injEq, List.cons.injEq, Value.int.injEq, true_and, and_true] at h
    omega
  check := fun em w a => by
    have key : ∀ d, (Instr.checkKey em (d + 2) T (keyV a)).run P w = .ok () w := fun d => by
      have e1 := run_checkInt he.out em d (a / 65536) w
      have e2 := run_checkInt he.out em d (a % 65536) w
      have hs : (sizeOf el).run P w = .ok 1 w := run_size hi
      unfold Instr.checkKey
      simp only [Sem.run_bind, run_und hu.out, Result.andThen_ok, keyV, hs]
      simp [Std.Legacy.Range.forIn_eq_forIn_range', Std.Legacy.Range.size, List.range', part, run_isAgg he.out, aggD, e1, e2, hs]
    exact key 9998
  eq := fun a b w => by
    have : (Op.equal T (keyV a) (keyV b)).run P w = _ := run_eqPage hu.out he.out hi 9998 a b w
    rw [this]
    refine congrArg (fun x => Result.ok x w) ?_
    by_cases e : a = b
    · subst e; simp
    · have : ¬ (a / 65536 = b / 65536 ∧ a % 65536 = b % 65536) := by omega
      by_cases e1 : a / 65536 = b / 65536 <;> by_cases e2 : a % 65536 = b % 65536 <;> simp [e1, e2, e] <;> omega
  bits := fun a => by simp [Instr.sameBits, keyV]
  now := ⟨_, hu.out, .inr fun a b => rfl⟩
/-- An array that is written out. -/
theorem pv_buildArr {T el len m s by' by2 : Nat} {parts : Array (Nat × Operand)} {z z2 : Value} {vs : List Value} (cells : List Value) [hu : TU P T (.array m el)] [hi : TI P T z len by'] [he : TI P el z2 s by2]
    (hv : evl e (parts.toList.map (·.2)) = some vs := by rfl) (hf : Instr.fill (fun i => some (i * s, s)) z.cells ((parts.toList.map (·.1)).zip vs) = some cells.toArray := by rfl) : PV P (.build T parts) ty e (.agg cells.toArray) := fun tm w pos aft h2 => by
  have h4 := evl_sound (ds := []) h2 hv
  have hparts : parts.toList.map (fun x => (x.fst, (Act.mk tm []).eval x.snd)) = (parts.toList.map (·.1)).zip vs := by
    rw [← h4]
    generalize parts.toList = l
    induction l with
    | nil => rfl
    | cons p l ih => simp [ih]
  have hus : (underlying T).run P w = .ok (.array m el) w := run_und hu.out
  have hsz : (sizeOf el).run P w = .ok s w := run_size he
  simp only [execOp, Instr.build, Sem.run_bind, run_zero hi, Result.andThen_ok, hus, hsz]
  have hp2 : (Array.map (fun x : Nat × Operand => match x with | (i, x) => (i, (Act.mk tm []).eval x)) parts).toList = (parts.toList.map (·.1)).zip vs := by rw [Array.toList_map]; exact hparts
  rw [hp2]
  have hf' : Instr.fill (fun i => some (i * s, s)) z.cells ((parts.toList.map (·.1)).zip vs) = some cells.toArray := hf
  rw [hf']
  rfl
end
end Go.Proofs.Yteobjankkcdaoaa.Sep
