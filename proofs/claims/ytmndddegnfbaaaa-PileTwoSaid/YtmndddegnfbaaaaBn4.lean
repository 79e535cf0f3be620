import Derived.Test.YtmndddegnfbaaaaBn3
import Derived.Laws.IdiomStrings
import Derived.Test.YtmndddegnfbaaaaProg
import Derived.Test.YtmndddegnfbaaaaBn2
import Derived.KernelRfl
/- What the laws share: a separation logic over the model, and what the program's functions do, by it. Part 4 of 10: SepZ Mem SepT RowF SepQ WalkW. -/
namespace Go.Proofs.Ytmndddegnfbaaaa.Sep
open Go.RowKit
set_option linter.unusedSimpArgs false
set_option linter.unusedVariables false
set_option linter.unusedSectionVars false
/-! strings and their bytes; parts of arrays -/
section
variable {P : Program} {w0 : World} {n : Nat} {Q : Exit → Act → World → Prop} {k : List KI} {e : Env} {L R : List HP} {all : Array Oper} {rest : List Oper} {ty : TypeId} {pos : String} {aft : Array Edge} {d : Nat}
theorem flat_eI (kk : IntKind) : ∀ xs : List Int, flat (eI kk) xs = xs.map (.int kk)
  | [] => rfl
  | x :: xs => by rw [flat_cons, flat_eI kk xs]; rfl
/-- A row of bytes that nobody changes. -/
def Frz (b : Nat) (bs : List Int) : HP := fun H => ∃ (row : Array Value) (T : TypeId) (fr : Nat × Nat), H b = some (.cells row T fr) ∧ ∀ (j : Nat) (v : Value), (flat (eI .u8) bs)[j]? = some v → row[j]? = some v
theorem Frz.view {b : Nat} {bs : List Int} : View (Frz b bs) (eI .u8) (some ⟨b, 0, none⟩) bs := fun H ⟨row, T, fr, hb, h⟩ => .inr ⟨⟨b, 0, none⟩, rfl, rfl, row, T, fr, hb, fun j v hj => by simpa using h j v hj⟩
theorem bytes_len {s : ByteArray} {bs : List Int} (hb : s.data.toList.map (fun b => (b.toNat : Int)) = bs) : s.size = bs.length := by subst hb; simp
/-- []byte(s) -/
theorem dv_bytesOf {S T el : TypeId} {x : Operand} {s : ByteArray} (bs : List Int) [hs : TU P S .string] [ht : TU P T (.slice el)] [he : TU P el (.int .u8)] (hx : ev e x = some (.string s) := by rfl) (hb : s.data.toList.map (fun b => (b.toNat : Int)) = bs := by rfl) :
    DV P w0 (.convert S T x) ty e L (fun v L' => ∃ b c, v = .slice (some ⟨b, 0, none⟩) bs.length c ∧ L' = Frz b bs :: L) := dv_of_run fun tm w pos aft h2 h3 => by
  have hrun := run_bytes_of_string (P := P) w S T el s hs.out ht.out he.out
  refine ⟨.slice (some ⟨w.heap.size, 0, none⟩) s.size (grownCap w s.size 0 el), w.drew.alloc (.cells (bytesRow s (grownCap w s.size 0 el)) el ((bytesRow s (grownCap w s.size 0 el)).size, (bytesRow s (grownCap w s.size 0 el)).size + 1)), Frz w.heap.size bs :: L, by simp [execOp, ev_sound h2 hx, hrun], ⟨w.heap.size, _, by rw [bytes_len hb], rfl⟩, ?_⟩
  refine ((h3.drew).alloc (o := .cells (bytesRow s (grownCap w s.size 0 el)) el ((bytesRow s (grownCap w s.size 0 el)).size, (bytesRow s (grownCap w s.size 0 el)).size + 1))).map fun _ => SL.head fun H hH => ⟨_, _, _, hH, fun j v hj => ?_⟩
  subst hb
  rw [flat_eI, List.map_map] at hj
  have hl : j < s.data.size := by
    have := (List.getElem?_eq_some_iff.1 hj).1
    simpa using this
  rw [bytesRow_at s _ j hl]
  simpa [Array.getElem?_eq_getElem hl] using hj
/-- string(b) -/
theorem rv_stringOf {S T el : TypeId} {x : Operand} {b o m c : Nat} {A : HP} {ns : List Int} (l : List UInt8) [hs : TU P S (.slice el)] [ht : TU P T .string] [he : TU P el (.int .u8)] (hx : ev e x = some (.slice (some ⟨b, o, none⟩) m c)) (hV : View A (eI .u8) (some ⟨b, o, none⟩) ns)
    (hm : m ≤ ns.length) (hl : l.map (fun b => (b.toNat : Int)) = ns.take m) (hf : Find L A R := by repeat (first | exact Find.here | apply Find.there)) : RV P w0 (.convert S T x) ty e L (.string ⟨l.toArray⟩) := fun tm w pos aft h2 h3 => by
  obtain ⟨H1, hA, hle⟩ := (h3.find hf).atom
  have hlm : l.length = m := by have := congrArg List.length hl; simp at this; omega
  have hc : ∀ j (hj : j < l.length), w.cell? ((⟨b, o, none⟩ : Addr).add j) = some (.int .u8 (l[j].toNat : Int)) := by
    intro j hj
    rcases hV H1 hA with rfl | ⟨ad, ha, hsp, row, T', fr, hb, hrow⟩
    · simp at hm; omega
    · cases ha
      have h5 : (flat (eI .u8) ns)[j]? = some (.int .u8 (l[j].toNat : Int)) := by
        rw [flat_eI, List.getElem?_map]
        have h6 : (ns.take m)[j]? = some (l[j].toNat : Int) := by rw [← hl]; simp [hj]
        rw [List.getElem?_take_of_lt (by omega)] at h6
        rw [h6]; rfl
      have h7 := hrow j _ h5
      have h8 : (⟨b, o, none⟩ : Addr).add j = ⟨b, o + j, none⟩ := by unfold Addr.add; split <;> simp_all
      rw [h8]
      simp only [World.cell?, hle _ _ hb]
      simpa using h7
  have hrun := run_convert_bytes_back (P := P) w S T el ⟨b, o, none⟩ c l hs.out he.out ht.out hc
  rw [hlm] at hrun
  simp [execOp, ev_sound h2 hx, hrun]
theorem run_guard_str {op : BinOp} {t : TypeId} {x y : Operand} {b : ByteArray} {v : Value} {w : World} : (eqGuard op t x y (.string b) v).run P w = .ok () w := by
  cases op <;> simp [eqGuard]
theorem run_eqStr {t : TypeId} {a b : ByteArray} (ht : P.underlying t = some .string) {w : World} : (Op.equal t (.string a) (.string b)).run P w = .ok (a == b) w :=
  equal_at P w t _ _ fun d => by simp [Op.equalIn, run_und ht]
theorem pv_neStr {t t' : TypeId} {x y : Operand} {a b : ByteArray} [ht : TU P t .string] (hx : ev e x = some (.string a) := by rfl) (hy : ev e y = some (.string b) := by rfl) : PV P (.binOp .neq t x y t') ty e (.bool (!(a.toList == b.toList))) :=
  fun tm w pos aft h => by
    simp only [execOp, ev_sound h hx, ev_sound h hy, Sem.run_bind, run_guard_str, Result.andThen_ok]
    simp [binOp, Op.stringOp, run_eqStr ht.out, bne]
/-- Parts of an array behind a pointer. -/
theorem pv_sliceArrL {T el s by' len : Nat} {x lo : Operand} {z : Value} {b o : Nat} {kl : IntKind} {l : Int} [hu : TU P T (.array len el)] [hi : TI P el z s by'] (hx : ev e x = some (.pointer (some ⟨b, o, none⟩)) := by rfl) (hlo : ev e lo = some (.int kl l) := by rfl) (h0 : 0 ≤ l := by omega) (h1 : l ≤ (len : Int) := by omega) :
    PV P (.slice T x (some lo) none none) ty e (.slice (subA (some ⟨b, o, none⟩) l.toNat len s) (len - l.toNat) (len - l.toNat)) :=
  fun tm w pos aft h => by
    have h2 : (underlying T).run P w = .ok (.array len el) w := run_und hu.out
    have h4 : P.elem T = el := by unfold Program.elem; rw [hu.out]
    have h5 : P.arrayLen T = len := by unfold Program.arrayLen; rw [hu.out]
    have h6 := run_sliceAt_array_l (P := P) w T ⟨b, o, none⟩ (by rw [h4, h5]; exact hu.out) kl l h0 (by rw [h5]; exact h1)
    rw [h4, h5] at h6
    simp [execOp, ev_sound h hx, ev_sound h hlo, h6, run_size hi, slicedAt, subA]
    split <;> rfl
theorem pv_sliceArrLH {T el s by' len : Nat} {x lo hi : Operand} {z : Value} {b o : Nat} {kl kh : IntKind} {l h : Int} [hu : TU P T (.array len el)] [hti : TI P el z s by'] (hx : ev e x = some (.pointer (some ⟨b, o, none⟩)) := by rfl) (hlo : ev e lo = some (.int kl l) := by rfl) (hhi : ev e hi = some (.int kh h) := by rfl)
    (h0 : 0 ≤ l := by omega) (h1 : l ≤ h := by omega) (h2 : h ≤ (len : Int) := by omega) :
    PV P (.slice T x (some lo) (some hi) none) ty e (.slice (subA (some ⟨b, o, none⟩) l.toNat len s) (h.toNat - l.toNat) (len - l.toNat)) :=
  fun tm w pos aft ha => by
    have h3 : (underlying T).run P w = .ok (.array len el) w := run_und hu.out
    have h4 : P.elem T = el := by unfold Program.elem; rw [hu.out]
    have h5 : P.arrayLen T = len := by unfold Program.arrayLen; rw [hu.out]
    have h6 := run_sliceAt_array_lh (P := P) w T ⟨b, o, none⟩ (by rw [h4, h5]; exact hu.out) kl kh l h h0 h1 (by rw [h5]; exact h2)
    rw [h4, h5] at h6
    simp [execOp, ev_sound ha hx, ev_sound ha hlo, ev_sound ha hhi, h6, run_size hti, slicedAt, subA]
    split <;> rfl
theorem zeros_eq (kk : IntKind) (m : Nat) : (Builtin.zeroCells #[Value.int kk 0] m).toList = flat (eI kk) (List.replicate m 0) := by
  rw [flat_eI]
  apply List.ext_getElem?
  intro i
  by_cases h : i < m
  · simp [Builtin.zeroCells, h, Nat.mod_one]
  · simp [Builtin.zeroCells, h]
/-- clear(x[i:i+m]) of numbers -/
theorem dv_clearAt {t el by' : Nat} {x : Operand} {b o c m c2 : Nat} {kk : IntKind} (i : Nat) {xs : List Int} [hu : TU P t (.slice el)] [hi : TI P el (.int kk 0) 1 by'] (hx : ev e x = some (.slice (some ⟨b, o + i, none⟩) m c2))
    (hf : Find L (Sl (eI kk) (some ⟨b, o, none⟩) c xs) R := by repeat (first | exact Find.here | apply Find.there)) (hm : i + m ≤ xs.length) :
    DV P w0 (.call ⟨.builtin .clear, #[x], #[t]⟩) ty e L (fun _ L' => L' = Sl (eI kk) (some ⟨b, o, none⟩) c (xs.take i ++ (List.replicate m 0 ++ xs.drop (i + m))) :: R) := dv_of_run fun tm w pos aft h2 h3 => by
  have h3' := h3.find hf
  by_cases hm0 : m = 0
  · subst hm0
    refine ⟨.tuple #[], w, _, ?_, rfl, by simpa using h3'⟩
    have h4 : (Builtin.clear_ #[t] ty #[.slice (some ⟨b, o + i, none⟩) 0 c2]).run P w = .ok (.tuple #[]) w := by simp [Builtin.clear_, run_und hu.out]
    simp [execOp, resolve, invoke, builtin, ev_sound h2 hx, h4]
  obtain ⟨H0, hA0, hle0⟩ := h3'.atom
  obtain ⟨hc, hsp, row, T, hrow, pre, post, hr, hp, hq⟩ := hA0
  have hrw := hle0 _ _ hrow
  simp only at hp hrow hrw
  have hzl : (Builtin.zeroCells #[Value.int kk 0] m).toList.length = m := by rw [zeros_eq, flat_eI]; simp
  have hzo : ∀ v ∈ (Builtin.zeroCells #[Value.int kk 0] m).toList, v.oneCell' = true := by rw [zeros_eq]; exact flat_one _ _
  have hsize : row.size = o + xs.length + post.length := by rw [← Array.length_toList, hr]; simp [flat_length, hp, eI]; omega
  have hst := run_storeCells_at P b (o + i) T (Builtin.zeroCells #[Value.int kk 0] m).toList 0 row w hrw (by rw [hzl, hsize]; omega) hzo
  simp only [Nat.add_zero] at hst
  have hzc : (Value.int kk 0).cells = #[Value.int kk 0] := rfl
  have hrun : (Builtin.clear_ #[t] ty #[.slice (some ⟨b, o + i, none⟩) m c2]).run P w = .ok (.tuple #[]) (w.setRow b (row.toList.take (o + i) ++ (Builtin.zeroCells #[Value.int kk 0] m).toList ++ row.toList.drop (o + i + (Builtin.zeroCells #[Value.int kk 0] m).toList.length)).toArray) := by
    obtain ⟨m', rfl⟩ : ∃ m', m = m' + 1 := ⟨m - 1, by omega⟩
    simp only [Builtin.clear_, Sem.run_bind, run_und hu.out, Result.andThen_ok, run_zero hi, hst]
    simp [run_und hu.out, run_zero hi, hst, hzc]
  have hop : ∀ (res : Result Value), (Builtin.clear_ #[t] ty #[.slice (some ⟨b, o + i, none⟩) m c2]).run P w = res →
      (execOp (Act.mk tm []).eval ⟨none, .call ⟨.builtin .clear, #[x], #[t]⟩, ty, pos, aft, none⟩).run P w = res.andThen fun v w => .ok (.value v) w := by
    intro res h
    simp [execOp, resolve, invoke, builtin, ev_sound h2 hx, h]
  refine ⟨_, _, _, by rw [hop _ hrun]; rfl, rfl, ?_⟩
  refine Sat.turn1 (b := b) h3' (fun H hH => ?_) rfl rfl rfl (setRow_at hrw) (fun k hk => setRow_ne hk) (fun H hH => ?_)
  · obtain ⟨_, _, row, T, hb, _⟩ := hH
    rw [hb]; simp
  · have hlen : (xs.take i ++ (List.replicate m 0 ++ xs.drop (i + m))).length = xs.length := by simp; omega
    refine ⟨by rw [hlen]; exact hc, rfl, _, T, by simp; rfl, pre, post, ?_, hp, by rw [hlen]; exact hq⟩
    have e1 : row.toList.take (o + i) = pre ++ flat (eI kk) (xs.take i) := by
      rw [hr, List.append_assoc, ← hp, List.take_length_add_append, flat_take, List.take_append_of_le_length (by rw [flat_length]; simp [eI]; omega)]
      simp [eI]
    have hzs : (Builtin.zeroCells #[Value.int kk 0] m).size = m := by simpa using hzl
    have e2 : row.toList.drop (o + i + m) = flat (eI kk) (xs.drop (i + m)) ++ post := by
      rw [hr, flat_drop, List.append_assoc, Nat.add_assoc, ← List.drop_drop, List.drop_left' hp, List.drop_append_of_le_length (by rw [flat_length]; simp [eI]; omega)]
      simp [eI]
    rw [e1, hzs, e2, zeros_eq, flat_append, flat_append]
    simp [List.append_assoc]
/-- A page's number, as two halves: a key. -/
def keyV (p : Int) : Value := .agg #[.int .u16 (p / 65536), .int .u16 (p % 65536)]
theorem run_eqPage {T el by' : Nat} {z : Value} (hu : P.underlying T = some (.array 2 el)) (he : P.underlying el = some (.int .u16)) (hi : TI P el z 1 by') (d : Nat) (a b : Int) (w : World) :
    (Op.equalIn (d + 2) T (keyV a) (keyV b)).run P w = .ok (a / 65536 == b / 65536 && a % 65536 == b % 65536) w := by
  have e1 := run_eqInt he d (a / 65536) (b / 65536) w
  have e2 := run_eqInt he d (a % 65536) (b % 65536) w
  have hs : (sizeOf el).run P w = .ok 1 w := run_size hi
  unfold Op.equalIn
  simp only [Sem.run_bind, run_und hu, Result.andThen_ok, keyV, hs]
  simp [Std.Legacy.Range.forIn_eq_forIn_range', Std.Legacy.Range.size, List.range', part, run_isAgg he, aggD, e1, e2]
  by_cases h1 : a / 65536 = b / 65536 <;> by_cases h2 : a % 65536 = b % 65536 <;> simp [*]
theorem tk_page {T el by' : Nat} {z : Value} [hu : TU P T (.array 2 el)] [he : TU P el (.int .u16)] [hi : TI P el z 1 by'] : TK P T keyV where
  inj := fun a b h => by
    simp only [keyV, Value.agg.injEq, Array.mk.injEq, List.cons.injEq, Value.int.injEq, true_and, and_true] at h
    omega
  check := fun em w a => by
    have key : ∀ d, (Instr.checkKey em (d + 2) T (keyV a)).run P w = .ok () w := fun d => by
      have e1 := run_checkInt he.out em d (a / 65536) w
      have e2 := run_checkInt he.out em d (a % 65536) w
      have hs : (sizeOf el).run P w = .ok 1 w := run_size hi
      unfold Instr.checkKey
      simp only [Sem.run_bind, run_und hu.out, Result.andThen_ok, keyV, hs]
      simp [Std.Legacy.Range.forIn_eq_forIn_range', Std.Legacy.Range.size, List.range', part, run_isAgg he.out, aggD, e1, e2, hs]
    exact key 9998
  eq := fun a b w => by
    have : (Op.equal T (keyV a) (keyV b)).run P w = _ := run_eqPage hu.out he.out hi 9998 a b w
    rw [this]
    refine congrArg (fun x => Result.ok x w) ?_
    by_cases e : a = b
    · subst e; simp
    · have : ¬ (a / 65536 = b / 65536 ∧ a % 65536 = b % 65536) := by omega
      by_cases e1 : a / 65536 = b / 65536 <;> by_cases e2 : a % 65536 = b % 65536 <;> simp [e1, e2, e] <;> omega
  bits := fun a => by simp [Instr.sameBits, keyV]
  now := ⟨_, hu.out, .inr fun a b => rfl⟩
/-- An array that is written out. -/
theorem pv_buildArr {T el len m s by' by2 : Nat} {parts : Array (Nat × Operand)} {z z2 : Value} {vs : List Value} (cells : List Value) [hu : TU P T (.array m el)] [hi : TI P T z len by'] [he : TI P el z2 s by2]
    (hv : evl e (parts.toList.map (·.2)) = some vs := by rfl) (hf : Instr.fill (fun i => some (i * s, s)) z.cells ((parts.toList.map (·.1)).zip vs) = some cells.toArray := by rfl) : PV P (.build T parts) ty e (.agg cells.toArray) := fun tm w pos aft h2 => by
  have h4 := evl_sound (ds := []) h2 hv
  have hparts : parts.toList.map (fun x => (x.fst, (Act.mk tm []).eval x.snd)) = (parts.toList.map (·.1)).zip vs := by
    rw [← h4]
    generalize parts.toList = l
    induction l with
    | nil => rfl
    | cons p l ih => simp [ih]
  have hus : (underlying T).run P w = .ok (.array m el) w := run_und hu.out
  have hsz : (sizeOf el).run P w = .ok s w := run_size he
  simp only [execOp, Instr.build, Sem.run_bind, run_zero hi, Result.andThen_ok, hus, hsz]
  have hp2 : (Array.map (fun x : Nat × Operand => match x with | (i, x) => (i, (Act.mk tm []).eval x)) parts).toList = (parts.toList.map (·.1)).zip vs := by rw [Array.toList_map]; exact hparts
  rw [hp2]
  have hf' : Instr.fill (fun i => some (i * s, s)) z.cells ((parts.toList.map (·.1)).zip vs) = some cells.toArray := hf
  rw [hf']
  rfl
end
end Go.Proofs.Ytmndddegnfbaaaa.Sep
namespace Go.Proofs.Ytmndddegnfbaaaa.Sep
set_option linter.unusedSimpArgs false
set_option linter.unusedVariables false
/-! the pages of a space: plain -/
def memOf (M : List (Int × Nat × List Int)) (a : Int) : Int := match lk M (a / 4096) with
  | none => 0
  | some q => q.2.getD (a % 4096).toNat 0
def POk (P : Int) (M : List (Int × Nat × List Int)) : Prop := ∀ q ∈ M, 0 ≤ q.1 ∧ q.1 < P ∧ q.2.2.length = 4096
def cutIn (xs : List Int) (i : Nat) (bs : List Int) : List Int := xs.take i ++ (bs ++ xs.drop (i + bs.length))
theorem cutIn_len {xs bs : List Int} {i : Nat} (h : i + bs.length ≤ xs.length) : (cutIn xs i bs).length = xs.length := by simp [cutIn]; omega
theorem cutIn_get {xs bs : List Int} {i j : Nat} (h : i + bs.length ≤ xs.length) : (cutIn xs i bs).getD j 0 = if i ≤ j ∧ j < i + bs.length then bs.getD (j - i) 0 else xs.getD j 0 := by
  simp only [List.getD, cutIn]
  congr 1
  by_cases h1 : j < i
  · rw [List.getElem?_append_left (by simp; omega), List.getElem?_take_of_lt h1, if_neg (by omega)]
  · rw [List.getElem?_append_right (by simp; omega), List.length_take, Nat.min_eq_left (by omega)]
    by_cases h2 : j < i + bs.length
    · rw [if_pos ⟨by omega, h2⟩, List.getElem?_append_left (by omega)]
    · rw [if_neg (by omega), List.getElem?_append_right (by omega), List.getElem?_drop, show i + bs.length + (j - i - bs.length) = j from by omega]
theorem rep0 (n j : Nat) : (List.replicate n (0 : Int)).getD j 0 = 0 := by
  simp only [List.getD, List.getElem?_replicate]
  split <;> rfl
theorem memOf_new {M : List (Int × Nat × List Int)} {p : Int} {b : Nat} (h : lk M p = none) (a : Int) : memOf (ins M p (b, List.replicate 4096 0)) a = memOf M a := by
  unfold memOf
  rw [lk_ins]
  by_cases e : a / 4096 = p
  · rw [if_pos e, e, h]
    exact rep0 _ _
  · rw [if_neg e]
theorem memOf_put {M : List (Int × Nat × List Int)} {p : Int} {b : Nat} {xs bs : List Int} {i : Nat} (h : lk M p = some (b, xs)) (hl : xs.length = 4096) (hi : i + bs.length ≤ 4096) (a : Int) :
    memOf (ins M p (b, cutIn xs i bs)) a = wrM (memOf M) (p * 4096 + i) bs a := by
  simp only [memOf, wrM, lk_ins]
  by_cases e : a / 4096 = p
  · rw [if_pos e, e, h]
    simp only
    rw [cutIn_get (by omega)]
    by_cases h2 : i ≤ (a % 4096).toNat ∧ (a % 4096).toNat < i + bs.length
    · rw [if_pos h2, if_pos (by omega)]
      congr 1; omega
    · rw [if_neg h2, if_neg (by omega)]
  · rw [if_neg e, if_neg (by omega)]
theorem wr_nil (m : Int → Int) (at_ : Int) : wrM m at_ [] = m := by
  funext a; simp only [wrM]; rw [if_neg (by simp only [List.length_nil]; omega)]
theorem wr_wr (m : Int → Int) (at_ : Int) (bs cs : List Int) : wrM (wrM m at_ bs) (at_ + bs.length) cs = wrM m at_ (bs ++ cs) := by
  funext a
  simp only [wrM, List.length_append]
  by_cases h1 : at_ + bs.length ≤ a ∧ a < at_ + bs.length + cs.length
  · rw [if_pos h1, if_pos (by omega)]
    simp only [List.getD]
    rw [List.getElem?_append_right (by omega)]
    congr 2; omega
  · rw [if_neg h1]
    by_cases h2 : at_ ≤ a ∧ a < at_ + bs.length
    · rw [if_pos h2, if_pos (by omega)]
      simp only [List.getD]
      rw [List.getElem?_append_left (by omega)]
    · rw [if_neg h2, if_neg (by omega)]
theorem rd_app (m : Int → Int) (at_ : Int) (n k : Nat) : rdM m at_ (n + k) = rdM m at_ n ++ rdM m (at_ + n) k := by
  simp only [rdM, List.range_add, List.map_append, List.map_map]
  congr 1
  apply List.map_congr_left
  intro i _
  simp [Int.add_assoc]
theorem rd_page {M : List (Int × Nat × List Int)} {p : Int} {b : Nat} {xs : List Int} {i n : Nat} (h : lk M p = some (b, xs)) (hl : xs.length = 4096) (hi : i + n ≤ 4096) : rdM (memOf M) (p * 4096 + i) n = (xs.drop i).take n := by
  apply List.ext_getElem?
  intro j
  by_cases hj : j < n
  · simp only [rdM, List.getElem?_map, List.getElem?_range hj, Option.map_some, memOf]
    rw [show (p * 4096 + (i : Int) + (j : Int)) / 4096 = p from by omega, h]
    simp only
    rw [show ((p * 4096 + (i : Int) + (j : Int)) % 4096).toNat = i + j from by omega, List.getElem?_take_of_lt hj, List.getElem?_drop, List.getD]
    have : i + j < xs.length := by omega
    simp [this]
  · rw [List.getElem?_eq_none (by simp [rdM]; omega), List.getElem?_eq_none (by simp; omega)]
theorem rd_none {M : List (Int × Nat × List Int)} {p : Int} {i n : Nat} (h : lk M p = none) (hi : i + n ≤ 4096) : rdM (memOf M) (p * 4096 + i) n = List.replicate n 0 := by
  apply List.ext_getElem?
  intro j
  by_cases hj : j < n
  · simp only [rdM, List.getElem?_map, List.getElem?_range hj, Option.map_some, memOf]
    rw [show (p * 4096 + (i : Int) + (j : Int)) / 4096 = p from by omega, h]
    simp [hj]
  · rw [List.getElem?_eq_none (by simp [rdM]; omega), List.getElem?_eq_none (by simp; omega)]
/-- Bytes, and what was touched. -/
structure Mm where
  f : Int → Int
  t : Int
/-- How many pages some bytes touch. -/
def touchI (at_ n : Int) : Int := if n = 0 then 1 else (at_ + n - 1) / 4096 - at_ / 4096 + 1
def tkM (m : Mm) (k : Int) : Mm := ⟨m.f, IntKind.i64.wrap (m.t + k)⟩
def stM (m : Mm) (at_ : Int) (bs : List Int) : Mm := ⟨wrM m.f at_ bs, IntKind.i64.wrap (m.t + touchI at_ bs.length)⟩
def zzM (m : Mm) (at_ n : Int) : Mm := ⟨zrM m.f at_ n, IntKind.i64.wrap (m.t + touchI at_ n)⟩
def ldM (m : Mm) (at_ n : Int) : Mm := ⟨m.f, IntKind.i64.wrap (m.t + touchI at_ n)⟩
theorem touch_hdr (page : Int) : touchI (page * 4096) 32 = 1 := by unfold touchI; rw [if_neg (by decide)]; omega
end Go.Proofs.Ytmndddegnfbaaaa.Sep
namespace Go.Proofs.Ytmndddegnfbaaaa.Sep
open Go.Proofs
theorem tu0 : TU Try.prog 0 Try.t0.desc := ⟨Try.underlying0⟩
theorem ti0 : TI Try.prog 0 (Try.t0.zero.getD undef) 1 0 := ⟨Try.t0, (by kernel_rfl), rfl, rfl, rfl⟩
theorem tu1 : TU Try.prog 1 Try.t1.desc := ⟨Try.underlying1⟩
theorem ti1 : TI Try.prog 1 (Try.t1.zero.getD undef) 1 8 := ⟨Try.t1, (by kernel_rfl), rfl, rfl, rfl⟩
theorem tu2 : TU Try.prog 2 Try.t2.desc := ⟨Try.underlying2⟩
theorem tk2 : TK Try.prog 2 (fun n : Int => Value.int .i64 n) := tk_int (h := ⟨Try.underlying2⟩)
theorem ti2 : TI Try.prog 2 (Try.t2.zero.getD undef) 1 8 := ⟨Try.t2, (by kernel_rfl), rfl, rfl, rfl⟩
theorem tu3 : TU Try.prog 3 Try.t3.desc := ⟨Try.underlying3⟩
theorem tk3 : TK Try.prog 3 (fun n : Int => Value.int .i64 n) := tk_int (h := ⟨Try.underlying3⟩)
theorem ti3 : TI Try.prog 3 (Try.t3.zero.getD undef) 1 8 := ⟨Try.t3, (by kernel_rfl), rfl, rfl, rfl⟩
theorem tu4 : TU Try.prog 4 Try.t4.desc := ⟨Try.underlying4⟩
theorem ti4 : TI Try.prog 4 (Try.t4.zero.getD undef) 1 1 := ⟨Try.t4, (by kernel_rfl), rfl, rfl, rfl⟩
theorem tu5 : TU Try.prog 5 Try.t5.desc := ⟨Try.underlying5⟩
theorem tk5 : TK Try.prog 5 (fun n : Int => Value.int .u8 n) := tk_int (h := ⟨Try.underlying5⟩)
theorem ti5 : TI Try.prog 5 (Try.t5.zero.getD undef) 1 1 := ⟨Try.t5, (by kernel_rfl), rfl, rfl, rfl⟩
theorem tu6 : TU Try.prog 6 Try.t5.desc := ⟨Try.underlying6⟩
theorem tk6 : TK Try.prog 6 (fun n : Int => Value.int .u8 n) := tk_int (h := ⟨Try.underlying6⟩)
theorem ti6 : TI Try.prog 6 (Try.t6.zero.getD undef) 1 1 := ⟨Try.t6, (by kernel_rfl), rfl, rfl, rfl⟩
theorem tu7 : TU Try.prog 7 Try.t7.desc := ⟨Try.underlying7⟩
theorem ti7 : TI Try.prog 7 (Try.t7.zero.getD undef) 4 24 := ⟨Try.t7, (by kernel_rfl), rfl, rfl, rfl⟩
theorem tu8 : TU Try.prog 8 Try.t7.desc := ⟨Try.underlying8⟩
theorem ti8 : TI Try.prog 8 (Try.t8.zero.getD undef) 4 24 := ⟨Try.t8, (by kernel_rfl), rfl, rfl, rfl⟩
theorem tu9 : TU Try.prog 9 Try.t9.desc := ⟨Try.underlying9⟩
theorem ti9 : TI Try.prog 9 (Try.t9.zero.getD undef) 1 16 := ⟨Try.t9, (by kernel_rfl), rfl, rfl, rfl⟩
theorem tu10 : TU Try.prog 10 Try.t9.desc := ⟨Try.underlying10⟩
theorem ti10 : TI Try.prog 10 (Try.t10.zero.getD undef) 1 16 := ⟨Try.t10, (by kernel_rfl), rfl, rfl, rfl⟩
theorem tu11 : TU Try.prog 11 Try.t9.desc := ⟨Try.underlying11⟩
theorem ti11 : TI Try.prog 11 (Try.t11.zero.getD undef) 1 16 := ⟨Try.t11, (by kernel_rfl), rfl, rfl, rfl⟩
theorem tu12 : TU Try.prog 12 Try.t12.desc := ⟨Try.underlying12⟩
theorem tk12 : TK Try.prog 12 (fun n : Int => Value.int .u64 n) := tk_int (h := ⟨Try.underlying12⟩)
theorem ti12 : TI Try.prog 12 (Try.t12.zero.getD undef) 1 8 := ⟨Try.t12, (by kernel_rfl), rfl, rfl, rfl⟩
theorem tu13 : TU Try.prog 13 Try.t13.desc := ⟨Try.underlying13⟩
theorem ti13 : TI Try.prog 13 (Try.t13.zero.getD undef) 2 24 := ⟨Try.t13, (by kernel_rfl), rfl, rfl, rfl⟩
theorem tu14 : TU Try.prog 14 Try.t13.desc := ⟨Try.underlying14⟩
theorem ti14 : TI Try.prog 14 (Try.t14.zero.getD undef) 2 24 := ⟨Try.t14, (by kernel_rfl), rfl, rfl, rfl⟩
theorem tu15 : TU Try.prog 15 Try.t15.desc := ⟨Try.underlying15⟩
theorem ti15 : TI Try.prog 15 (Try.t15.zero.getD undef) 1 8 := ⟨Try.t15, (by kernel_rfl), rfl, rfl, rfl⟩
theorem tu16 : TU Try.prog 16 Try.t16.desc := ⟨Try.underlying16⟩
theorem ti16 : TI Try.prog 16 (Try.t16.zero.getD undef) 1 8 := ⟨Try.t16, (by kernel_rfl), rfl, rfl, rfl⟩
theorem tu17 : TU Try.prog 17 Try.t17.desc := ⟨Try.underlying17⟩
theorem ti17 : TI Try.prog 17 (Try.t17.zero.getD undef) 1 8 := ⟨Try.t17, (by kernel_rfl), rfl, rfl, rfl⟩
theorem tu18 : TU Try.prog 18 Try.t18.desc := ⟨Try.underlying18⟩
theorem ti18 : TI Try.prog 18 (Try.t18.zero.getD undef) 1 8 := ⟨Try.t18, (by kernel_rfl), rfl, rfl, rfl⟩
theorem tu19 : TU Try.prog 19 Try.t18.desc := ⟨Try.underlying19⟩
theorem ti19 : TI Try.prog 19 (Try.t19.zero.getD undef) 1 8 := ⟨Try.t19, (by kernel_rfl), rfl, rfl, rfl⟩
theorem tu20 : TU Try.prog 20 Try.t20.desc := ⟨Try.underlying20⟩
theorem ti20 : TI Try.prog 20 (Try.t20.zero.getD undef) 1 16 := ⟨Try.t20, (by kernel_rfl), rfl, rfl, rfl⟩
theorem tu21 : TU Try.prog 21 Try.t21.desc := ⟨Try.underlying21⟩
theorem tk21 : TK Try.prog 21 (fun n : Int => Value.int .i32 n) := tk_int (h := ⟨Try.underlying21⟩)
theorem ti21 : TI Try.prog 21 (Try.t21.zero.getD undef) 1 4 := ⟨Try.t21, (by kernel_rfl), rfl, rfl, rfl⟩
theorem tu22 : TU Try.prog 22 Try.t22.desc := ⟨Try.underlying22⟩
theorem ti22 : TI Try.prog 22 (Try.t22.zero.getD undef) 1 24 := ⟨Try.t22, (by kernel_rfl), rfl, rfl, rfl⟩
theorem tu23 : TU Try.prog 23 Try.t23.desc := ⟨Try.underlying23⟩
theorem ti23 : TI Try.prog 23 (Try.t23.zero.getD undef) 1 8 := ⟨Try.t23, (by kernel_rfl), rfl, rfl, rfl⟩
theorem tu24 : TU Try.prog 24 Try.t24.desc := ⟨Try.underlying24⟩
theorem ti24 : TI Try.prog 24 (Try.t24.zero.getD undef) 1 8 := ⟨Try.t24, (by kernel_rfl), rfl, rfl, rfl⟩
theorem tu25 : TU Try.prog 25 Try.t25.desc := ⟨Try.underlying25⟩
theorem ti25 : TI Try.prog 25 (Try.t25.zero.getD undef) 1 8 := ⟨Try.t25, (by kernel_rfl), rfl, rfl, rfl⟩
theorem tu26 : TU Try.prog 26 Try.t26.desc := ⟨Try.underlying26⟩
theorem ti26 : TI Try.prog 26 (Try.t26.zero.getD undef) 1 8 := ⟨Try.t26, (by kernel_rfl), rfl, rfl, rfl⟩
theorem tu27 : TU Try.prog 27 Try.t27.desc := ⟨Try.underlying27⟩
theorem ti27 : TI Try.prog 27 (Try.t27.zero.getD undef) 1 8 := ⟨Try.t27, (by kernel_rfl), rfl, rfl, rfl⟩
theorem tu28 : TU Try.prog 28 Try.t28.desc := ⟨Try.underlying28⟩
theorem tk28 : TK Try.prog 28 (fun n : Int => Value.int .u64 n) := tk_int (h := ⟨Try.underlying28⟩)
theorem ti28 : TI Try.prog 28 (Try.t28.zero.getD undef) 1 8 := ⟨Try.t28, (by kernel_rfl), rfl, rfl, rfl⟩
theorem tu29 : TU Try.prog 29 Try.t29.desc := ⟨Try.underlying29⟩
theorem ti29 : TI Try.prog 29 (Try.t29.zero.getD undef) 1 24 := ⟨Try.t29, (by kernel_rfl), rfl, rfl, rfl⟩
theorem tu30 : TU Try.prog 30 Try.t3.desc := ⟨Try.underlying30⟩
theorem tk30 : TK Try.prog 30 (fun n : Int => Value.int .i64 n) := tk_int (h := ⟨Try.underlying30⟩)
theorem ti30 : TI Try.prog 30 (Try.t30.zero.getD undef) 1 8 := ⟨Try.t30, (by kernel_rfl), rfl, rfl, rfl⟩
theorem tu31 : TU Try.prog 31 Try.t31.desc := ⟨Try.underlying31⟩
theorem ti31 : TI Try.prog 31 (Try.t31.zero.getD undef) 1 0 := ⟨Try.t31, (by kernel_rfl), rfl, rfl, rfl⟩
theorem tu32 : TU Try.prog 32 Try.t32.desc := ⟨Try.underlying32⟩
theorem ti32 : TI Try.prog 32 (Try.t32.zero.getD undef) 1 8 := ⟨Try.t32, (by kernel_rfl), rfl, rfl, rfl⟩
theorem tu33 : TU Try.prog 33 Try.t33.desc := ⟨Try.underlying33⟩
theorem ti33 : TI Try.prog 33 (Try.t33.zero.getD undef) 2 16 := ⟨Try.t33, (by kernel_rfl), rfl, rfl, rfl⟩
theorem tu34 : TU Try.prog 34 Try.t33.desc := ⟨Try.underlying34⟩
theorem ti34 : TI Try.prog 34 (Try.t34.zero.getD undef) 2 16 := ⟨Try.t34, (by kernel_rfl), rfl, rfl, rfl⟩
theorem tu35 : TU Try.prog 35 Try.t35.desc := ⟨Try.underlying35⟩
theorem ti35 : TI Try.prog 35 (Try.t35.zero.getD undef) 1 8 := ⟨Try.t35, (by kernel_rfl), rfl, rfl, rfl⟩
theorem tu36 : TU Try.prog 36 Try.t36.desc := ⟨Try.underlying36⟩
theorem ti36 : TI Try.prog 36 (Try.t36.zero.getD undef) 1 0 := ⟨Try.t36, (by kernel_rfl), rfl, rfl, rfl⟩
theorem tu37 : TU Try.prog 37 Try.t37.desc := ⟨Try.underlying37⟩
theorem ti37 : TI Try.prog 37 (Try.t37.zero.getD undef) 1 8 := ⟨Try.t37, (by kernel_rfl), rfl, rfl, rfl⟩
theorem tu38 : TU Try.prog 38 Try.t38.desc := ⟨Try.underlying38⟩
theorem ti38 : TI Try.prog 38 (Try.t38.zero.getD undef) 1 8 := ⟨Try.t38, (by kernel_rfl), rfl, rfl, rfl⟩
theorem tu39 : TU Try.prog 39 Try.t39.desc := ⟨Try.underlying39⟩
theorem ti39 : TI Try.prog 39 (Try.t39.zero.getD undef) 1 8 := ⟨Try.t39, (by kernel_rfl), rfl, rfl, rfl⟩
theorem tu40 : TU Try.prog 40 Try.t40.desc := ⟨Try.underlying40⟩
theorem ti40 : TI Try.prog 40 (Try.t40.zero.getD undef) 4 32 := ⟨Try.t40, (by kernel_rfl), rfl, rfl, rfl⟩
theorem tu41 : TU Try.prog 41 Try.t40.desc := ⟨Try.underlying41⟩
theorem ti41 : TI Try.prog 41 (Try.t41.zero.getD undef) 4 32 := ⟨Try.t41, (by kernel_rfl), rfl, rfl, rfl⟩
theorem tu42 : TU Try.prog 42 Try.t42.desc := ⟨Try.underlying42⟩
theorem ti42 : TI Try.prog 42 (Try.t42.zero.getD undef) 1 0 := ⟨Try.t42, (by kernel_rfl), rfl, rfl, rfl⟩
theorem tu43 : TU Try.prog 43 Try.t43.desc := ⟨Try.underlying43⟩
theorem ti43 : TI Try.prog 43 (Try.t43.zero.getD undef) 1 8 := ⟨Try.t43, (by kernel_rfl), rfl, rfl, rfl⟩
theorem tu44 : TU Try.prog 44 Try.t44.desc := ⟨Try.underlying44⟩
theorem ti44 : TI Try.prog 44 (Try.t44.zero.getD undef) 1 8 := ⟨Try.t44, (by kernel_rfl), rfl, rfl, rfl⟩
theorem tu45 : TU Try.prog 45 Try.t45.desc := ⟨Try.underlying45⟩
theorem ti45 : TI Try.prog 45 (Try.t45.zero.getD undef) 1 8 := ⟨Try.t45, (by kernel_rfl), rfl, rfl, rfl⟩
theorem tu46 : TU Try.prog 46 Try.t46.desc := ⟨Try.underlying46⟩
theorem ti46 : TI Try.prog 46 (Try.t46.zero.getD undef) 1 0 := ⟨Try.t46, (by kernel_rfl), rfl, rfl, rfl⟩
theorem tu47 : TU Try.prog 47 Try.t47.desc := ⟨Try.underlying47⟩
theorem ti47 : TI Try.prog 47 (Try.t47.zero.getD undef) 1 8 := ⟨Try.t47, (by kernel_rfl), rfl, rfl, rfl⟩
theorem tu48 : TU Try.prog 48 Try.t48.desc := ⟨Try.underlying48⟩
theorem ti48 : TI Try.prog 48 (Try.t48.zero.getD undef) 1 8 := ⟨Try.t48, (by kernel_rfl), rfl, rfl, rfl⟩
theorem tu49 : TU Try.prog 49 Try.t49.desc := ⟨Try.underlying49⟩
theorem ti49 : TI Try.prog 49 (Try.t49.zero.getD undef) 1 24 := ⟨Try.t49, (by kernel_rfl), rfl, rfl, rfl⟩
theorem tu50 : TU Try.prog 50 Try.t50.desc := ⟨Try.underlying50⟩
theorem ti50 : TI Try.prog 50 (Try.t50.zero.getD undef) 1 24 := ⟨Try.t50, (by kernel_rfl), rfl, rfl, rfl⟩
theorem tu51 : TU Try.prog 51 Try.t51.desc := ⟨Try.underlying51⟩
theorem ti51 : TI Try.prog 51 (Try.t51.zero.getD undef) 1 8 := ⟨Try.t51, (by kernel_rfl), rfl, rfl, rfl⟩
theorem tu52 : TU Try.prog 52 Try.t52.desc := ⟨Try.underlying52⟩
theorem ti52 : TI Try.prog 52 (Try.t52.zero.getD undef) 1 8 := ⟨Try.t52, (by kernel_rfl), rfl, rfl, rfl⟩
theorem tu53 : TU Try.prog 53 Try.t53.desc := ⟨Try.underlying53⟩
theorem ti53 : TI Try.prog 53 (Try.t53.zero.getD undef) 1 8 := ⟨Try.t53, (by kernel_rfl), rfl, rfl, rfl⟩
theorem tu54 : TU Try.prog 54 Try.t54.desc := ⟨Try.underlying54⟩
theorem ti54 : TI Try.prog 54 (Try.t54.zero.getD undef) 1 8 := ⟨Try.t54, (by kernel_rfl), rfl, rfl, rfl⟩
theorem tu55 : TU Try.prog 55 Try.t55.desc := ⟨Try.underlying55⟩
theorem ti55 : TI Try.prog 55 (Try.t55.zero.getD undef) 1 24 := ⟨Try.t55, (by kernel_rfl), rfl, rfl, rfl⟩
theorem tu56 : TU Try.prog 56 Try.t56.desc := ⟨Try.underlying56⟩
theorem ti56 : TI Try.prog 56 (Try.t56.zero.getD undef) 1 8 := ⟨Try.t56, (by kernel_rfl), rfl, rfl, rfl⟩
theorem tu57 : TU Try.prog 57 Try.t57.desc := ⟨Try.underlying57⟩
theorem ti57 : TI Try.prog 57 (Try.t57.zero.getD undef) 1 8 := ⟨Try.t57, (by kernel_rfl), rfl, rfl, rfl⟩
theorem tu58 : TU Try.prog 58 Try.t58.desc := ⟨Try.underlying58⟩
theorem ti58 : TI Try.prog 58 (Try.t58.zero.getD undef) 5 40 := ⟨Try.t58, (by kernel_rfl), rfl, rfl, rfl⟩
theorem tu59 : TU Try.prog 59 Try.t58.desc := ⟨Try.underlying59⟩
theorem ti59 : TI Try.prog 59 (Try.t59.zero.getD undef) 5 40 := ⟨Try.t59, (by kernel_rfl), rfl, rfl, rfl⟩
theorem tu60 : TU Try.prog 60 Try.t60.desc := ⟨Try.underlying60⟩
theorem ti60 : TI Try.prog 60 (Try.t60.zero.getD undef) 10 72 := ⟨Try.t60, (by kernel_rfl), rfl, rfl, rfl⟩
theorem tu61 : TU Try.prog 61 Try.t60.desc := ⟨Try.underlying61⟩
theorem ti61 : TI Try.prog 61 (Try.t61.zero.getD undef) 10 72 := ⟨Try.t61, (by kernel_rfl), rfl, rfl, rfl⟩
theorem tu62 : TU Try.prog 62 Try.t62.desc := ⟨Try.underlying62⟩
theorem ti62 : TI Try.prog 62 (Try.t62.zero.getD undef) 1 8 := ⟨Try.t62, (by kernel_rfl), rfl, rfl, rfl⟩
theorem tu63 : TU Try.prog 63 Try.t63.desc := ⟨Try.underlying63⟩
theorem ti63 : TI Try.prog 63 (Try.t63.zero.getD undef) 1 0 := ⟨Try.t63, (by kernel_rfl), rfl, rfl, rfl⟩
theorem tu64 : TU Try.prog 64 Try.t64.desc := ⟨Try.underlying64⟩
theorem ti64 : TI Try.prog 64 (Try.t64.zero.getD undef) 1 8 := ⟨Try.t64, (by kernel_rfl), rfl, rfl, rfl⟩
theorem tu65 : TU Try.prog 65 Try.t65.desc := ⟨Try.underlying65⟩
theorem ti65 : TI Try.prog 65 (Try.t65.zero.getD undef) 1 8 := ⟨Try.t65, (by kernel_rfl), rfl, rfl, rfl⟩
theorem tu66 : TU Try.prog 66 Try.t66.desc := ⟨Try.underlying66⟩
theorem ti66 : TI Try.prog 66 (Try.t66.zero.getD undef) 8 64 := ⟨Try.t66, (by kernel_rfl), rfl, rfl, rfl⟩
theorem tu67 : TU Try.prog 67 Try.t66.desc := ⟨Try.underlying67⟩
theorem ti67 : TI Try.prog 67 (Try.t67.zero.getD undef) 8 64 := ⟨Try.t67, (by kernel_rfl), rfl, rfl, rfl⟩
theorem tu68 : TU Try.prog 68 Try.t68.desc := ⟨Try.underlying68⟩
theorem ti68 : TI Try.prog 68 (Try.t68.zero.getD undef) 1 8 := ⟨Try.t68, (by kernel_rfl), rfl, rfl, rfl⟩
theorem tu69 : TU Try.prog 69 Try.t69.desc := ⟨Try.underlying69⟩
theorem ti69 : TI Try.prog 69 (Try.t69.zero.getD undef) 1 8 := ⟨Try.t69, (by kernel_rfl), rfl, rfl, rfl⟩
theorem tu70 : TU Try.prog 70 Try.t70.desc := ⟨Try.underlying70⟩
theorem tk70 : TK Try.prog 70 (fun n : Int => Value.int .u16 n) := tk_int (h := ⟨Try.underlying70⟩)
theorem ti70 : TI Try.prog 70 (Try.t70.zero.getD undef) 1 2 := ⟨Try.t70, (by kernel_rfl), rfl, rfl, rfl⟩
theorem tu71 : TU Try.prog 71 Try.t71.desc := ⟨Try.underlying71⟩
theorem ti71 : TI Try.prog 71 (Try.t71.zero.getD undef) 1 8 := ⟨Try.t71, (by kernel_rfl), rfl, rfl, rfl⟩
theorem tu72 : TU Try.prog 72 Try.t72.desc := ⟨Try.underlying72⟩
theorem ti72 : TI Try.prog 72 (Try.t72.zero.getD undef) 1 0 := ⟨Try.t72, (by kernel_rfl), rfl, rfl, rfl⟩
theorem tu73 : TU Try.prog 73 Try.t73.desc := ⟨Try.underlying73⟩
theorem ti73 : TI Try.prog 73 (Try.t73.zero.getD undef) 1 8 := ⟨Try.t73, (by kernel_rfl), rfl, rfl, rfl⟩
theorem tu74 : TU Try.prog 74 Try.t74.desc := ⟨Try.underlying74⟩
theorem ti74 : TI Try.prog 74 (Try.t74.zero.getD undef) 1 8 := ⟨Try.t74, (by kernel_rfl), rfl, rfl, rfl⟩
theorem tu75 : TU Try.prog 75 Try.t75.desc := ⟨Try.underlying75⟩
theorem ti75 : TI Try.prog 75 (Try.t75.zero.getD undef) 1 8 := ⟨Try.t75, (by kernel_rfl), rfl, rfl, rfl⟩
theorem tu76 : TU Try.prog 76 Try.t76.desc := ⟨Try.underlying76⟩
theorem ti76 : TI Try.prog 76 (Try.t76.zero.getD undef) 1 8 := ⟨Try.t76, (by kernel_rfl), rfl, rfl, rfl⟩
theorem tu77 : TU Try.prog 77 Try.t77.desc := ⟨Try.underlying77⟩
theorem ti77 : TI Try.prog 77 (Try.t77.zero.getD undef) 1 24 := ⟨Try.t77, (by kernel_rfl), rfl, rfl, rfl⟩
theorem tu78 : TU Try.prog 78 Try.t78.desc := ⟨Try.underlying78⟩
theorem ti78 : TI Try.prog 78 (Try.t78.zero.getD undef) 1 8 := ⟨Try.t78, (by kernel_rfl), rfl, rfl, rfl⟩
theorem tu79 : TU Try.prog 79 Try.t79.desc := ⟨Try.underlying79⟩
theorem ti79 : TI Try.prog 79 (Try.t79.zero.getD undef) 1 24 := ⟨Try.t79, (by kernel_rfl), rfl, rfl, rfl⟩
theorem tu80 : TU Try.prog 80 Try.t80.desc := ⟨Try.underlying80⟩
theorem ti80 : TI Try.prog 80 (Try.t80.zero.getD undef) 1 24 := ⟨Try.t80, (by kernel_rfl), rfl, rfl, rfl⟩
theorem tu81 : TU Try.prog 81 Try.t81.desc := ⟨Try.underlying81⟩
theorem ti81 : TI Try.prog 81 (Try.t81.zero.getD undef) 1 24 := ⟨Try.t81, (by kernel_rfl), rfl, rfl, rfl⟩
theorem tu82 : TU Try.prog 82 Try.t82.desc := ⟨Try.underlying82⟩
theorem ti82 : TI Try.prog 82 (Try.t82.zero.getD undef) 1 0 := ⟨Try.t82, (by kernel_rfl), rfl, rfl, rfl⟩
theorem tu83 : TU Try.prog 83 Try.t83.desc := ⟨Try.underlying83⟩
theorem ti83 : TI Try.prog 83 (Try.t83.zero.getD undef) 1 8 := ⟨Try.t83, (by kernel_rfl), rfl, rfl, rfl⟩
theorem tu84 : TU Try.prog 84 Try.t84.desc := ⟨Try.underlying84⟩
theorem ti84 : TI Try.prog 84 (Try.t84.zero.getD undef) 1 8 := ⟨Try.t84, (by kernel_rfl), rfl, rfl, rfl⟩
theorem tu85 : TU Try.prog 85 Try.t85.desc := ⟨Try.underlying85⟩
theorem ti85 : TI Try.prog 85 (Try.t85.zero.getD undef) 1 8 := ⟨Try.t85, (by kernel_rfl), rfl, rfl, rfl⟩
theorem tu86 : TU Try.prog 86 Try.t86.desc := ⟨Try.underlying86⟩
theorem ti86 : TI Try.prog 86 (Try.t86.zero.getD undef) 1 8 := ⟨Try.t86, (by kernel_rfl), rfl, rfl, rfl⟩
theorem tu87 : TU Try.prog 87 Try.t87.desc := ⟨Try.underlying87⟩
theorem ti87 : TI Try.prog 87 (Try.t87.zero.getD undef) 1 0 := ⟨Try.t87, (by kernel_rfl), rfl, rfl, rfl⟩
theorem tu88 : TU Try.prog 88 Try.t88.desc := ⟨Try.underlying88⟩
theorem ti88 : TI Try.prog 88 (Try.t88.zero.getD undef) 1 8 := ⟨Try.t88, (by kernel_rfl), rfl, rfl, rfl⟩
theorem tu89 : TU Try.prog 89 Try.t89.desc := ⟨Try.underlying89⟩
theorem ti89 : TI Try.prog 89 (Try.t89.zero.getD undef) 1 8 := ⟨Try.t89, (by kernel_rfl), rfl, rfl, rfl⟩
theorem tu90 : TU Try.prog 90 Try.t90.desc := ⟨Try.underlying90⟩
theorem ti90 : TI Try.prog 90 (Try.t90.zero.getD undef) 1 8 := ⟨Try.t90, (by kernel_rfl), rfl, rfl, rfl⟩
theorem tu91 : TU Try.prog 91 Try.t91.desc := ⟨Try.underlying91⟩
theorem ti91 : TI Try.prog 91 (Try.t91.zero.getD undef) 1 8 := ⟨Try.t91, (by kernel_rfl), rfl, rfl, rfl⟩
theorem tu92 : TU Try.prog 92 Try.t92.desc := ⟨Try.underlying92⟩
theorem ti92 : TI Try.prog 92 (Try.t92.zero.getD undef) 1 8 := ⟨Try.t92, (by kernel_rfl), rfl, rfl, rfl⟩
theorem tu93 : TU Try.prog 93 Try.t93.desc := ⟨Try.underlying93⟩
theorem ti93 : TI Try.prog 93 (Try.t93.zero.getD undef) 1 8 := ⟨Try.t93, (by kernel_rfl), rfl, rfl, rfl⟩
theorem tu94 : TU Try.prog 94 Try.t94.desc := ⟨Try.underlying94⟩
theorem ti94 : TI Try.prog 94 (Try.t94.zero.getD undef) 1 8 := ⟨Try.t94, (by kernel_rfl), rfl, rfl, rfl⟩
theorem tu95 : TU Try.prog 95 Try.t95.desc := ⟨Try.underlying95⟩
theorem ti95 : TI Try.prog 95 (Try.t95.zero.getD undef) 3 24 := ⟨Try.t95, (by kernel_rfl), rfl, rfl, rfl⟩
theorem tu96 : TU Try.prog 96 Try.t95.desc := ⟨Try.underlying96⟩
theorem ti96 : TI Try.prog 96 (Try.t96.zero.getD undef) 3 24 := ⟨Try.t96, (by kernel_rfl), rfl, rfl, rfl⟩
theorem tu97 : TU Try.prog 97 Try.t97.desc := ⟨Try.underlying97⟩
theorem ti97 : TI Try.prog 97 (Try.t97.zero.getD undef) 4 48 := ⟨Try.t97, (by kernel_rfl), rfl, rfl, rfl⟩
theorem tu98 : TU Try.prog 98 Try.t97.desc := ⟨Try.underlying98⟩
theorem ti98 : TI Try.prog 98 (Try.t98.zero.getD undef) 4 48 := ⟨Try.t98, (by kernel_rfl), rfl, rfl, rfl⟩
theorem tu99 : TU Try.prog 99 Try.t99.desc := ⟨Try.underlying99⟩
theorem ti99 : TI Try.prog 99 (Try.t99.zero.getD undef) 1 8 := ⟨Try.t99, (by kernel_rfl), rfl, rfl, rfl⟩
theorem tu100 : TU Try.prog 100 Try.t100.desc := ⟨Try.underlying100⟩
theorem ti100 : TI Try.prog 100 (Try.t100.zero.getD undef) 1 8 := ⟨Try.t100, (by kernel_rfl), rfl, rfl, rfl⟩
theorem tu101 : TU Try.prog 101 Try.t101.desc := ⟨Try.underlying101⟩
theorem ti101 : TI Try.prog 101 (Try.t101.zero.getD undef) 1 8 := ⟨Try.t101, (by kernel_rfl), rfl, rfl, rfl⟩
theorem tu102 : TU Try.prog 102 Try.t102.desc := ⟨Try.underlying102⟩
theorem ti102 : TI Try.prog 102 (Try.t102.zero.getD undef) 1 8 := ⟨Try.t102, (by kernel_rfl), rfl, rfl, rfl⟩
theorem tu103 : TU Try.prog 103 Try.t103.desc := ⟨Try.underlying103⟩
theorem ti103 : TI Try.prog 103 (Try.t103.zero.getD undef) 1 0 := ⟨Try.t103, (by kernel_rfl), rfl, rfl, rfl⟩
theorem tu104 : TU Try.prog 104 Try.t104.desc := ⟨Try.underlying104⟩
theorem ti104 : TI Try.prog 104 (Try.t104.zero.getD undef) 1 8 := ⟨Try.t104, (by kernel_rfl), rfl, rfl, rfl⟩
theorem tu105 : TU Try.prog 105 Try.t105.desc := ⟨Try.underlying105⟩
theorem ti105 : TI Try.prog 105 (Try.t105.zero.getD undef) 1 8 := ⟨Try.t105, (by kernel_rfl), rfl, rfl, rfl⟩
theorem tu106 : TU Try.prog 106 Try.t106.desc := ⟨Try.underlying106⟩
theorem ti106 : TI Try.prog 106 (Try.t106.zero.getD undef) 1 8 := ⟨Try.t106, (by kernel_rfl), rfl, rfl, rfl⟩
theorem tu107 : TU Try.prog 107 Try.t107.desc := ⟨Try.underlying107⟩
theorem ti107 : TI Try.prog 107 (Try.t107.zero.getD undef) 1 8 := ⟨Try.t107, (by kernel_rfl), rfl, rfl, rfl⟩
theorem tu108 : TU Try.prog 108 Try.t108.desc := ⟨Try.underlying108⟩
theorem ti108 : TI Try.prog 108 (Try.t108.zero.getD undef) 2 16 := ⟨Try.t108, (by kernel_rfl), rfl, rfl, rfl⟩
theorem tu109 : TU Try.prog 109 Try.t108.desc := ⟨Try.underlying109⟩
theorem ti109 : TI Try.prog 109 (Try.t109.zero.getD undef) 2 16 := ⟨Try.t109, (by kernel_rfl), rfl, rfl, rfl⟩
theorem tu110 : TU Try.prog 110 Try.t110.desc := ⟨Try.underlying110⟩
theorem ti110 : TI Try.prog 110 (Try.t110.zero.getD undef) 2 16 := ⟨Try.t110, (by kernel_rfl), rfl, rfl, rfl⟩
theorem tu111 : TU Try.prog 111 Try.t111.desc := ⟨Try.underlying111⟩
theorem ti111 : TI Try.prog 111 (Try.t111.zero.getD undef) 1 24 := ⟨Try.t111, (by kernel_rfl), rfl, rfl, rfl⟩
theorem tu112 : TU Try.prog 112 Try.t112.desc := ⟨Try.underlying112⟩
theorem ti112 : TI Try.prog 112 (Try.t112.zero.getD undef) 6 64 := ⟨Try.t112, (by kernel_rfl), rfl, rfl, rfl⟩
theorem tu113 : TU Try.prog 113 Try.t112.desc := ⟨Try.underlying113⟩
theorem ti113 : TI Try.prog 113 (Try.t113.zero.getD undef) 6 64 := ⟨Try.t113, (by kernel_rfl), rfl, rfl, rfl⟩
theorem tu114 : TU Try.prog 114 Try.t114.desc := ⟨Try.underlying114⟩
theorem ti114 : TI Try.prog 114 (Try.t114.zero.getD undef) 1 8 := ⟨Try.t114, (by kernel_rfl), rfl, rfl, rfl⟩
theorem tu115 : TU Try.prog 115 Try.t115.desc := ⟨Try.underlying115⟩
theorem ti115 : TI Try.prog 115 (Try.t115.zero.getD undef) 1 8 := ⟨Try.t115, (by kernel_rfl), rfl, rfl, rfl⟩
theorem tu116 : TU Try.prog 116 Try.t116.desc := ⟨Try.underlying116⟩
theorem ti116 : TI Try.prog 116 (Try.t116.zero.getD undef) 2 16 := ⟨Try.t116, (by kernel_rfl), rfl, rfl, rfl⟩
theorem tu117 : TU Try.prog 117 Try.t116.desc := ⟨Try.underlying117⟩
theorem ti117 : TI Try.prog 117 (Try.t117.zero.getD undef) 2 16 := ⟨Try.t117, (by kernel_rfl), rfl, rfl, rfl⟩
theorem tu118 : TU Try.prog 118 Try.t118.desc := ⟨Try.underlying118⟩
theorem ti118 : TI Try.prog 118 (Try.t118.zero.getD undef) 3 24 := ⟨Try.t118, (by kernel_rfl), rfl, rfl, rfl⟩
theorem tu119 : TU Try.prog 119 Try.t118.desc := ⟨Try.underlying119⟩
theorem ti119 : TI Try.prog 119 (Try.t119.zero.getD undef) 3 24 := ⟨Try.t119, (by kernel_rfl), rfl, rfl, rfl⟩
theorem tu120 : TU Try.prog 120 Try.t120.desc := ⟨Try.underlying120⟩
theorem ti120 : TI Try.prog 120 (Try.t120.zero.getD undef) 1 8 := ⟨Try.t120, (by kernel_rfl), rfl, rfl, rfl⟩
theorem tu121 : TU Try.prog 121 Try.t121.desc := ⟨Try.underlying121⟩
theorem ti121 : TI Try.prog 121 (Try.t121.zero.getD undef) 1 8 := ⟨Try.t121, (by kernel_rfl), rfl, rfl, rfl⟩
theorem tu122 : TU Try.prog 122 Try.t122.desc := ⟨Try.underlying122⟩
theorem ti122 : TI Try.prog 122 (Try.t122.zero.getD undef) 1 0 := ⟨Try.t122, (by kernel_rfl), rfl, rfl, rfl⟩
theorem tu123 : TU Try.prog 123 Try.t123.desc := ⟨Try.underlying123⟩
theorem ti123 : TI Try.prog 123 (Try.t123.zero.getD undef) 1 8 := ⟨Try.t123, (by kernel_rfl), rfl, rfl, rfl⟩
theorem tu124 : TU Try.prog 124 Try.t124.desc := ⟨Try.underlying124⟩
theorem ti124 : TI Try.prog 124 (Try.t124.zero.getD undef) 1 8 := ⟨Try.t124, (by kernel_rfl), rfl, rfl, rfl⟩
theorem tu125 : TU Try.prog 125 Try.t125.desc := ⟨Try.underlying125⟩
theorem ti125 : TI Try.prog 125 (Try.t125.zero.getD undef) 1 8 := ⟨Try.t125, (by kernel_rfl), rfl, rfl, rfl⟩
theorem tu126 : TU Try.prog 126 Try.t126.desc := ⟨Try.underlying126⟩
theorem ti126 : TI Try.prog 126 (Try.t126.zero.getD undef) 1 8 := ⟨Try.t126, (by kernel_rfl), rfl, rfl, rfl⟩
theorem tu127 : TU Try.prog 127 Try.t127.desc := ⟨Try.underlying127⟩
theorem tk127 : TK Try.prog 127 (fun n : Int => Value.int .u64 n) := tk_int (h := ⟨Try.underlying127⟩)
theorem ti127 : TI Try.prog 127 (Try.t127.zero.getD undef) 1 8 := ⟨Try.t127, (by kernel_rfl), rfl, rfl, rfl⟩
theorem tu128 : TU Try.prog 128 Try.t128.desc := ⟨Try.underlying128⟩
theorem ti128 : TI Try.prog 128 (Try.t128.zero.getD undef) 1 0 := ⟨Try.t128, (by kernel_rfl), rfl, rfl, rfl⟩
theorem tu129 : TU Try.prog 129 Try.t129.desc := ⟨Try.underlying129⟩
theorem ti129 : TI Try.prog 129 (Try.t129.zero.getD undef) 1 8 := ⟨Try.t129, (by kernel_rfl), rfl, rfl, rfl⟩
theorem tu130 : TU Try.prog 130 Try.t130.desc := ⟨Try.underlying130⟩
theorem ti130 : TI Try.prog 130 (Try.t130.zero.getD undef) 1 8 := ⟨Try.t130, (by kernel_rfl), rfl, rfl, rfl⟩
theorem tu131 : TU Try.prog 131 Try.t131.desc := ⟨Try.underlying131⟩
theorem ti131 : TI Try.prog 131 (Try.t131.zero.getD undef) 1 8 := ⟨Try.t131, (by kernel_rfl), rfl, rfl, rfl⟩
theorem tu132 : TU Try.prog 132 Try.t132.desc := ⟨Try.underlying132⟩
theorem ti132 : TI Try.prog 132 (Try.t132.zero.getD undef) 1 8 := ⟨Try.t132, (by kernel_rfl), rfl, rfl, rfl⟩
theorem tu133 : TU Try.prog 133 Try.t133.desc := ⟨Try.underlying133⟩
theorem ti133 : TI Try.prog 133 (Try.t133.zero.getD undef) 3 24 := ⟨Try.t133, (by kernel_rfl), rfl, rfl, rfl⟩
theorem tu134 : TU Try.prog 134 Try.t133.desc := ⟨Try.underlying134⟩
theorem ti134 : TI Try.prog 134 (Try.t134.zero.getD undef) 3 24 := ⟨Try.t134, (by kernel_rfl), rfl, rfl, rfl⟩
theorem tu135 : TU Try.prog 135 Try.t135.desc := ⟨Try.underlying135⟩
theorem ti135 : TI Try.prog 135 (Try.t135.zero.getD undef) 1 8 := ⟨Try.t135, (by kernel_rfl), rfl, rfl, rfl⟩
theorem tu136 : TU Try.prog 136 Try.t136.desc := ⟨Try.underlying136⟩
theorem ti136 : TI Try.prog 136 (Try.t136.zero.getD undef) 1 8 := ⟨Try.t136, (by kernel_rfl), rfl, rfl, rfl⟩
theorem tu137 : TU Try.prog 137 Try.t137.desc := ⟨Try.underlying137⟩
theorem ti137 : TI Try.prog 137 (Try.t137.zero.getD undef) 1 8 := ⟨Try.t137, (by kernel_rfl), rfl, rfl, rfl⟩
theorem tu138 : TU Try.prog 138 Try.t138.desc := ⟨Try.underlying138⟩
theorem ti138 : TI Try.prog 138 (Try.t138.zero.getD undef) 3 40 := ⟨Try.t138, (by kernel_rfl), rfl, rfl, rfl⟩
theorem tu139 : TU Try.prog 139 Try.t138.desc := ⟨Try.underlying139⟩
theorem ti139 : TI Try.prog 139 (Try.t139.zero.getD undef) 3 40 := ⟨Try.t139, (by kernel_rfl), rfl, rfl, rfl⟩
theorem tu140 : TU Try.prog 140 Try.t140.desc := ⟨Try.underlying140⟩
theorem ti140 : TI Try.prog 140 (Try.t140.zero.getD undef) 4 32 := ⟨Try.t140, (by kernel_rfl), rfl, rfl, rfl⟩
theorem tu141 : TU Try.prog 141 Try.t141.desc := ⟨Try.underlying141⟩
theorem ti141 : TI Try.prog 141 (Try.t141.zero.getD undef) 5 40 := ⟨Try.t141, (by kernel_rfl), rfl, rfl, rfl⟩
theorem tu142 : TU Try.prog 142 Try.t141.desc := ⟨Try.underlying142⟩
theorem ti142 : TI Try.prog 142 (Try.t142.zero.getD undef) 5 40 := ⟨Try.t142, (by kernel_rfl), rfl, rfl, rfl⟩
theorem tu143 : TU Try.prog 143 Try.t143.desc := ⟨Try.underlying143⟩
theorem ti143 : TI Try.prog 143 (Try.t143.zero.getD undef) 35 280 := ⟨Try.t143, (by kernel_rfl), rfl, rfl, rfl⟩
theorem tu144 : TU Try.prog 144 Try.t144.desc := ⟨Try.underlying144⟩
theorem ti144 : TI Try.prog 144 (Try.t144.zero.getD undef) 35 280 := ⟨Try.t144, (by kernel_rfl), rfl, rfl, rfl⟩
theorem tu145 : TU Try.prog 145 Try.t144.desc := ⟨Try.underlying145⟩
theorem ti145 : TI Try.prog 145 (Try.t145.zero.getD undef) 35 280 := ⟨Try.t145, (by kernel_rfl), rfl, rfl, rfl⟩
theorem tu146 : TU Try.prog 146 Try.t146.desc := ⟨Try.underlying146⟩
theorem ti146 : TI Try.prog 146 (Try.t146.zero.getD undef) 1 8 := ⟨Try.t146, (by kernel_rfl), rfl, rfl, rfl⟩
theorem tu147 : TU Try.prog 147 Try.t147.desc := ⟨Try.underlying147⟩
theorem ti147 : TI Try.prog 147 (Try.t147.zero.getD undef) 1 8 := ⟨Try.t147, (by kernel_rfl), rfl, rfl, rfl⟩
theorem tu148 : TU Try.prog 148 Try.t148.desc := ⟨Try.underlying148⟩
theorem ti148 : TI Try.prog 148 (Try.t148.zero.getD undef) 1 8 := ⟨Try.t148, (by kernel_rfl), rfl, rfl, rfl⟩
theorem tu149 : TU Try.prog 149 Try.t149.desc := ⟨Try.underlying149⟩
theorem ti149 : TI Try.prog 149 (Try.t149.zero.getD undef) 1 8 := ⟨Try.t149, (by kernel_rfl), rfl, rfl, rfl⟩
theorem tu150 : TU Try.prog 150 Try.t150.desc := ⟨Try.underlying150⟩
theorem ti150 : TI Try.prog 150 (Try.t150.zero.getD undef) 1 8 := ⟨Try.t150, (by kernel_rfl), rfl, rfl, rfl⟩
theorem tu151 : TU Try.prog 151 Try.t151.desc := ⟨Try.underlying151⟩
theorem ti151 : TI Try.prog 151 (Try.t151.zero.getD undef) 1 8 := ⟨Try.t151, (by kernel_rfl), rfl, rfl, rfl⟩
theorem tu152 : TU Try.prog 152 Try.t152.desc := ⟨Try.underlying152⟩
theorem ti152 : TI Try.prog 152 (Try.t152.zero.getD undef) 1 0 := ⟨Try.t152, (by kernel_rfl), rfl, rfl, rfl⟩
theorem tu153 : TU Try.prog 153 Try.t153.desc := ⟨Try.underlying153⟩
theorem ti153 : TI Try.prog 153 (Try.t153.zero.getD undef) 1 8 := ⟨Try.t153, (by kernel_rfl), rfl, rfl, rfl⟩
theorem tu154 : TU Try.prog 154 Try.t154.desc := ⟨Try.underlying154⟩
theorem ti154 : TI Try.prog 154 (Try.t154.zero.getD undef) 1 8 := ⟨Try.t154, (by kernel_rfl), rfl, rfl, rfl⟩
theorem tu155 : TU Try.prog 155 Try.t155.desc := ⟨Try.underlying155⟩
theorem ti155 : TI Try.prog 155 (Try.t155.zero.getD undef) 1 8 := ⟨Try.t155, (by kernel_rfl), rfl, rfl, rfl⟩
theorem tu156 : TU Try.prog 156 Try.t156.desc := ⟨Try.underlying156⟩
theorem ti156 : TI Try.prog 156 (Try.t156.zero.getD undef) 1 8 := ⟨Try.t156, (by kernel_rfl), rfl, rfl, rfl⟩
theorem tu157 : TU Try.prog 157 Try.t157.desc := ⟨Try.underlying157⟩
theorem ti157 : TI Try.prog 157 (Try.t157.zero.getD undef) 1 8 := ⟨Try.t157, (by kernel_rfl), rfl, rfl, rfl⟩
theorem tu158 : TU Try.prog 158 Try.t158.desc := ⟨Try.underlying158⟩
theorem ti158 : TI Try.prog 158 (Try.t158.zero.getD undef) 2 4 := ⟨Try.t158, (by kernel_rfl), rfl, rfl, rfl⟩
theorem tu159 : TU Try.prog 159 Try.t158.desc := ⟨Try.underlying159⟩
theorem ti159 : TI Try.prog 159 (Try.t159.zero.getD undef) 2 4 := ⟨Try.t159, (by kernel_rfl), rfl, rfl, rfl⟩
theorem tu160 : TU Try.prog 160 Try.t160.desc := ⟨Try.underlying160⟩
theorem ti160 : TI Try.prog 160 (Try.t160.zero.getD undef) 1 8 := ⟨Try.t160, (by kernel_rfl), rfl, rfl, rfl⟩
theorem tu161 : TU Try.prog 161 Try.t161.desc := ⟨Try.underlying161⟩
theorem ti161 : TI Try.prog 161 (Try.t161.zero.getD undef) 1 8 := ⟨Try.t161, (by kernel_rfl), rfl, rfl, rfl⟩
theorem tu162 : TU Try.prog 162 Try.t162.desc := ⟨Try.underlying162⟩
theorem ti162 : TI Try.prog 162 (Try.t162.zero.getD undef) 1 8 := ⟨Try.t162, (by kernel_rfl), rfl, rfl, rfl⟩
theorem tu163 : TU Try.prog 163 Try.t163.desc := ⟨Try.underlying163⟩
theorem ti163 : TI Try.prog 163 (Try.t163.zero.getD undef) 1 8 := ⟨Try.t163, (by kernel_rfl), rfl, rfl, rfl⟩
theorem tu164 : TU Try.prog 164 Try.t164.desc := ⟨Try.underlying164⟩
theorem ti164 : TI Try.prog 164 (Try.t164.zero.getD undef) 1 8 := ⟨Try.t164, (by kernel_rfl), rfl, rfl, rfl⟩
theorem tu165 : TU Try.prog 165 Try.t165.desc := ⟨Try.underlying165⟩
theorem ti165 : TI Try.prog 165 (Try.t165.zero.getD undef) 4096 4096 := ⟨Try.t165, (by kernel_rfl), rfl, rfl, rfl⟩
theorem tu166 : TU Try.prog 166 Try.t166.desc := ⟨Try.underlying166⟩
theorem ti166 : TI Try.prog 166 (Try.t166.zero.getD undef) 1 8 := ⟨Try.t166, (by kernel_rfl), rfl, rfl, rfl⟩
theorem tu167 : TU Try.prog 167 Try.t167.desc := ⟨Try.underlying167⟩
theorem ti167 : TI Try.prog 167 (Try.t167.zero.getD undef) 1 0 := ⟨Try.t167, (by kernel_rfl), rfl, rfl, rfl⟩
theorem tu168 : TU Try.prog 168 Try.t168.desc := ⟨Try.underlying168⟩
theorem ti168 : TI Try.prog 168 (Try.t168.zero.getD undef) 1 8 := ⟨Try.t168, (by kernel_rfl), rfl, rfl, rfl⟩
theorem tu169 : TU Try.prog 169 Try.t169.desc := ⟨Try.underlying169⟩
theorem ti169 : TI Try.prog 169 (Try.t169.zero.getD undef) 1 0 := ⟨Try.t169, (by kernel_rfl), rfl, rfl, rfl⟩
theorem tu170 : TU Try.prog 170 Try.t170.desc := ⟨Try.underlying170⟩
theorem ti170 : TI Try.prog 170 (Try.t170.zero.getD undef) 1 8 := ⟨Try.t170, (by kernel_rfl), rfl, rfl, rfl⟩
theorem tu171 : TU Try.prog 171 Try.t171.desc := ⟨Try.underlying171⟩
theorem ti171 : TI Try.prog 171 (Try.t171.zero.getD undef) 1 8 := ⟨Try.t171, (by kernel_rfl), rfl, rfl, rfl⟩
theorem tu172 : TU Try.prog 172 Try.t172.desc := ⟨Try.underlying172⟩
theorem ti172 : TI Try.prog 172 (Try.t172.zero.getD undef) 1 8 := ⟨Try.t172, (by kernel_rfl), rfl, rfl, rfl⟩
theorem tu173 : TU Try.prog 173 Try.t173.desc := ⟨Try.underlying173⟩
theorem ti173 : TI Try.prog 173 (Try.t173.zero.getD undef) 1 8 := ⟨Try.t173, (by kernel_rfl), rfl, rfl, rfl⟩
theorem tu174 : TU Try.prog 174 Try.t174.desc := ⟨Try.underlying174⟩
theorem ti174 : TI Try.prog 174 (Try.t174.zero.getD undef) 1 8 := ⟨Try.t174, (by kernel_rfl), rfl, rfl, rfl⟩
theorem tu175 : TU Try.prog 175 Try.t175.desc := ⟨Try.underlying175⟩
theorem ti175 : TI Try.prog 175 (Try.t175.zero.getD undef) 1 8 := ⟨Try.t175, (by kernel_rfl), rfl, rfl, rfl⟩
theorem tu176 : TU Try.prog 176 Try.t176.desc := ⟨Try.underlying176⟩
theorem ti176 : TI Try.prog 176 (Try.t176.zero.getD undef) 1 8 := ⟨Try.t176, (by kernel_rfl), rfl, rfl, rfl⟩
theorem tu177 : TU Try.prog 177 Try.t177.desc := ⟨Try.underlying177⟩
theorem ti177 : TI Try.prog 177 (Try.t177.zero.getD undef) 1 8 := ⟨Try.t177, (by kernel_rfl), rfl, rfl, rfl⟩
theorem tu178 : TU Try.prog 178 Try.t178.desc := ⟨Try.underlying178⟩
theorem ti178 : TI Try.prog 178 (Try.t178.zero.getD undef) 1 8 := ⟨Try.t178, (by kernel_rfl), rfl, rfl, rfl⟩
theorem tu179 : TU Try.prog 179 Try.t179.desc := ⟨Try.underlying179⟩
theorem ti179 : TI Try.prog 179 (Try.t179.zero.getD undef) 1 8 := ⟨Try.t179, (by kernel_rfl), rfl, rfl, rfl⟩
theorem tu180 : TU Try.prog 180 Try.t180.desc := ⟨Try.underlying180⟩
theorem ti180 : TI Try.prog 180 (Try.t180.zero.getD undef) 1 8 := ⟨Try.t180, (by kernel_rfl), rfl, rfl, rfl⟩
theorem tu181 : TU Try.prog 181 Try.t181.desc := ⟨Try.underlying181⟩
theorem ti181 : TI Try.prog 181 (Try.t181.zero.getD undef) 1 0 := ⟨Try.t181, (by kernel_rfl), rfl, rfl, rfl⟩
theorem tu182 : TU Try.prog 182 Try.t182.desc := ⟨Try.underlying182⟩
theorem ti182 : TI Try.prog 182 (Try.t182.zero.getD undef) 1 8 := ⟨Try.t182, (by kernel_rfl), rfl, rfl, rfl⟩
theorem tu183 : TU Try.prog 183 Try.t183.desc := ⟨Try.underlying183⟩
theorem ti183 : TI Try.prog 183 (Try.t183.zero.getD undef) 1 24 := ⟨Try.t183, (by kernel_rfl), rfl, rfl, rfl⟩
theorem tu184 : TU Try.prog 184 Try.t184.desc := ⟨Try.underlying184⟩
theorem ti184 : TI Try.prog 184 (Try.t184.zero.getD undef) 1 8 := ⟨Try.t184, (by kernel_rfl), rfl, rfl, rfl⟩
theorem tu185 : TU Try.prog 185 Try.t185.desc := ⟨Try.underlying185⟩
theorem ti185 : TI Try.prog 185 (Try.t185.zero.getD undef) 1 8 := ⟨Try.t185, (by kernel_rfl), rfl, rfl, rfl⟩
theorem tu186 : TU Try.prog 186 Try.t186.desc := ⟨Try.underlying186⟩
theorem ti186 : TI Try.prog 186 (Try.t186.zero.getD undef) 1 8 := ⟨Try.t186, (by kernel_rfl), rfl, rfl, rfl⟩
theorem tu187 : TU Try.prog 187 Try.t187.desc := ⟨Try.underlying187⟩
theorem ti187 : TI Try.prog 187 (Try.t187.zero.getD undef) 1 8 := ⟨Try.t187, (by kernel_rfl), rfl, rfl, rfl⟩
theorem tu188 : TU Try.prog 188 Try.t188.desc := ⟨Try.underlying188⟩
theorem ti188 : TI Try.prog 188 (Try.t188.zero.getD undef) 1 8 := ⟨Try.t188, (by kernel_rfl), rfl, rfl, rfl⟩
theorem tu189 : TU Try.prog 189 Try.t189.desc := ⟨Try.underlying189⟩
theorem ti189 : TI Try.prog 189 (Try.t189.zero.getD undef) 1 8 := ⟨Try.t189, (by kernel_rfl), rfl, rfl, rfl⟩
theorem tu190 : TU Try.prog 190 Try.t190.desc := ⟨Try.underlying190⟩
theorem ti190 : TI Try.prog 190 (Try.t190.zero.getD undef) 4 40 := ⟨Try.t190, (by kernel_rfl), rfl, rfl, rfl⟩
theorem tu191 : TU Try.prog 191 Try.t190.desc := ⟨Try.underlying191⟩
theorem ti191 : TI Try.prog 191 (Try.t191.zero.getD undef) 4 40 := ⟨Try.t191, (by kernel_rfl), rfl, rfl, rfl⟩
theorem tu192 : TU Try.prog 192 Try.t192.desc := ⟨Try.underlying192⟩
theorem ti192 : TI Try.prog 192 (Try.t192.zero.getD undef) 0 0 := ⟨Try.t192, (by kernel_rfl), rfl, rfl, rfl⟩
theorem tu193 : TU Try.prog 193 Try.t193.desc := ⟨Try.underlying193⟩
theorem ti193 : TI Try.prog 193 (Try.t193.zero.getD undef) 0 0 := ⟨Try.t193, (by kernel_rfl), rfl, rfl, rfl⟩
theorem tu194 : TU Try.prog 194 Try.t193.desc := ⟨Try.underlying194⟩
theorem ti194 : TI Try.prog 194 (Try.t194.zero.getD undef) 0 0 := ⟨Try.t194, (by kernel_rfl), rfl, rfl, rfl⟩
theorem tu195 : TU Try.prog 195 Try.t195.desc := ⟨Try.underlying195⟩
theorem tk195 : TK Try.prog 195 (fun n : Int => Value.int .u32 n) := tk_int (h := ⟨Try.underlying195⟩)
theorem ti195 : TI Try.prog 195 (Try.t195.zero.getD undef) 1 4 := ⟨Try.t195, (by kernel_rfl), rfl, rfl, rfl⟩
theorem tu196 : TU Try.prog 196 Try.t5.desc := ⟨Try.underlying196⟩
theorem tk196 : TK Try.prog 196 (fun n : Int => Value.int .u8 n) := tk_int (h := ⟨Try.underlying196⟩)
theorem ti196 : TI Try.prog 196 (Try.t196.zero.getD undef) 1 1 := ⟨Try.t196, (by kernel_rfl), rfl, rfl, rfl⟩
theorem tu197 : TU Try.prog 197 Try.t5.desc := ⟨Try.underlying197⟩
theorem tk197 : TK Try.prog 197 (fun n : Int => Value.int .u8 n) := tk_int (h := ⟨Try.underlying197⟩)
theorem ti197 : TI Try.prog 197 (Try.t197.zero.getD undef) 1 1 := ⟨Try.t197, (by kernel_rfl), rfl, rfl, rfl⟩
theorem tu198 : TU Try.prog 198 Try.t198.desc := ⟨Try.underlying198⟩
theorem ti198 : TI Try.prog 198 (Try.t198.zero.getD undef) 1 8 := ⟨Try.t198, (by kernel_rfl), rfl, rfl, rfl⟩
theorem tu199 : TU Try.prog 199 Try.t199.desc := ⟨Try.underlying199⟩
theorem ti199 : TI Try.prog 199 (Try.t199.zero.getD undef) 1 8 := ⟨Try.t199, (by kernel_rfl), rfl, rfl, rfl⟩
theorem tu200 : TU Try.prog 200 Try.t21.desc := ⟨Try.underlying200⟩
theorem tk200 : TK Try.prog 200 (fun n : Int => Value.int .i32 n) := tk_int (h := ⟨Try.underlying200⟩)
theorem ti200 : TI Try.prog 200 (Try.t200.zero.getD undef) 1 4 := ⟨Try.t200, (by kernel_rfl), rfl, rfl, rfl⟩
theorem tu201 : TU Try.prog 201 Try.t21.desc := ⟨Try.underlying201⟩
theorem tk201 : TK Try.prog 201 (fun n : Int => Value.int .i32 n) := tk_int (h := ⟨Try.underlying201⟩)
theorem ti201 : TI Try.prog 201 (Try.t201.zero.getD undef) 1 4 := ⟨Try.t201, (by kernel_rfl), rfl, rfl, rfl⟩
theorem tu202 : TU Try.prog 202 Try.t202.desc := ⟨Try.underlying202⟩
theorem ti202 : TI Try.prog 202 (Try.t202.zero.getD undef) 11 48 := ⟨Try.t202, (by kernel_rfl), rfl, rfl, rfl⟩
theorem tu203 : TU Try.prog 203 Try.t202.desc := ⟨Try.underlying203⟩
theorem ti203 : TI Try.prog 203 (Try.t203.zero.getD undef) 11 48 := ⟨Try.t203, (by kernel_rfl), rfl, rfl, rfl⟩
theorem tu204 : TU Try.prog 204 Try.t204.desc := ⟨Try.underlying204⟩
theorem ti204 : TI Try.prog 204 (Try.t204.zero.getD undef) 1 8 := ⟨Try.t204, (by kernel_rfl), rfl, rfl, rfl⟩
theorem en2 : IsEnt Try.prog 2 := ⟨Try.call2⟩
theorem en3 : IsEnt Try.prog 3 := ⟨Try.call3⟩
theorem en4 : IsEnt Try.prog 4 := ⟨Try.call4⟩
theorem en5 : IsEnt Try.prog 5 := ⟨Try.call5⟩
theorem en6 : IsEnt Try.prog 6 := ⟨Try.call6⟩
theorem en7 : IsEnt Try.prog 7 := ⟨Try.call7⟩
theorem en8 : IsEnt Try.prog 8 := ⟨Try.call8⟩
theorem en9 : IsEnt Try.prog 9 := ⟨Try.call9⟩
theorem en10 : IsEnt Try.prog 10 := ⟨Try.call10⟩
theorem en11 : IsEnt Try.prog 11 := ⟨Try.call11⟩
theorem en12 : IsEnt Try.prog 12 := ⟨Try.call12⟩
theorem en13 : IsEnt Try.prog 13 := ⟨Try.call13⟩
theorem en14 : IsEnt Try.prog 14 := ⟨Try.call14⟩
theorem en15 : IsEnt Try.prog 15 := ⟨Try.call15⟩
theorem en16 : IsEnt Try.prog 16 := ⟨Try.call16⟩
theorem en17 : IsEnt Try.prog 17 := ⟨Try.call17⟩
theorem en18 : IsEnt Try.prog 18 := ⟨Try.call18⟩
theorem en19 : IsEnt Try.prog 19 := ⟨Try.call19⟩
theorem en20 : IsEnt Try.prog 20 := ⟨Try.call20⟩
theorem en21 : IsEnt Try.prog 21 := ⟨Try.call21⟩
theorem en22 : IsEnt Try.prog 22 := ⟨Try.call22⟩
theorem en23 : IsEnt Try.prog 23 := ⟨Try.call23⟩
theorem en24 : IsEnt Try.prog 24 := ⟨Try.call24⟩
theorem en25 : IsEnt Try.prog 25 := ⟨Try.call25⟩
theorem en26 : IsEnt Try.prog 26 := ⟨Try.call26⟩
theorem en27 : IsEnt Try.prog 27 := ⟨Try.call27⟩
theorem en28 : IsEnt Try.prog 28 := ⟨Try.call28⟩
theorem en29 : IsEnt Try.prog 29 := ⟨Try.call29⟩
theorem en30 : IsEnt Try.prog 30 := ⟨Try.call30⟩
theorem en31 : IsEnt Try.prog 31 := ⟨Try.call31⟩
theorem en32 : IsEnt Try.prog 32 := ⟨Try.call32⟩
theorem en33 : IsEnt Try.prog 33 := ⟨Try.call33⟩
theorem en34 : IsEnt Try.prog 34 := ⟨Try.call34⟩
theorem en35 : IsEnt Try.prog 35 := ⟨Try.call35⟩
theorem en36 : IsEnt Try.prog 36 := ⟨Try.call36⟩
theorem en37 : IsEnt Try.prog 37 := ⟨Try.call37⟩
theorem en38 : IsEnt Try.prog 38 := ⟨Try.call38⟩
theorem en39 : IsEnt Try.prog 39 := ⟨Try.call39⟩
theorem en40 : IsEnt Try.prog 40 := ⟨Try.call40⟩
theorem en41 : IsEnt Try.prog 41 := ⟨Try.call41⟩
theorem en42 : IsEnt Try.prog 42 := ⟨Try.call42⟩
theorem en43 : IsEnt Try.prog 43 := ⟨Try.call43⟩
theorem en44 : IsEnt Try.prog 44 := ⟨Try.call44⟩
theorem en45 : IsEnt Try.prog 45 := ⟨Try.call45⟩
theorem en46 : IsEnt Try.prog 46 := ⟨Try.call46⟩
theorem en47 : IsEnt Try.prog 47 := ⟨Try.call47⟩
theorem en48 : IsEnt Try.prog 48 := ⟨Try.call48⟩
theorem en49 : IsEnt Try.prog 49 := ⟨Try.call49⟩
theorem en50 : IsEnt Try.prog 50 := ⟨Try.call50⟩
theorem en51 : IsEnt Try.prog 51 := ⟨Try.call51⟩
theorem en52 : IsEnt Try.prog 52 := ⟨Try.call52⟩
theorem en53 : IsEnt Try.prog 53 := ⟨Try.call53⟩
theorem en54 : IsEnt Try.prog 54 := ⟨Try.call54⟩
theorem en55 : IsEnt Try.prog 55 := ⟨Try.call55⟩
theorem en56 : IsEnt Try.prog 56 := ⟨Try.call56⟩
theorem en57 : IsEnt Try.prog 57 := ⟨Try.call57⟩
theorem en58 : IsEnt Try.prog 58 := ⟨Try.call58⟩
theorem en59 : IsEnt Try.prog 59 := ⟨Try.call59⟩
theorem en60 : IsEnt Try.prog 60 := ⟨Try.call60⟩
theorem en61 : IsEnt Try.prog 61 := ⟨Try.call61⟩
theorem en62 : IsEnt Try.prog 62 := ⟨Try.call62⟩
theorem en63 : IsEnt Try.prog 63 := ⟨Try.call63⟩
theorem en64 : IsEnt Try.prog 64 := ⟨Try.call64⟩
theorem en65 : IsEnt Try.prog 65 := ⟨Try.call65⟩
theorem en66 : IsEnt Try.prog 66 := ⟨Try.call66⟩
theorem en67 : IsEnt Try.prog 67 := ⟨Try.call67⟩
theorem en68 : IsEnt Try.prog 68 := ⟨Try.call68⟩
theorem en69 : IsEnt Try.prog 69 := ⟨Try.call69⟩
theorem en70 : IsEnt Try.prog 70 := ⟨Try.call70⟩
theorem en71 : IsEnt Try.prog 71 := ⟨Try.call71⟩
theorem en72 : IsEnt Try.prog 72 := ⟨Try.call72⟩
theorem en73 : IsEnt Try.prog 73 := ⟨Try.call73⟩
theorem en74 : IsEnt Try.prog 74 := ⟨Try.call74⟩
theorem en75 : IsEnt Try.prog 75 := ⟨Try.call75⟩
theorem en76 : IsEnt Try.prog 76 := ⟨Try.call76⟩
theorem en77 : IsEnt Try.prog 77 := ⟨Try.call77⟩
theorem en78 : IsEnt Try.prog 78 := ⟨Try.call78⟩
theorem en79 : IsEnt Try.prog 79 := ⟨Try.call79⟩
theorem en80 : IsEnt Try.prog 80 := ⟨Try.call80⟩
theorem en81 : IsEnt Try.prog 81 := ⟨Try.call81⟩
theorem en82 : IsEnt Try.prog 82 := ⟨Try.call82⟩
theorem en83 : IsEnt Try.prog 83 := ⟨Try.call83⟩
theorem en84 : IsEnt Try.prog 84 := ⟨Try.call84⟩
theorem en85 : IsEnt Try.prog 85 := ⟨Try.call85⟩
theorem en86 : IsEnt Try.prog 86 := ⟨Try.call86⟩
theorem en87 : IsEnt Try.prog 87 := ⟨Try.call87⟩
theorem en88 : IsEnt Try.prog 88 := ⟨Try.call88⟩
theorem en89 : IsEnt Try.prog 89 := ⟨Try.call89⟩
theorem en90 : IsEnt Try.prog 90 := ⟨Try.call90⟩
theorem en91 : IsEnt Try.prog 91 := ⟨Try.call91⟩
theorem en92 : IsEnt Try.prog 92 := ⟨Try.call92⟩
theorem en93 : IsEnt Try.prog 93 := ⟨Try.call93⟩
theorem en94 : IsEnt Try.prog 94 := ⟨Try.call94⟩
theorem en95 : IsEnt Try.prog 95 := ⟨Try.call95⟩
theorem en96 : IsEnt Try.prog 96 := ⟨Try.call96⟩
theorem en97 : IsEnt Try.prog 97 := ⟨Try.call97⟩
theorem en98 : IsEnt Try.prog 98 := ⟨Try.call98⟩
theorem en99 : IsEnt Try.prog 99 := ⟨Try.call99⟩
theorem en100 : IsEnt Try.prog 100 := ⟨Try.call100⟩
theorem en101 : IsEnt Try.prog 101 := ⟨Try.call101⟩
theorem en102 : IsEnt Try.prog 102 := ⟨Try.call102⟩
theorem en103 : IsEnt Try.prog 103 := ⟨Try.call103⟩
theorem en104 : IsEnt Try.prog 104 := ⟨Try.call104⟩
theorem en105 : IsEnt Try.prog 105 := ⟨Try.call105⟩
theorem en106 : IsEnt Try.prog 106 := ⟨Try.call106⟩
theorem en107 : IsEnt Try.prog 107 := ⟨Try.call107⟩
theorem en108 : IsEnt Try.prog 108 := ⟨Try.call108⟩
theorem en109 : IsEnt Try.prog 109 := ⟨Try.call109⟩
theorem en110 : IsEnt Try.prog 110 := ⟨Try.call110⟩
theorem en111 : IsEnt Try.prog 111 := ⟨Try.call111⟩
theorem en112 : IsEnt Try.prog 112 := ⟨Try.call112⟩
theorem en113 : IsEnt Try.prog 113 := ⟨Try.call113⟩
theorem en114 : IsEnt Try.prog 114 := ⟨Try.call114⟩
theorem en115 : IsEnt Try.prog 115 := ⟨Try.call115⟩
theorem mixed : Mixed Try.prog := ⟨(by kernel_rfl)⟩
attribute [instance] tu0 ti0 tu1 ti1 tu2 tk2 ti2 tu3 tk3 ti3 tu4 ti4 tu5 tk5 ti5 tu6 tk6 ti6 tu7 ti7 tu8 ti8 tu9 ti9 tu10 ti10 tu11 ti11 tu12 tk12 ti12 tu13 ti13 tu14 ti14 tu15 ti15 tu16 ti16 tu17 ti17 tu18 ti18 tu19 ti19 tu20 ti20 tu21 tk21 ti21 tu22 ti22 tu23 ti23 tu24 ti24 tu25 ti25 tu26 ti26 tu27 ti27 tu28 tk28 ti28 tu29 ti29 tu30 tk30 ti30 tu31 ti31 tu32 ti32 tu33 ti33 tu34 ti34 tu35 ti35 tu36 ti36 tu37 ti37 tu38 ti38 tu39 ti39 tu40 ti40 tu41 ti41 tu42 ti42 tu43 ti43 tu44 ti44 tu45 ti45 tu46 ti46 tu47 ti47 tu48 ti48 tu49 ti49 tu50 ti50 tu51 ti51 tu52 ti52 tu53 ti53 tu54 ti54 tu55 ti55 tu56 ti56 tu57 ti57 tu58 ti58 tu59 ti59 tu60 ti60 tu61 ti61 tu62 ti62 tu63 ti63 tu64 ti64 tu65 ti65 tu66 ti66 tu67 ti67 tu68 ti68 tu69 ti69 tu70 tk70 ti70 tu71 ti71 tu72 ti72 tu73 ti73 tu74 ti74 tu75 ti75 tu76 ti76 tu77 ti77 tu78 ti78 tu79 ti79 tu80 ti80 tu81 ti81 tu82 ti82 tu83 ti83 tu84 ti84 tu85 ti85 tu86 ti86 tu87 ti87 tu88 ti88 tu89 ti89 tu90 ti90 tu91 ti91 tu92 ti92 tu93 ti93 tu94 ti94 tu95 ti95 tu96 ti96 tu97 ti97 tu98 ti98 tu99 ti99 tu100 ti100 tu101 ti101 tu102 ti102 tu103 ti103 tu104 ti104 tu105 ti105 tu106 ti106 tu107 ti107 tu108 ti108 tu109 ti109 tu110 ti110 tu111 ti111 tu112 ti112 tu113 ti113 tu114 ti114 tu115 ti115 tu116 ti116 tu117 ti117 tu118 ti118 tu119 ti119 tu120 ti120 tu121 ti121 tu122 ti122 tu123 ti123 tu124 ti124 tu125 ti125 tu126 ti126 tu127 tk127 ti127 tu128 ti128 tu129 ti129 tu130 ti130 tu131 ti131 tu132 ti132 tu133 ti133 tu134 ti134 tu135 ti135 tu136 ti136 tu137 ti137 tu138 ti138 tu139 ti139 tu140 ti140 tu141 ti141 tu142 ti142 tu143 ti143 tu144 ti144 tu145 ti145 tu146 ti146 tu147 ti147 tu148 ti148 tu149 ti149 tu150 ti150 tu151 ti151 tu152 ti152 tu153 ti153 tu154 ti154 tu155 ti155 tu156 ti156 tu157 ti157 tu158 ti158 tu159 ti159 tu160 ti160 tu161 ti161 tu162 ti162 tu163 ti163 tu164 ti164 tu165 ti165 tu166 ti166 tu167 ti167 tu168 ti168 tu169 ti169 tu170 ti170 tu171 ti171 tu172 ti172 tu173 ti173 tu174 ti174 tu175 ti175 tu176 ti176 tu177 ti177 tu178 ti178 tu179 ti179 tu180 ti180 tu181 ti181 tu182 ti182 tu183 ti183 tu184 ti184 tu185 ti185 tu186 ti186 tu187 ti187 tu188 ti188 tu189 ti189 tu190 ti190 tu191 ti191 tu192 ti192 tu193 ti193 tu194 ti194 tu195 tk195 ti195 tu196 tk196 ti196 tu197 tk197 ti197 tu198 ti198 tu199 ti199 tu200 tk200 ti200 tu201 tk201 ti201 tu202 ti202 tu203 ti203 tu204 ti204 en2 en3 en4 en5 en6 en7 en8 en9 en10 en11 en12 en13 en14 en15 en16 en17 en18 en19 en20 en21 en22 en23 en24 en25 en26 en27 en28 en29 en30 en31 en32 en33 en34 en35 en36 en37 en38 en39 en40 en41 en42 en43 en44 en45 en46 en47 en48 en49 en50 en51 en52 en53 en54 en55 en56 en57 en58 en59 en60 en61 en62 en63 en64 en65 en66 en67 en68 en69 en70 en71 en72 en73 en74 en75 en76 en77 en78 en79 en80 en81 en82 en83 en84 en85 en86 en87 en88 en89 en90 en91 en92 en93 en94 en95 en96 en97 en98 en99 en100 en101 en102 en103 en104 en105 en106 en107 en108 en109 en110 en111 en112 en113 en114 en115 mixed
end Go.Proofs.Ytmndddegnfbaaaa.Sep
namespace Go.Proofs.Ytmndddegnfbaaaa.Sep
open Go.ChangeShapes Go.WideShapes Go.ChangeAt Go.RowKit Go.Deep
set_option linter.unusedSimpArgs false
set_option linter.unusedVariables false
/-! arguments that are slices of structs, which may hold structs -/
theorem WfR.length : ∀ {ks : List IntKind} {x : List Int}, WfR ks x → x.length = ks.length
  | [], x, h => by have : x = [] := h; subst this; rfl
  | k :: ks, n :: x, h => by simp [WfR.length h.2]
  | _ :: _, [], h => by cases h
theorem WfR.append : ∀ {k1 k2 : List IntKind} {x y : List Int}, WfR k1 x → WfR k2 y → WfR (k1 ++ k2) (x ++ y)
  | [], k2, x, y, h, h2 => by have : x = [] := h; subst this; exact h2
  | k :: ks, k2, n :: x, y, h, h2 => ⟨h.1, WfR.append h.2 h2⟩
  | _ :: _, _, [], _, h, _ => by cases h
theorem recCells_append : ∀ {k1 k2 : List IntKind} {x y : List Int}, x.length = k1.length → recCells (k1 ++ k2) (x ++ y) = recCells k1 x ++ recCells k2 y
  | [], k2, x, y, h => by have : x = [] := List.length_eq_zero_iff.1 h; subst this; rfl
  | k :: ks, k2, n :: x, y, h => by
    have := recCells_append (k2 := k2) (y := y) (show x.length = ks.length by simpa using h)
    simp only [List.cons_append, recCells, List.headD_cons, List.tail_cons, this]
  | _ :: _, _, [], _, h => by cases h
def FlatT (P : Program) (t : TypeId) (ks : List IntKind) : Prop :=
  P.cellsOf t = ks.length ∧ ∀ (H : Type) (enc : TypeId × Value → H) (W : World) (base : Nat) (sp : Nat → Bool) (held : Bool) (fuel : Nat) (cs : List Value) (x : DataW H × List MemPlace), DataW.trod enc P W base sp held fuel t cs = some x → ∃ y, WfR ks y ∧ cs = recCells ks y
def FlatFs (P : Program) : Nat → List Field → List (List IntKind) → Prop
  | _, [], [] => True
  | o, f :: fs, k :: ks => f.offset = o ∧ FlatT P f.type k ∧ FlatFs P (o + k.length) fs ks
  | _, _, _ => False
theorem flat_int {P : Program} {t : TypeId} {k : IntKind} (h : P.underlying t = some (.int k)) (hc : P.cellsOf t = 1) : FlatT P t [k] := by
  refine ⟨hc, fun H enc W base sp held fuel cs x ht => ?_⟩
  obtain ⟨n, rfl, _, hw⟩ := DataW.trod_int h ht
  exact ⟨[n], ⟨hw, rfl⟩, rfl⟩
theorem flat_fields {P : Program} {H : Type} {enc : TypeId × Value → H} {W : World} {base : Nat} {sp : Nat → Bool} {held : Bool} {n : Nat} {cs : List Value} {ys : List (DataW H × List MemPlace)} : ∀ (fs : List Field) (kss : List (List IntKind)) (o i : Nat), FlatFs P o fs kss →
    (∀ j f, fs[j]? = some f → DataW.trod enc P W base sp held n f.type ((cs.drop f.offset).take (P.cellsOf f.type)) = ys[i + j]?) → i + fs.length ≤ ys.length → cs.length = o + kss.flatten.length → ∃ y, WfR kss.flatten y ∧ cs.drop o = recCells kss.flatten y
  | [], [], o, i, _, _, _, hl => ⟨[], rfl, by rw [List.drop_of_length_le (by simp at hl; omega)]; rfl⟩
  | [], _ :: _, _, _, h, _, _, _ => by cases h
  | _ :: _, [], _, _, h, _, _, _ => by cases h
  | f :: fs, k :: kss, o, i, h, hg, hy, hl => by
    obtain ⟨h1, h2, h3⟩ := h
    have hg0 := hg 0 f rfl
    simp only [List.length_cons] at hy
    rw [List.getElem?_eq_getElem (show i + 0 < ys.length by omega)] at hg0
    obtain ⟨y1, hw1, hc1⟩ := h2.2 _ _ _ _ _ _ _ _ _ hg0
    rw [h1, h2.1] at hc1
    obtain ⟨y2, hw2, hc2⟩ := flat_fields fs kss (o + k.length) (i + 1) h3 (fun j g hj => by
      have := hg (j + 1) g (by simpa using hj)
      rwa [show i + (j + 1) = i + 1 + j from by omega] at this) (by omega) (by simp at hl ⊢; omega)
    refine ⟨y1 ++ y2, by rw [List.flatten_cons]; exact hw1.append hw2, ?_⟩
    rw [List.flatten_cons, recCells_append hw1.length, ← hc1, ← hc2, ← List.drop_drop, List.take_append_drop]
theorem flat_struct {P : Program} {t : TypeId} {fs : Array Field} (ht : P.underlying t = some (.struct fs)) (kss : List (List IntKind)) (hf : FlatFs P 0 fs.toList kss) (hc : P.cellsOf t = kss.flatten.length) : FlatT P t kss.flatten := by
  refine ⟨hc, fun H enc W base sp held fuel cs x h => ?_⟩
  obtain ⟨ys, n, _, _, hl, hyl, hg⟩ := DataW.trod_struct ht h
  obtain ⟨y, hw, he⟩ := flat_fields (ys := ys) fs.toList kss 0 0 hf (fun j f hj => by
    rw [Nat.zero_add]; exact hg j f (by simpa using hj)) (by simp; omega) (by omega)
  exact ⟨y, hw, by simpa using he⟩
section
variable {H : Type} {enc : TypeId × Value → H} {P : Program} {W : World} {b0 : Nat} {sp : Nat → Bool} {held : Bool}
theorem open_flat {t e : TypeId} {k : IntKind} {ks : List IntKind} {v : Value} {d : DataW H} {p : List MemPlace} {r : Reach} (ht : P.underlying t = some (.slice e)) (hF : FlatT P e (k :: ks)) (hv : Value.okWide P W r b0 t v)
    (h : DataW.Trod enc P W 0 sp held t v d p) : ∃ (a : Option Addr) (c : Nat) (xs : List (List Int)), v = .slice a xs.length c ∧ View (base W) (eR k ks) a xs ∧ (∀ x ∈ xs, WfR (k :: ks) x) ∧ xs.length ≤ maxLen := by
  obtain ⟨a, len, cap, rfl⟩ := okWide_slice ht hv
  obtain ⟨fuel, hf⟩ := h
  have hC : P.cellsOf e = ks.length + 1 := by rw [hF.1]; rfl
  rcases open_slice ht hf with ⟨h1, _⟩ | ⟨ad, l, c, m, n, D, Pl, h1, _, hl, hm, hmm, _, hi⟩
  · obtain ⟨rfl, rfl, rfl⟩ : a = none ∧ len = 0 ∧ cap = 0 := by simpa [Value.cells] using h1
    exact ⟨none, 0, [], rfl, fun _ _ => .inl rfl, (fun n h => by cases h), by simp⟩
  · obtain ⟨rfl, rfl, rfl⟩ : a = some ad ∧ len = l ∧ cap = c := by simpa [Value.cells] using h1
    have hle : len ≤ m := by rw [hmm]; split <;> omega
    have each : ∀ i, i < len → ∃ x : List Int, WfR (k :: ks) x ∧ ∀ j v, (recCells (k :: ks) x)[j]? = some v → W.cell? (ad.add (i * (ks.length + 1) + j)) = some v := by
      intro i him
      obtain ⟨cs', hc, ht'⟩ := hi i (by omega)
      rw [hC] at hc
      obtain ⟨_, hcl, hat⟩ := World.cells?_some hc
      obtain ⟨y, hw, rfl⟩ := hF.2 _ _ _ _ _ _ _ _ _ ht'
      refine ⟨y, hw, fun j v hj => ?_⟩
      have hjl : j < ks.length + 1 := by
        have := (List.getElem?_eq_some_iff.1 hj).1
        rw [recCells_len] at this; exact this
      rw [← Go.Deep.add_add, hat j hjl]; exact hj
    let f : Nat → List Int := fun i => if h : i < len then Classical.choose (each i h) else []
    have hfi : ∀ i (h : i < len), WfR (k :: ks) (f i) ∧ ∀ j v, (recCells (k :: ks) (f i))[j]? = some v → W.cell? (ad.add (i * (ks.length + 1) + j)) = some v := by
      intro i h
      simp only [f, dif_pos h]
      exact Classical.choose_spec (each i h)
    refine ⟨some ad, cap, (List.range len).map f, by simp, view_of fun i x hx j v hj => ?_, ?_, by simp; omega⟩
    · have hi : i < len := by
        have := (List.getElem?_eq_some_iff.1 hx).1
        simpa using this
      have : f i = x := by simpa [hi] using hx
      subst this
      exact (hfi i hi).2 j v hj
    · intro x hx
      obtain ⟨i, hi, rfl⟩ := List.mem_map.1 hx
      exact (hfi i (List.mem_range.1 hi)).1
end
section
variable {P : Program} {w0 : World} {n : Nat} {Q : Exit → Act → World → Prop} {k : List KI} {e : Env} {L R : List HP} {all : Array Oper} {rest : List Oper} {ty : TypeId}
theorem rv_velfG {α : Type} {E' : E α} {T : TypeId} {x : Operand} {A : HP} {b o s : Nat} {xs : List α} {v : Value} {dd : TypeDesc} (i f : Nat) (x' : α) [hu : TU P T dd] (hV : View A E' (some ⟨b, o, none⟩) xs) (hf : Find L A R := by repeat (first | exact Find.here | apply Find.there)) (hx : ev e x = some (.pointer (some ⟨b, o + i * s + f, none⟩)) := by rfl)
    (hg : aggD dd = false := by rfl) (hs : E'.sz = s := by rfl) (hv : (E'.cells x')[f]? = some v := by rfl) (hget : xs[i]? = some x') : RV P w0 (.load T x) ty e L v := by
  obtain ⟨hl, rfl⟩ := List.getElem?_eq_some_iff.1 hget
  exact rv_velf hV hf hx hg hs hl hv
end
end Go.Proofs.Ytmndddegnfbaaaa.Sep
namespace Go.Proofs.Ytmndddegnfbaaaa.Sep
open Go.RowKit
set_option linter.unusedSimpArgs false
set_option linter.unusedVariables false
/-! elements of slices, with what is known of them among the hypotheses -/
section
variable {P : Program} {w0 : World} {e : Env} {L R : List HP} {ty : TypeId} {α : Type} {E' : E α}
theorem rv_vA {T : TypeId} {x : Operand} {A : HP} {b o oo i f : Nat} {xs : List α} {x' : α} {v : Value} {dd : TypeDesc} [hu : TU P T dd] (hx : ev e x = some (.pointer (some ⟨b, oo, none⟩)) := by rfl) (hg : aggD dd = false := by rfl) (hV : View A E' (some ⟨b, o, none⟩) xs := by assumption) (hget : xs[i]? = some x' := by assumption)
    (ho : oo = o + i * E'.sz + f := by rfl) (hv : (E'.cells x')[f]? = some v := by rfl) (hf : Find L A R := by repeat (first | exact Find.here | apply Find.there)) : RV P w0 (.load T x) ty e L v := by
  subst ho; exact rv_velfG i f x' hV hf hx hg rfl hv hget
theorem rv_vA0 {T : TypeId} {x : Operand} {A : HP} {b o oo i : Nat} {xs : List α} {x' : α} {v : Value} {dd : TypeDesc} [hu : TU P T dd] (hx : ev e x = some (.pointer (some ⟨b, oo, none⟩)) := by rfl) (hg : aggD dd = false := by rfl) (hV : View A E' (some ⟨b, o, none⟩) xs := by assumption) (hget : xs[i]? = some x' := by assumption)
    (ho : oo = o + i * E'.sz := by rfl) (hv : (E'.cells x')[0]? = some v := by rfl) (hf : Find L A R := by repeat (first | exact Find.here | apply Find.there)) : RV P w0 (.load T x) ty e L v := by
  subst ho; exact rv_velfG i 0 x' hV hf hx hg rfl hv hget
theorem rv_veA {T : TypeId} {x : Operand} {A : HP} {b o oo i : Nat} {xs : List α} {x' : α} {dd : TypeDesc} {z : Value} {s' by' : Nat} [hu : TU P T dd] [hi : TI P T z s' by'] (hx : ev e x = some (.pointer (some ⟨b, oo, none⟩)) := by rfl) (hV : View A E' (some ⟨b, o, none⟩) xs := by assumption) (hg : aggD dd = E'.agg := by rfl) (hget : xs[i]? = some x' := by assumption)
    (ho : oo = o + i * E'.sz := by rfl) (hs' : s' = E'.sz := by rfl) (hf : Find L A R := by repeat (first | exact Find.here | apply Find.there)) : RV P w0 (.load T x) ty e L (E'.val x') := by
  subst ho; exact rv_velG i x' hV hf hx hg rfl hs' hget
theorem rv_sA {T : TypeId} {x : Operand} {b o oo i f c : Nat} {xs : List α} {x' : α} {v : Value} {dd : TypeDesc} [hu : TU P T dd] (hx : ev e x = some (.pointer (some ⟨b, oo, none⟩)) := by rfl) (hg : aggD dd = false := by rfl) (hf : Find L (Sl E' (some ⟨b, o, none⟩) c xs) R := by repeat (first | exact Find.here | apply Find.there)) (hget : xs[i]? = some x' := by assumption)
    (ho : oo = o + i * E'.sz + f := by rfl) (hv : (E'.cells x')[f]? = some v := by rfl) : RV P w0 (.load T x) ty e L v := by
  subst ho; exact rv_elfG i f x' hf hx hg rfl hv hget
theorem rv_sA0 {T : TypeId} {x : Operand} {b o oo i c : Nat} {xs : List α} {x' : α} {v : Value} {dd : TypeDesc} [hu : TU P T dd] (hx : ev e x = some (.pointer (some ⟨b, oo, none⟩)) := by rfl) (hg : aggD dd = false := by rfl) (hf : Find L (Sl E' (some ⟨b, o, none⟩) c xs) R := by repeat (first | exact Find.here | apply Find.there)) (hget : xs[i]? = some x' := by assumption)
    (ho : oo = o + i * E'.sz := by rfl) (hv : (E'.cells x')[0]? = some v := by rfl) : RV P w0 (.load T x) ty e L v := by
  subst ho; exact rv_elfG i 0 x' hf hx hg rfl hv hget
theorem rv_seA {T : TypeId} {x : Operand} {b o oo i c : Nat} {xs : List α} {x' : α} {dd : TypeDesc} {z : Value} {s' by' : Nat} [hu : TU P T dd] [hi : TI P T z s' by'] (hx : ev e x = some (.pointer (some ⟨b, oo, none⟩)) := by rfl) (hf : Find L (Sl E' (some ⟨b, o, none⟩) c xs) R := by repeat (first | exact Find.here | apply Find.there)) (hg : aggD dd = E'.agg := by rfl) (hget : xs[i]? = some x' := by assumption)
    (ho : oo = o + i * E'.sz := by rfl) (hs' : s' = E'.sz := by rfl) : RV P w0 (.load T x) ty e L (E'.val x') := by
  subst ho; exact rv_elG i x' hf hx hg rfl hs' hget
end
theorem pv_extractL {P : Program} {e : Env} {ty : TypeId} {x : Operand} {i : Nat} {vs : List Value} {v : Value} (hx : ev e x = some (.tuple vs.toArray) := by rfl) (hv : vs[i]? = some v := by rfl) : PV P (.extract x i) ty e (v) := pv_extract hx (by simpa using hv)
/-! one step, whatever it is: the lists of rules stand in the defaults of these theorems, and not in each proof -/
section
variable {P : Program} {w0 : World} {n : Nat} {Q : Exit → Act → World → Prop} {k : List KI} {e : Env} {L : List HP} {all ops : Array Oper} {rest : List Oper} {op : Op} {ty : TypeId} {pos : String} {aft : Array Edge} {d i : Nat} {D : Pend} {vl : List Nat} {v : Value}
theorem Zq (hk : XO ⟨P, w0, n, Q⟩ all k rest ((d, v) :: e) L)
    (h : PV P op ty e v := by first | exact pv_move | exact pv_assign | exact pv_field | exact pv_nil_ptr | exact pv_cmp | exact pv_arith | exact pv_extractL | exact pv_extract | exact pv_len_slice | exact pv_index | exact pv_not | exact pv_pickT | exact pv_pickF | exact pv_conv_int | exact pv_build | exact pv_eqb | exact pv_neb | exact pv_eqnil | exact pv_nenil | exact pv_max | exact pv_min | exact pv_bits | exact pv_shr12 | exact pv_shl12 | exact pv_quo | exact pv_rem | exact pv_neg | exact pv_sliceH | exact pv_build0 | exact pv_makeFunc | exact pv_indexArr | exact pv_sliceArr | exact pv_sliceL | exact pv_nil_fn) (hd : d < n := by exact Nat.le_of_ble_eq_true rfl) : XO ⟨P, w0, n, Q⟩ all k (⟨some d, op, ty, pos, aft, none⟩ :: rest) e L := XO_pv h hd hk
theorem Zs (hk : XO ⟨P, w0, n, Q⟩ all k rest ((d, v) :: e) L)
    (h : RV P w0 op ty e L v := by first | exact rv_load | exact rv_loadW | exact rv_loadS | exact rv_vA | exact rv_vA0 | exact rv_sA | exact rv_sA0 | exact rv_veA | exact rv_seA) (hd : d < n := by exact Nat.le_of_ble_eq_true rfl) : XO ⟨P, w0, n, Q⟩ all k (⟨some d, op, ty, pos, aft, none⟩ :: rest) e L := XO_rv h hd hk
theorem Zc {g g' : Prop} (h : g') (s : g' → g := by first | exact XO_nil | exact X_seq | exact X_region | exact X_block | exact X_skip | exact X_exit | exact X_ret | exact XE_code | exact XE_block | exact XE_code_exit | exact XE_block_exit | exact XE_code_ret | exact XE_block_ret | exact XE_pred_ret | exact XE_pred_exit | exact XE_block_other rfl) : g := s h
theorem Dq {g : Option (Nat × Bool)} (h : XD ⟨P, w0, n, Q⟩ ops k ((i, v, true) :: D) (i :: vl) ((d, v) :: e) L)
    (hv : PV P op ty (restr e (Oper.looksAt ops ⟨some d, op, ty, pos, aft, g⟩)) v := by first | exact pv_move | exact pv_assign | exact pv_field | exact pv_nil_ptr | exact pv_cmp | exact pv_arith | exact pv_extractL | exact pv_extract | exact pv_len_slice | exact pv_index | exact pv_not | exact pv_pickT | exact pv_pickF | exact pv_conv_int | exact pv_build | exact pv_eqb | exact pv_neb | exact pv_eqnil | exact pv_nenil | exact pv_max | exact pv_min | exact pv_bits | exact pv_shr12 | exact pv_shl12 | exact pv_quo | exact pv_rem | exact pv_neg | exact pv_sliceH | exact pv_build0 | exact pv_makeFunc | exact pv_indexArr | exact pv_sliceArr | exact pv_sliceL) (hg : GOK ops e g := by first | exact True.intro | exact ⟨_, rfl, rfl⟩)
    (hl : (Oper.looksAt ops ⟨some d, op, ty, pos, aft, g⟩).contains d = false := by kernel_rfl) (hdis : (D.all fun p => match ops[p.1]? with | some oj => !(oj.looksAt ops).contains d | none => true) = true := by kernel_rfl) (hdn : d < n := by exact Nat.le_of_ble_eq_true rfl) : XDi ⟨P, w0, n, Q⟩ ops k D vl e L i ⟨some d, op, ty, pos, aft, g⟩ := Dp hv h hg hl hdis hdn
theorem Ds {g : Option (Nat × Bool)} (h : XD ⟨P, w0, n, Q⟩ ops k ((i, v, false) :: D) (i :: vl) ((d, v) :: e) L)
    (hv : RV P w0 op ty (restr e (Oper.looksAt ops ⟨some d, op, ty, pos, aft, g⟩)) L v := by first | exact rv_load | exact rv_loadW | exact rv_loadS | exact rv_vA | exact rv_vA0 | exact rv_sA | exact rv_sA0 | exact rv_veA | exact rv_seA) (hg : GOK ops e g := by first | exact True.intro | exact ⟨_, rfl, rfl⟩)
    (hl : (Oper.looksAt ops ⟨some d, op, ty, pos, aft, g⟩).contains d = false := by kernel_rfl) (hdis : (D.all fun p => match ops[p.1]? with | some oj => !(oj.looksAt ops).contains d | none => true) = true := by kernel_rfl) (hdn : d < n := by exact Nat.le_of_ble_eq_true rfl) : XDi ⟨P, w0, n, Q⟩ ops k D vl e L i ⟨some d, op, ty, pos, aft, g⟩ := Dr hv h hg hl hdis hdn
theorem keeps_takeQ {f : Nat × Value × Bool → Bool} {j : Nat} {K : Pend} {b : Bool} {g : Option (Nat × Bool)} (ho : ops[j]? = some ⟨some d, op, ty, pos, aft, g⟩ := by rfl) (hv : RV P w0 op ty (restr e (Oper.looksAt ops ⟨some d, op, ty, pos, aft, g⟩)) L v := by first | exact rv_load | exact rv_loadW | exact rv_loadS | exact rv_vA | exact rv_vA0 | exact rv_sA | exact rv_sA0 | exact rv_veA | exact rv_seA) (hg : GOK ops e g := by first | exact True.intro | exact ⟨_, rfl, rfl⟩) (hb : b = false := by rfl) (h : Keeps ⟨P, w0, n, Q⟩ ops e L (List.filter f K)) :
    Keeps ⟨P, w0, n, Q⟩ ops e L (List.filter f ((j, v, b) :: K)) := keeps_takeA ho hv hg hb h
end
end Go.Proofs.Ytmndddegnfbaaaa.Sep
namespace Go.Proofs.Ytmndddegnfbaaaa.Sep
open Go.RowKit
set_option linter.unusedSimpArgs false
set_option linter.unusedVariables false
/-! numbers laid into bytes, and read from them -/
theorem cutIn_nil (xs : List Int) (i : Nat) : cutIn xs i [] = xs := by simp [cutIn]
theorem cutIn_step {xs l : List Int} {at_ i : Nat} (hi : i < l.length) (h : at_ + l.length ≤ xs.length) : (cutIn xs at_ (l.take i)).set (at_ + i) l[i] = cutIn xs at_ (l.take (i + 1)) := by
  have e1 : (l.take i).length = i := by simp; omega
  have e2 : (l.take (i + 1)).length = i + 1 := by simp; omega
  have e3 : (xs.take at_).length = at_ := by simp; omega
  have hd : at_ + i < xs.length := by omega
  simp only [cutIn, e1, e2]
  rw [List.set_append_right _ _ (by rw [e3]; omega), e3, List.set_append_right _ _ (by rw [e1]; omega), e1, show at_ + i - at_ - i = 0 from by omega, List.drop_eq_getElem_cons hd, List.set_cons_zero, List.take_succ_eq_append_getElem hi, List.append_assoc (l.take i)]
  rfl
theorem cutIn_all {xs bs : List Int} (h : bs.length = xs.length) : cutIn xs 0 bs = bs := by simp [cutIn, h]
theorem shl_fit {i : Nat} {b : Int} (hi : i < 8) (h0 : 0 ≤ b) (h1 : b ≤ 255) : b * ((256 ^ i : Nat) : Int) < 18446744073709551616 ∧ 0 ≤ b * ((256 ^ i : Nat) : Int) := by
  have : i = 0 ∨ i = 1 ∨ i = 2 ∨ i = 3 ∨ i = 4 ∨ i = 5 ∨ i = 6 ∨ i = 7 := by omega
  rcases this with rfl | rfl | rfl | rfl | rfl | rfl | rfl | rfl <;> (simp; omega)
theorem bitop_or_u64 {a b : Nat} (ha : a < 18446744073709551616) (hb : b < 18446744073709551616) : bitop .or .u64 a b = ((a ||| b : Nat) : Int) := by
  have h1 : a ||| b < 2 ^ 64 := Nat.or_lt_two_pow ha hb
  have e1 : BitVec.ofInt 64 (a : Int) = BitVec.ofNat 64 a := by simp
  have e2 : BitVec.ofInt 64 (b : Int) = BitVec.ofNat 64 b := by simp
  have : (BitVec.ofNat 64 a ||| BitVec.ofNat 64 b).toNat = a ||| b := by
    rw [BitVec.toNat_or, BitVec.toNat_ofNat, BitVec.toNat_ofNat, Nat.mod_eq_of_lt (by omega), Nat.mod_eq_of_lt (by omega)]
  show IntKind.u64.wrap ((BitVec.ofInt 64 (a : Int) ||| BitVec.ofInt 64 (b : Int)).toNat : Int) = _
  rw [e1, e2, this]
  exact wrap_u64 (by omega) (by omega)
theorem or_step {n b : Int} {i : Nat} (hi : i < 8) (h0 : 0 ≤ n) (h1 : n < ((256 ^ i : Nat) : Int)) (b0 : 0 ≤ b) (b1 : b ≤ 255) : bitop .or .u64 n (b * ((256 ^ i : Nat) : Int)) = n + b * ((256 ^ i : Nat) : Int) := by
  obtain ⟨f1, f2⟩ := shl_fit hi b0 b1
  obtain ⟨n', rfl⟩ : ∃ n' : Nat, n = (n' : Int) := ⟨n.toNat, by omega⟩
  obtain ⟨b', rfl⟩ : ∃ b' : Nat, b = (b' : Int) := ⟨b.toNat, by omega⟩
  have e : (b' : Int) * ((256 ^ i : Nat) : Int) = ((b' * 2 ^ (8 * i) : Nat) : Int) := by rw [← pow256]; simp
  rw [e] at f1 ⊢
  have hn : n' < 2 ^ (8 * i) := by rw [← pow256]; omega
  have hle : 2 ^ (8 * i) ≤ 2 ^ 64 := Nat.pow_le_pow_right (by decide) (by omega)
  rw [bitop_or_u64 (by omega) (by omega), or_add hn]
  omega
set_option maxHeartbeats 8000000
attribute [local irreducible] X XE XO XD XDi XDa PV RV DV pt base Spec Sl Mp Keeps
theorem wide_spec (w : Int) (hw : w = 1 ∨ w = 2 ∨ w = 4 ∨ w = 8) : Spec Try.prog 103 [.int .i64 w] [] (fun v L => v = .bool true ∧ L = []) := by
  refine Spec.intro (IsEnt.out) Try.func103 rfl Try.ntmps103 (by simp) (fun w0 F => ?_)
  simp only [envOf, List.zipIdx, List.map, List.cons_append, List.nil_append, Nat.zero_add, Nat.reduceAdd]
  rcases hw with rfl | rfl | rfl | rfl
  all_goals
    repeat (first | refine Zq ?_ | refine Zs ?_ | refine ZT ?_ | refine ZF ?_ | refine Zc ?_ | refine XO_gU (hk := ?_))
    refine XE_ret (.inl rfl) (tells_tmps rfl rfl) ⟨_, ⟨?_, rfl⟩, by ((try simp only [List.cons_append, List.nil_append]); repeat (first | exact ent_refl | refine ent_take (by repeat (first | exact Find.here | apply Find.there)) ?_ | refine ent_drop ?_))⟩
    exact congrArg Value.bool (by decide +kernel)
theorem wright_spec (n at_ w : Int) (hw : w = 1 ∨ w = 2 ∨ w = 4 ∨ w = 8) (h0 : 0 ≤ at_) (h1 : at_ + w ≤ n) (h2 : n ≤ 1099511627776) : Spec Try.prog 79 [.int .i64 n, .int .i64 at_, .int .i64 w] [] (fun v L => v = .bool true ∧ L = []) := by
  refine Spec.intro (IsEnt.out) Try.func79 rfl Try.ntmps79 (by simp) (fun w0 F => ?_)
  simp only [envOf, List.zipIdx, List.map, List.cons_append, List.nil_append, Nat.zero_add, Nat.reduceAdd]
  repeat (first | refine Zq ?_ | refine Zs ?_ | refine ZT ?_ | refine ZF ?_ | refine Zc ?_ | refine XO_gU (hk := ?_))
  refine XO_call (wide_spec w hw) (hk := ?_)
  rintro _ _ ⟨rfl, rfl⟩
  repeat (first | refine Zq ?_ | refine Zs ?_ | refine ZT ?_ | refine ZF ?_ | refine Zc ?_ | refine XO_gU (hk := ?_))
  refine XO_known true (hb := by simp; omega) (hk := ?_)
  repeat (first | refine Zq ?_ | refine Zs ?_ | refine ZT ?_ | refine ZF ?_ | refine Zc ?_ | refine XO_gU (hk := ?_))
  refine XO_known true (hb := by simp; omega) (hk := ?_)
  repeat (first | refine Zq ?_ | refine Zs ?_ | refine ZT ?_ | refine ZF ?_ | refine Zc ?_ | refine XO_gU (hk := ?_))
  refine XE_ret (.inl rfl) (tells_tmps rfl rfl) ⟨_, ⟨?_, rfl⟩, by ((try simp only [List.cons_append, List.nil_append]); repeat (first | exact ent_refl | refine ent_take (by repeat (first | exact Find.here | apply Find.there)) ?_ | refine ent_drop ?_))⟩
  exact congrArg Value.bool (decide_eq_true (by omega))
theorem w8 {w : Int} (hw : w = 1 ∨ w = 2 ∨ w = 4 ∨ w = 8) : ∃ k : Nat, w = (k : Int) ∧ 1 ≤ k ∧ k ≤ 8 := by
  rcases hw with rfl | rfl | rfl | rfl
  · exact ⟨1, rfl, by decide, by decide⟩
  · exact ⟨2, rfl, by decide, by decide⟩
  · exact ⟨4, rfl, by decide, by decide⟩
  · exact ⟨8, rfl, by decide, by decide⟩
theorem shr_eq (n : Int) {i : Nat} (h : i < 8) : n / ((2 ^ (min (8 * (i : Int)).toNat IntKind.u64.bits) : Nat) : Int) = n / ((256 ^ i : Nat) : Int) := by
  rw [pow256, show min (8 * (i : Int)).toNat IntKind.u64.bits = 8 * i from by show min (8 * (i : Int)).toNat 64 = 8 * i; omega]
theorem wput_spec (b c at_ : Nat) (xs : List Int) (w n : Int) (hw : w = 1 ∨ w = 2 ∨ w = 4 ∨ w = 8) (h : (at_ : Int) + w ≤ xs.length) (hl : xs.length ≤ 1099511627776) :
    Spec Try.prog 109 [.slice (some ⟨b, 0, none⟩) xs.length c, .int .i64 at_, .int .i64 w, .int .u64 n] [Sl (eI .u8) (some ⟨b, 0, none⟩) c xs] (fun v L => v = .bool true ∧ L = [Sl (eI .u8) (some ⟨b, 0, none⟩) c (cutIn xs at_ (leB w.toNat n))]) := by
  refine Spec.intro (IsEnt.out) Try.func109 rfl Try.ntmps109 (by simp) (fun w0 F => ?_)
  simp only [envOf, List.zipIdx, List.map, List.cons_append, List.nil_append, Nat.zero_add, Nat.reduceAdd]
  repeat (first | refine Zq ?_ | refine Zs ?_ | refine ZT ?_ | refine ZF ?_ | refine Zc ?_ | refine XO_gU (hk := ?_))
  refine XO_call (wright_spec xs.length at_ w hw (by omega) h (by omega)) (hk := ?_)
  rintro _ _ ⟨rfl, rfl⟩
  repeat (first | refine Zq ?_ | refine Zs ?_ | refine ZT ?_ | refine ZF ?_ | refine Zc ?_ | refine XO_gU (hk := ?_))
  refine X_cond rfl (fun h => by cases h) (fun _ => ?_)
  obtain ⟨m, rfl, hm1, hm8⟩ := w8 hw
  have hlB : (leB (m : Int).toNat n).length = m := by rw [leB_len]; omega
  repeat (first | refine Zq ?_ | refine Zs ?_ | refine ZT ?_ | refine ZF ?_ | refine Zc ?_ | refine XO_gU (hk := ?_))
  refine X_loop (ι := Nat) (fun k => k ≤ m) (fun k => [(0, .slice (some ⟨b, 0, none⟩) xs.length c), (1, .int .i64 at_), (3, .int .u64 n), (16, .int .i64 m), (17, .int .i64 k)]) (fun k => Sl (eI .u8) (some ⟨b, 0, none⟩) c (cutIn xs at_ ((leB (m : Int).toNat n).take k)) :: F) (fun k => m - k) 0 (Nat.zero_le _) ?_ (by rw [List.take_zero, cutIn_nil]; ((try simp only [List.cons_append, List.nil_append]); repeat (first | exact ent_refl | refine ent_take (by repeat (first | exact Find.here | apply Find.there)) ?_ | refine ent_drop ?_))) ?_
  · (repeat (first | exact Env.sub_nil _ | refine Env.sub_cons rfl ?_))
  intro k hk
  dsimp only at hk ⊢
  have hcl : (cutIn xs at_ ((leB (m : Int).toNat n).take k)).length = xs.length := cutIn_len (by simp; omega)
  repeat (first | refine Zq ?_ | refine Zs ?_ | refine ZT ?_ | refine ZF ?_ | refine Zc ?_ | refine XO_gU (hk := ?_))
  refine X_cond rfl (fun hc => ?_) (fun hc => ?_) <;> simp only [decide_eq_true_eq, decide_eq_false_iff_not] at hc
  · repeat (first | refine Zq ?_ | refine Zs ?_ | refine ZT ?_ | refine ZF ?_ | refine Zc ?_ | refine XO_gU (hk := ?_))
    refine XO_pv (pv_shrN) (hk := ?_)
    refine XO_reval 27 (.int .u64 (n / ((256 ^ k : Nat) : Int))) (hv := by rw [shr_eq n (by omega)]) (hk := ?_)
    refine XO_pv (pv_conv_int (hw := rfl)) (hk := ?_)
    have hkl : k < (leB (m : Int).toNat n).length := by omega
    refine XO_reval 28 (.int .u8 (leB (m : Int).toNat n)[k]) (hv := by
      have h5 := leB_get (m : Int).toNat n k (by omega)
      rw [List.getElem?_eq_getElem hkl] at h5
      rw [Option.some.inj h5]; rfl) (hk := ?_)
    repeat (first | refine Zq ?_ | refine Zs ?_ | refine ZT ?_ | refine ZF ?_ | refine Zc ?_ | refine XO_gU (hk := ?_))
    refine XO_reval 29 (.pointer (some ⟨b, at_ + k, none⟩)) (hv := by rw [show 0 + ((at_ : Int) + (k : Int)).toNat * 1 = at_ + k from by omega]) (hk := ?_)
    refine XO_dv0 (dv_putAt (kk := .u8) (i := at_ + k)) (hk := ?_)
    rintro _ _ rfl
    repeat (first | refine Zq ?_ | refine Zs ?_ | refine ZT ?_ | refine ZF ?_ | refine Zc ?_ | refine XO_gU (hk := ?_))
    exact X_round (k + 1) (by show k + 1 ≤ m; omega) (by show m - (k + 1) < m - k; omega) (by (repeat (first | exact Env.sub_nil _ | refine Env.sub_cons rfl ?_))) (by rw [cutIn_step hkl (by omega)]; ((try simp only [List.cons_append, List.nil_append]); repeat (first | exact ent_refl | refine ent_take (by repeat (first | exact Find.here | apply Find.there)) ?_ | refine ent_drop ?_)))
  · obtain rfl : k = m := by omega
    repeat (first | refine Zq ?_ | refine Zs ?_ | refine ZT ?_ | refine ZF ?_ | refine Zc ?_ | refine XO_gU (hk := ?_))
    rw [List.take_of_length_le (by omega)]
    refine XE_ret (.inl rfl) (tells_tmps rfl rfl) ⟨_, ⟨rfl, rfl⟩, by ((try simp only [List.cons_append, List.nil_append]); repeat (first | exact ent_refl | refine ent_take (by repeat (first | exact Find.here | apply Find.there)) ?_ | refine ent_drop ?_))⟩
theorem wget_spec (A : HP) (b o c at_ : Nat) (xs : List Int) (w : Int) (hw : w = 1 ∨ w = 2 ∨ w = 4 ∨ w = 8) (h : (at_ : Int) + w ≤ xs.length) (hl : xs.length ≤ 1099511627776) (hV : View A (eI .u8) (some ⟨b, o, none⟩) xs) (hB : Byt xs) :
    Spec Try.prog 50 [.slice (some ⟨b, o, none⟩) xs.length c, .int .i64 at_, .int .i64 w] [A] (fun v L => v = .tuple #[.int .u64 (leN ((xs.drop at_).take w.toNat)), .bool true] ∧ L = [A]) := by
  refine Spec.intro (IsEnt.out) Try.func50 rfl Try.ntmps50 (by simp) (fun w0 F => ?_)
  simp only [envOf, List.zipIdx, List.map, List.cons_append, List.nil_append, Nat.zero_add, Nat.reduceAdd]
  repeat (first | refine Zq ?_ | refine Zs ?_ | refine ZT ?_ | refine ZF ?_ | refine Zc ?_ | refine XO_gU (hk := ?_))
  refine XO_call (wright_spec xs.length at_ w hw (by omega) h (by omega)) (hk := ?_)
  rintro _ _ ⟨rfl, rfl⟩
  repeat (first | refine Zq ?_ | refine Zs ?_ | refine ZT ?_ | refine ZF ?_ | refine Zc ?_ | refine XO_gU (hk := ?_))
  refine X_cond rfl (fun h => by cases h) (fun _ => ?_)
  obtain ⟨m, rfl, hm1, hm8⟩ := w8 hw
  repeat (first | refine Zq ?_ | refine Zs ?_ | refine ZT ?_ | refine ZF ?_ | refine Zc ?_ | refine XO_gU (hk := ?_))
  refine X_loop (ι := Nat) (fun k => k ≤ m) (fun k => [(0, .slice (some ⟨b, o, none⟩) xs.length c), (1, .int .i64 at_), (8, .int .u64 (leN ((xs.drop at_).take k))), (16, .int .i64 m), (17, .int .i64 k)]) (fun k => A :: F) (fun k => m - k) 0 (Nat.zero_le _) ?_ (by ((try simp only [List.cons_append, List.nil_append]); repeat (first | exact ent_refl | refine ent_take (by repeat (first | exact Find.here | apply Find.there)) ?_ | refine ent_drop ?_))) ?_
  · (repeat (first | exact Env.sub_nil _ | refine Env.sub_cons rfl ?_))
  intro k hk
  dsimp only at hk ⊢
  repeat (first | refine Zq ?_ | refine Zs ?_ | refine ZT ?_ | refine ZF ?_ | refine Zc ?_ | refine XO_gU (hk := ?_))
  refine X_cond rfl (fun hc => ?_) (fun hc => ?_) <;> simp only [decide_eq_true_eq, decide_eq_false_iff_not] at hc
  · have hkl : at_ + k < xs.length := by omega
    have hb := hB xs[at_ + k] (List.getElem_mem hkl)
    repeat (first | refine Zq ?_ | refine Zs ?_ | refine ZT ?_ | refine ZF ?_ | refine Zc ?_ | refine XO_gU (hk := ?_))
    refine XO_reval 25 (.pointer (some ⟨b, o + (at_ + k) * 1, none⟩)) (hv := by rw [show ((at_ : Int) + (k : Int)).toNat = at_ + k from by omega]) (hk := ?_)
    refine XO_rv (rv_velG (E' := eI .u8) (s := 1) (i := at_ + k) (x' := xs[at_ + k]) (hV := hV) (hget := by rw [List.getElem?_eq_getElem hkl])) (hk := ?_)
    refine XO_reval 26 (.int .u8 xs[at_ + k]) (hv := rfl) (hk := ?_)
    repeat (first | refine Zq ?_ | refine Zs ?_ | refine ZT ?_ | refine ZF ?_ | refine Zc ?_ | refine XO_gU (hk := ?_))
    refine XO_pv (pv_shlN (hw := rfl)) (hk := ?_)
    obtain ⟨f1, f2⟩ := shl_fit (i := k) (b := xs[at_ + k]) (by omega) hb.1 hb.2
    refine XO_reval 30 (.int .u64 (xs[at_ + k] * ((256 ^ k : Nat) : Int))) (hv := by
      rw [show min (8 * (k : Int)).toNat IntKind.u64.bits = 8 * k from by show min (8 * (k : Int)).toNat 64 = 8 * k; omega, ← pow256]
      exact congrArg (Value.int .u64) (wrap_u64 f2 (by omega))) (hk := ?_)
    refine XO_pv pv_bits (hk := ?_)
    have hBd : Byt ((xs.drop at_).take k) := fun x hx => hB x ((List.drop_subset _ _) ((List.take_subset _ _) hx))
    have hnn := leN_nn hBd
    rw [List.length_take, List.length_drop, Nat.min_eq_left (by omega)] at hnn
    refine XO_reval 31 (.int .u64 (leN ((xs.drop at_).take (k + 1)))) (hv := by
      rw [leN_take (l := xs.drop at_) (i := k) (by simp; omega), List.getElem_drop]
      exact congrArg (Value.int .u64) (or_step (by omega) hnn.1 hnn.2 hb.1 hb.2)) (hk := ?_)
    repeat (first | refine Zq ?_ | refine Zs ?_ | refine ZT ?_ | refine ZF ?_ | refine Zc ?_ | refine XO_gU (hk := ?_))
    exact X_round (k + 1) (by show k + 1 ≤ m; omega) (by show m - (k + 1) < m - k; omega) (by (repeat (first | exact Env.sub_nil _ | refine Env.sub_cons rfl ?_))) (by ((try simp only [List.cons_append, List.nil_append]); repeat (first | exact ent_refl | refine ent_take (by repeat (first | exact Find.here | apply Find.there)) ?_ | refine ent_drop ?_)))
  · obtain rfl : k = m := by omega
    repeat (first | refine Zq ?_ | refine Zs ?_ | refine ZT ?_ | refine ZF ?_ | refine Zc ?_ | refine XO_gU (hk := ?_))
    refine XE_ret (.inl rfl) (tells_tmps rfl rfl) ⟨_, ⟨rfl, rfl⟩, by ((try simp only [List.cons_append, List.nil_append]); repeat (first | exact ent_refl | refine ent_take (by repeat (first | exact Find.here | apply Find.there)) ?_ | refine ent_drop ?_))⟩
/-- Numbers as bytes, one behind the other. -/
def bsOf (w : Nat) (ns : List Int) : List Int := ns.flatMap (leB w)
theorem bsOf_len (w : Nat) : ∀ ns : List Int, (bsOf w ns).length = ns.length * w
  | [] => by simp [bsOf]
  | n :: ns => by
    have := bsOf_len w ns
    simp only [bsOf] at this
    simp only [bsOf, List.flatMap_cons, List.length_append, leB_len, this, List.length_cons, Nat.add_mul]; omega
theorem bsOf_snoc (w : Nat) (ns : List Int) (n : Int) : bsOf w (ns ++ [n]) = bsOf w ns ++ leB w n := by simp [bsOf]
theorem cut_zeros {p q : List Int} {r : Nat} (h : q.length ≤ r) : cutIn (p ++ List.replicate r 0) p.length q = (p ++ q) ++ List.replicate (r - q.length) 0 := by
  unfold cutIn
  rw [List.take_left, List.drop_append, show p.length + q.length - p.length = q.length from by omega, List.drop_of_length_le (l := p) (by omega), List.nil_append, List.drop_replicate, List.append_assoc]
theorem wbytes_spec (A : HP) (a : Option Addr) (c : Nat) (ns : List Int) (w : Int) (hw : w = 1 ∨ w = 2 ∨ w = 4 ∨ w = 8) (hl : ns.length ≤ 1048576) (hV : View A (eI .u64) a ns) :
    Spec Try.prog 100 [.int .i64 w, .slice a ns.length c] [A] (fun v L => ∃ b, v = .slice (some ⟨b, 0, none⟩) (bsOf w.toNat ns).length (bsOf w.toNat ns).length ∧ L = [Sl (eI .u8) (some ⟨b, 0, none⟩) (bsOf w.toNat ns).length (bsOf w.toNat ns), A]) := by
  refine Spec.intro (IsEnt.out) Try.func100 rfl Try.ntmps100 (by simp) (fun w0 F => ?_)
  simp only [envOf, List.zipIdx, List.map, List.cons_append, List.nil_append, Nat.zero_add, Nat.reduceAdd]
  repeat (first | refine Zq ?_ | refine Zs ?_ | refine ZT ?_ | refine ZF ?_ | refine Zc ?_ | refine XO_gU (hk := ?_))
  refine XO_call (wide_spec w hw) (hk := ?_)
  rintro _ _ ⟨rfl, rfl⟩
  repeat (first | refine Zq ?_ | refine Zs ?_ | refine ZT ?_ | refine ZF ?_ | refine Zc ?_ | refine XO_gU (hk := ?_))
  refine X_cond rfl (fun h => by cases h) (fun _ => ?_)
  obtain ⟨m, rfl, hm1, hm8⟩ := w8 hw
  have hmn : m * ns.length ≤ 8 * 1048576 := Nat.mul_le_mul hm8 hl
  have hmi : (m : Int) * (ns.length : Int) = ((m * ns.length : Nat) : Int) := by simp
  repeat (first | refine Zq ?_ | refine Zs ?_ | refine ZT ?_ | refine ZF ?_ | refine Zc ?_ | refine XO_gU (hk := ?_))
  refine XO_reval 14 (.int .i64 ((m * ns.length : Nat) : Int)) (hv := by rw [hmi]) (hk := ?_)
  refine XO_dv (dv_makeSlice (E' := eI .u8) 0) (hk := ?_)
  rintro _ _ ⟨b, rfl, rfl⟩
  simp only [Int.toNat_natCast]
  generalize hT : m * ns.length = T at hmn hmi ⊢
  have hbl : ∀ k, k ≤ ns.length → (bsOf m (ns.take k)).length = k * m := fun k hk => by rw [bsOf_len, List.length_take, Nat.min_eq_left hk]
  have hsp : ∀ k, k ≤ ns.length → k * m + (ns.length - k) * m = T := fun k hk => by rw [← Nat.add_mul, ← hT, Nat.mul_comm m]; congr 1; omega
  have hfl : (bsOf m ns).length = T := by rw [bsOf_len, ← hT, Nat.mul_comm]
  have hmT : ((m : Int)).toNat = m := by omega
  simp only [hfl]
  repeat (first | refine Zq ?_ | refine Zs ?_ | refine ZT ?_ | refine ZF ?_ | refine Zc ?_ | refine XO_gU (hk := ?_))
  refine X_loop (ι := Nat) (fun k => k ≤ ns.length) (fun k => [(0, .int .i64 m), (5, .slice (some ⟨b, 0, none⟩) T T), (16, .slice a ns.length c), (17, .int .i64 ns.length), (18, .int .i64 k)]) (fun k => Sl (eI .u8) (some ⟨b, 0, none⟩) T (bsOf m (ns.take k) ++ List.replicate ((ns.length - k) * m) 0) :: A :: F) (fun k => ns.length - k) 0 (Nat.zero_le _) ?_ (by
    rw [show bsOf m (ns.take 0) ++ List.replicate ((ns.length - 0) * m) 0 = List.replicate T 0 from by rw [← hT, Nat.mul_comm m]; rfl]; ((try simp only [List.cons_append, List.nil_append]); repeat (first | exact ent_refl | refine ent_take (by repeat (first | exact Find.here | apply Find.there)) ?_ | refine ent_drop ?_))) ?_
  · (repeat (first | exact Env.sub_nil _ | refine Env.sub_cons rfl ?_))
  intro k hk
  dsimp only at hk ⊢
  repeat (first | refine Zq ?_ | refine Zs ?_ | refine ZT ?_ | refine ZF ?_ | refine Zc ?_ | refine XO_gU (hk := ?_))
  refine X_cond rfl (fun hc => ?_) (fun hc => ?_) <;> simp only [decide_eq_true_eq, decide_eq_false_iff_not] at hc
  · have hkl : k < ns.length := by omega
    refine X_view (by (repeat (first | exact Find.here | apply Find.there))) hV (by omega) ?_
    rintro b2 o2 rfl
    repeat (first | refine Zq ?_ | refine Zs ?_ | refine ZT ?_ | refine ZF ?_ | refine Zc ?_ | refine XO_gU (hk := ?_))
    refine XO_rv (rv_velG (E' := eI .u64) (s := 1) (i := k) (x' := ns[k]) (hV := hV) (hget := by rw [List.getElem?_eq_getElem hkl])) (hk := ?_)
    refine XO_reval 22 (.int .u64 ns[k]) (hv := rfl) (hk := ?_)
    have hkm := hsp k hk
    have hkm1 := hsp (k + 1) hkl
    have hki : (k : Int) * (m : Int) = ((k * m : Nat) : Int) := by simp
    repeat (first | refine Zq ?_ | refine Zs ?_ | refine ZT ?_ | refine ZF ?_ | refine Zc ?_ | refine XO_gU (hk := ?_))
    refine XO_reval 26 (.int .i64 ((k * m : Nat) : Int)) (hv := by rw [hki]) (hk := ?_)
    have hlen : (bsOf m (ns.take k) ++ List.replicate ((ns.length - k) * m) 0).length = T := by rw [List.length_append, hbl k hk, List.length_replicate]; omega
    have hm2 : m ≤ (ns.length - k) * m := Nat.le_mul_of_pos_left m (by omega)
    have hput := wput_spec b T (k * m) (bsOf m (ns.take k) ++ List.replicate ((ns.length - k) * m) 0) m ns[k] hw (by omega) (by omega)
    rw [hlen, hmT, show k * m = (bsOf m (ns.take k)).length from (hbl k hk).symm, cut_zeros (by rw [leB_len]; omega), leB_len, ← bsOf_snoc, ← List.take_succ_eq_append_getElem hkl, hbl k hk, show (ns.length - k) * m - m = (ns.length - (k + 1)) * m from by rw [Nat.add_mul] at hkm1; omega] at hput
    refine XO_call hput (hk := ?_)
    rintro _ _ ⟨rfl, rfl⟩
    repeat (first | refine Zq ?_ | refine Zs ?_ | refine ZT ?_ | refine ZF ?_ | refine Zc ?_ | refine XO_gU (hk := ?_))
    exact X_round (k + 1) (by show k + 1 ≤ _; omega) (by show ns.length - (k + 1) < ns.length - k; omega) (by (repeat (first | exact Env.sub_nil _ | refine Env.sub_cons rfl ?_))) (by ((try simp only [List.cons_append, List.nil_append]); repeat (first | exact ent_refl | refine ent_take (by repeat (first | exact Find.here | apply Find.there)) ?_ | refine ent_drop ?_)))
  · obtain rfl : k = ns.length := by omega
    repeat (first | refine Zq ?_ | refine Zs ?_ | refine ZT ?_ | refine ZF ?_ | refine Zc ?_ | refine XO_gU (hk := ?_))
    rw [List.take_length, Nat.sub_self, Nat.zero_mul, List.replicate_zero, List.append_nil]
    refine XE_ret (.inl rfl) (tells_tmps rfl rfl) ⟨_, ⟨b, rfl, rfl⟩, ?_⟩
    ((try simp only [List.cons_append, List.nil_append]); repeat (first | exact ent_refl | refine ent_take (by repeat (first | exact Find.here | apply Find.there)) ?_ | refine ent_drop ?_))
end Go.Proofs.Ytmndddegnfbaaaa.Sep
