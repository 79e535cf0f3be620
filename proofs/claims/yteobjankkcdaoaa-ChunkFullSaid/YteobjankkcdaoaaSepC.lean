import Derived.Test.YteobjankkcdaoaaSepB
namespace Go.Proofs.Yteobjankkcdaoaa.Sep
open Go.RowKit
set_option linter.unusedSimpArgs false
set_option linter.unusedVariables false

/-! ### what is known of types and functions -/
class IsEnt (P : Program) (f : FuncId) : Prop where
  out : Enters P f
class TU (P : Program) (t : TypeId) (d : outParam TypeDesc) : Prop where
  out : P.underlying t = some d
class TI (P : Program) (t : TypeId) (z : outParam Value) (size bytes : outParam Nat) : Prop where
  out : ∃ i, P.info? t = some i ∧ i.zero = some z ∧ i.size = size ∧ i.bytes = bytes
def aggD : TypeDesc → Bool
  | .struct _ | .array _ _ => true
  | _ => false
section
variable {P : Program} {w : World} {t : TypeId}
theorem run_und {d : TypeDesc} (h : P.underlying t = some d) : (underlying t).run P w = .ok d w := by simp [underlying, h]
theorem run_isAgg {d : TypeDesc} (h : P.underlying t = some d) : (isAgg t).run P w = .ok (aggD d) w := by
  simp only [isAgg, Sem.run_bind, run_und h, Result.andThen_ok]
  cases d <;> rfl
theorem run_size {z : Value} {s b : Nat} (h : TI P t z s b) : (sizeOf t).run P w = .ok s w := by
  obtain ⟨i, h1, _, h3, _⟩ := h.out
  simp [sizeOf, typeInfo, h1, h3]
theorem run_zero {z : Value} {s b : Nat} (h : TI P t z s b) : (zeroValue t).run P w = .ok z w := by
  obtain ⟨i, h1, h2, _, _⟩ := h.out
  simp [zeroValue, typeInfo, h1, h2]
end

section
variable {P : Program} {w0 : World} {n : Nat} {Q : Exit → Act → World → Prop} {k : List KI} {e : Env} {L : List HP} {all : Array Oper} {rest : List Oper} {ty : TypeId} {pos : String} {aft : Array Edge} {d : Nat}
def PV (P : Program) (op : Op) (ty : TypeId) (e : Env) (v : Value) : Prop :=
  ∀ tm w pos aft, Agree e tm → (execOp (Act.mk tm []).eval ⟨none, op, ty, pos, aft, none⟩).run P w = .ok (.value v) w
theorem XO_pv {op : Op} {v : Value} (h : PV P op ty e v) (hd : d < n := by exact Nat.le_of_ble_eq_true rfl) (hk : XO ⟨P, w0, n, Q⟩ all k rest ((d, v) :: e) L) : XO ⟨P, w0, n, Q⟩ all k (⟨some d, op, ty, pos, aft, none⟩ :: rest) e L :=
  XO_runs (Φ := fun v' L' => v' = v ∧ L' = L) (fun tm w pos aft _ h2 h3 => ⟨v, w, L, h tm w pos aft h2, ⟨rfl, rfl⟩, h3⟩) hd (fun _ _ ⟨h1, h2⟩ => by subst h1 h2; exact hk)
/-- An operation that only reads answers v. -/
def RV (P : Program) (w0 : World) (op : Op) (ty : TypeId) (e : Env) (L : List HP) (v : Value) : Prop :=
  ∀ tm w pos aft, Agree e tm → Sat w0 w L → (execOp (Act.mk tm []).eval ⟨none, op, ty, pos, aft, none⟩).run P w = .ok (.value v) w
theorem rv_of_pv {op : Op} {v : Value} (h : PV P op ty e v) : RV P w0 op ty e L v := fun tm w pos aft h1 _ => h tm w pos aft h1
theorem XO_rv {op : Op} {v : Value} (h : RV P w0 op ty e L v) (hd : d < n := by exact Nat.le_of_ble_eq_true rfl) (hk : XO ⟨P, w0, n, Q⟩ all k rest ((d, v) :: e) L) : XO ⟨P, w0, n, Q⟩ all k (⟨some d, op, ty, pos, aft, none⟩ :: rest) e L :=
  XO_runs (Φ := fun v' L' => v' = v ∧ L' = L) (fun tm w pos aft _ h2 h3 => ⟨v, w, L, h tm w pos aft h2 h3, ⟨rfl, rfl⟩, h3⟩) hd (fun _ _ ⟨h1, h2⟩ => by subst h1 h2; exact hk)
/-- An operation that acts: with some answer that Φ tells of. -/
def DV (P : Program) (w0 : World) (op : Op) (ty : TypeId) (e : Env) (L : List HP) (Φ : Value → List HP → Prop) : Prop :=
  ∀ tm w pos aft (d : Option Nat) (K : Act → World → Prop) (Q : Exit → Act → World → Prop), Agree e tm → Sat w0 w L → (∀ v w' L', Φ v L' → Sat w0 w' L' → K ((Act.mk tm []).put d v) w') →
    Oper.wp P ⟨d, op, ty, pos, aft, none⟩ ⟨tm, []⟩ w K Q
theorem dv_of_run {op : Op} {Φ : Value → List HP → Prop} (h : ∀ tm w pos aft, Agree e tm → Sat w0 w L → ∃ v w' L', (execOp (Act.mk tm []).eval ⟨none, op, ty, pos, aft, none⟩).run P w = .ok (.value v) w' ∧ Φ v L' ∧ Sat w0 w' L') : DV P w0 op ty e L Φ := by
  intro tm w pos aft d K Q h1 h2 hK
  obtain ⟨v, w', L', hrun, hΦ, hs⟩ := h tm w pos aft h1 h2
  unfold Oper.wp
  rw [execOp_dst, hrun, Oper.upon_value]
  exact hK v w' L' hΦ hs
theorem dv_of_skip {op : Op} {Φ : Value → List HP → Prop} (h : ∀ tm w pos aft, Agree e tm → Sat w0 w L → ∃ w' L', (execOp (Act.mk tm []).eval ⟨none, op, ty, pos, aft, none⟩).run P w = .ok .skip w' ∧ Φ undef L' ∧ Sat w0 w' L') : DV P w0 op ty e L Φ := by
  intro tm w pos aft d K Q h1 h2 hK
  obtain ⟨w', L', hrun, hΦ, hs⟩ := h tm w pos aft h1 h2
  unfold Oper.wp
  rw [execOp_dst, hrun, Oper.upon_skip]
  exact hK _ w' L' hΦ hs
theorem dv_of_rv {op : Op} {v : Value} (h : RV P w0 op ty e L v) : DV P w0 op ty e L (fun v' L' => v' = v ∧ L' = L) :=
  dv_of_run fun tm w pos aft h1 h2 => ⟨v, w, L, h tm w pos aft h1 h2, ⟨rfl, rfl⟩, h2⟩
theorem XO_dv {op : Op} {Φ : Value → List HP → Prop} (h : DV P w0 op ty e L Φ) (hd : d < n := by exact Nat.le_of_ble_eq_true rfl) (hk : ∀ v L', Φ v L' → XO ⟨P, w0, n, Q⟩ all k rest ((d, v) :: e) L') : XO ⟨P, w0, n, Q⟩ all k (⟨some d, op, ty, pos, aft, none⟩ :: rest) e L := by
  intro tm w h1 h2 h3
  unfold wpList
  rw [if_pos (show Region.wanted _ _ = true from rfl)]
  exact .inl (h tm w pos aft (some d) _ _ h2 h3 fun v w' L' hΦ hs => hk v L' hΦ _ w' (by simp [Act.put, h1]) (h2.put (by rw [h1]; exact hd)) hs)
theorem XO_dv0 {op : Op} {Φ : Value → List HP → Prop} (h : DV P w0 op ty e L Φ) (hk : ∀ v L', Φ v L' → XO ⟨P, w0, n, Q⟩ all k rest e L') : XO ⟨P, w0, n, Q⟩ all k (⟨none, op, ty, pos, aft, none⟩ :: rest) e L := by
  intro tm w h1 h2 h3
  unfold wpList
  rw [if_pos (show Region.wanted _ _ = true from rfl)]
  exact .inl (h tm w pos aft none _ _ h2 h3 fun v w' L' hΦ hs => hk v L' hΦ _ w' h1 h2 hs)
theorem wrap_i64 {x : Int} (h0 : -9223372036854775808 ≤ x) (h1 : x ≤ 9223372036854775807) : IntKind.i64.wrap x = x := by
  simp [IntKind.wrap, IntKind.bits, IntKind.signed]; omega
theorem wrap_u64 {x : Int} (h0 : 0 ≤ x) (h1 : x ≤ 18446744073709551615) : IntKind.u64.wrap x = x := by
  simp [IntKind.wrap, IntKind.bits, IntKind.signed]; omega
theorem pv_move {x : Operand} {v : Value} (hx : ev e x = some v := by rfl) : PV P (.move x) ty e (v) := fun tm w pos aft h => by simp [execOp, ev_sound h hx]
theorem pv_assign {x : Operand} {v : Value} (hx : ev e x = some v := by rfl) : PV P (.assign x) ty e (v) := fun tm w pos aft h => by simp [execOp, ev_sound h hx]
theorem pv_nil_ptr {x : Operand} {a : Addr} (hx : ev e x = some (.pointer (some a)) := by rfl) : PV P (.nilCheck x) ty e (.pointer (some a)) :=
  fun tm w pos aft h => by simp [execOp, ev_sound h hx]
theorem pv_nil_fn {x : Operand} {f : FuncId} {a c : Array Value} (hx : ev e x = some (.func (.func f) a c) := by rfl) : PV P (.nilCheck x) ty e (.func (.func f) a c) :=
  fun tm w pos aft h => by simp [execOp, ev_sound h hx]
/-- A bit operation's answer. -/
def bitop (op : BinOp) (k : IntKind) (x y : Int) : Int :=
  let a := BitVec.ofInt k.bits x
  let b := BitVec.ofInt k.bits y
  k.wrap (match op with | .and => a &&& b | .or => a ||| b | .xor => a ^^^ b | _ => a &&& ~~~b).toNat
def icmp : BinOp → Int → Int → Option Bool
  | .eql, a, b => some (a == b)
  | .neq, a, b => some (a != b)
  | .lss, a, b => some (decide (a < b))
  | .leq, a, b => some (decide (a ≤ b))
  | .gtr, a, b => some (decide (b < a))
  | .geq, a, b => some (decide (b ≤ a))
  | _, _, _ => none
def iarith : BinOp → IntKind → Int → Int → Option Int
  | .add, _, a, b => some (a + b)
  | .sub, _, a, b => some (a - b)
  | .mul, _, a, b => some (a * b)
  | _, _, _, _ => none
theorem run_guard_int {op : BinOp} {t : TypeId} {x y : Operand} {kk : IntKind} {a : Int} {v : Value} {w : World} : (eqGuard op t x y (.int kk a) v).run P w = .ok () w := by
  cases op <;> simp [eqGuard]
theorem run_guard_bool {op : BinOp} {t : TypeId} {x y : Operand} {b : Bool} {v : Value} {w : World} : (eqGuard op t x y (.bool b) v).run P w = .ok () w := by
  cases op <;> simp [eqGuard]
theorem run_guard_ptr {op : BinOp} {t : TypeId} {x y : Operand} {b : Option Addr} {v : Value} {w : World} : (eqGuard op t x y (.pointer b) v).run P w = .ok () w := by
  cases op <;> simp [eqGuard]
theorem pv_cmp {op : BinOp} {t t' : TypeId} {x y : Operand} {kk : IntKind} {a b : Int} {r : Bool} (hx : ev e x = some (.int kk a) := by rfl) (hy : ev e y = some (.int kk b) := by rfl) (hr : icmp op a b = some r := by rfl) : PV P (.binOp op t x y t') ty e (.bool r) :=
  fun tm w pos aft h => by
    simp only [execOp, ev_sound h hx, ev_sound h hy, Sem.run_bind, run_guard_int, Result.andThen_ok]
    cases op <;> simp [icmp] at hr <;> subst hr <;> simp [binOp, Op.intCmp]
theorem pv_arith {op : BinOp} {t t' : TypeId} {x y : Operand} {kk : IntKind} {a b r r' : Int} (hx : ev e x = some (.int kk a) := by rfl) (hy : ev e y = some (.int kk b) := by rfl) (hr : iarith op kk a b = some r := by rfl) (hw : kk.wrap r = r' := by first | exact wrap_i64 (by omega) (by omega) | exact wrap_u64 (by omega) (by omega) | rfl) : PV P (.binOp op t x y t') ty e (.int kk r') :=
  fun tm w pos aft h => by
    subst hw
    simp only [execOp, ev_sound h hx, ev_sound h hy, Sem.run_bind, run_guard_int, Result.andThen_ok]
    cases op <;> simp [iarith] at hr <;> subst hr <;> simp [binOp, Op.intArith]
theorem pv_conv_int {s t : TypeId} {x : Operand} {kk k' : IntKind} {a r : Int} {ds : TypeDesc} [hs : TU P s ds] [ht : TU P t (.int k')] (hx : ev e x = some (.int kk a) := by rfl) (hds : ds = .int kk := by rfl) (hw : k'.wrap a = r := by first | exact wrap_i64 (by omega) (by omega) | exact wrap_u64 (by omega) (by omega) | rfl) : PV P (.convert s t x) ty e (.int k' r) :=
  fun tm w pos aft h => by
    subst hw hds
    simp [execOp, ev_sound h hx, convert, run_und hs.out, run_und ht.out, Conv.intToInt]
theorem pv_not {t : TypeId} {x : Operand} {b : Bool} (hx : ev e x = some (.bool b) := by rfl) : PV P (.unOp .not t x) ty e (.bool (!b)) :=
  fun tm w pos aft h => by simp [execOp, ev_sound h hx, Op.unary]
theorem eval_const {tm : Array Value} {ds : List Deferred} {v : Value} : (Act.mk tm ds).eval (.const v) = v := rfl
theorem equal_at (P : Program) (w : World) (t : TypeId) (x y : Value) {r : Bool} (h : ∀ d, (Op.equalIn (d + 1) t x y).run P w = .ok r w) : (Op.equal t x y).run P w = .ok r w := h 9999
theorem run_eqb {t : TypeId} {a b : Bool} (ht : P.underlying t = some .bool) {w : World} : (Op.equal t (.bool a) (.bool b)).run P w = .ok (a == b) w :=
  equal_at P w t _ _ fun d => by simp [Op.equalIn, run_und ht]
theorem run_eqnil {t el : TypeId} {a : Option Addr} (ht : P.underlying t = some (.pointer el)) {w : World} : (Op.equal t (.pointer a) (.pointer none)).run P w = .ok a.isNone w :=
  equal_at P w t _ _ fun d => by cases a <;> simp [Op.equalIn, run_und ht]
theorem pv_eqb {t t' : TypeId} {x y : Operand} {a b : Bool} {dd : TypeDesc} [ht : TU P t dd] (hdd : dd = .bool := by rfl) (hx : ev e x = some (.bool a) := by rfl) (hy : ev e y = some (.bool b) := by rfl) : PV P (.binOp .eql t x y t') ty e (.bool (a == b)) :=
  fun tm w pos aft h => by
    subst hdd
    simp only [execOp, ev_sound h hx, ev_sound h hy, Sem.run_bind, run_guard_bool, Result.andThen_ok]
    simp [binOp, run_eqb ht.out]
theorem pv_neb {t t' : TypeId} {x y : Operand} {a b : Bool} {dd : TypeDesc} [ht : TU P t dd] (hdd : dd = .bool := by rfl) (hx : ev e x = some (.bool a) := by rfl) (hy : ev e y = some (.bool b) := by rfl) : PV P (.binOp .neq t x y t') ty e (.bool (!(a == b))) :=
  fun tm w pos aft h => by
    subst hdd
    simp only [execOp, ev_sound h hx, ev_sound h hy, Sem.run_bind, run_guard_bool, Result.andThen_ok]
    simp [binOp, run_eqb ht.out]
/-- A pointer against nil. -/
theorem pv_eqnil {t t' : TypeId} {x : Operand} {a : Option Addr} {el : TypeId} [ht : TU P t (.pointer el)] (hx : ev e x = some (.pointer a) := by rfl) : PV P (.binOp .eql t x (.const (.pointer none)) t') ty e (.bool a.isNone) :=
  fun tm w pos aft h => by
    simp only [execOp, ev_sound h hx, Sem.run_bind, run_guard_ptr, Result.andThen_ok]
    simp [eval_const, binOp, run_eqnil ht.out]
theorem pv_nenil {t t' : TypeId} {x : Operand} {a : Option Addr} {el : TypeId} [ht : TU P t (.pointer el)] (hx : ev e x = some (.pointer a) := by rfl) : PV P (.binOp .neq t x (.const (.pointer none)) t') ty e (.bool a.isSome) :=
  fun tm w pos aft h => by
    simp only [execOp, ev_sound h hx, Sem.run_bind, run_guard_ptr, Result.andThen_ok]
    simp [eval_const, binOp, run_eqnil ht.out]
theorem pv_extract {x : Operand} {i : Nat} {vs : Array Value} {v : Value} (hx : ev e x = some (.tuple vs) := by rfl) (hv : vs[i]? = some v := by rfl) : PV P (.extract x i) ty e (v) :=
  fun tm w pos aft h => by simp [execOp, ev_sound h hx, Instr.extract, hv]
theorem pv_or {c y : Operand} {b b' : Bool} (hc : ev e c = some (.bool b) := by rfl) (hy : b = false → ev e y = some (.bool b')) : PV P (.pick c (.const (.bool true)) y) ty e (.bool (b || b')) :=
  fun tm w pos aft h => by
    cases b
    · simp [execOp, ev_sound h hc, asBool, ev_sound h (hy rfl)]
    · simp [execOp, ev_sound h hc, asBool, eval_const]
theorem pv_and {c x : Operand} {b b' : Bool} (hc : ev e c = some (.bool b) := by rfl) (hx : b = true → ev e x = some (.bool b')) : PV P (.pick c x (.const (.bool false))) ty e (.bool (b && b')) :=
  fun tm w pos aft h => by
    cases b
    · simp [execOp, ev_sound h hc, asBool, eval_const]
    · simp [execOp, ev_sound h hc, asBool, ev_sound h (hx rfl)]
/-- One level deeper: a pick of which the first case is known. -/
theorem pv_pickT {c x y : Operand} {v : Value} (hc : ev e c = some (.bool true) := by rfl) (hx : ev e x = some v := by rfl) : PV P (.pick c x y) ty e (v) :=
  fun tm w pos aft h => by simp [execOp, ev_sound h hc, asBool, ev_sound h hx]
theorem pv_pickF {c x y : Operand} {v : Value} (hc : ev e c = some (.bool false) := by rfl) (hy : ev e y = some v := by rfl) : PV P (.pick c x y) ty e (v) :=
  fun tm w pos aft h => by simp [execOp, ev_sound h hc, asBool, ev_sound h hy]
theorem pv_len_slice {t : TypeId} {x : Operand} {a : Option Addr} {m c : Nat} {el : TypeId} [ht : TU P t (.slice el)] (hx : ev e x = some (.slice a m c) := by rfl) : PV P (.call ⟨.builtin .len, #[x], #[t]⟩) ty e (.int .i64 (m : Int)) :=
  fun tm w pos aft h => by
    have : (underlying t).run P w = .ok (.slice el) w := run_und ht.out
    simp [execOp, resolve, invoke, builtin, Builtin.len_, ev_sound h hx, this, goInt]
theorem pv_max {ts : Array TypeId} {x y : Operand} {kk k' : IntKind} {a b : Int} (hx : ev e x = some (.int kk a) := by rfl) (hy : ev e y = some (.int k' b) := by rfl) : PV P (.call ⟨.builtin .max, #[x, y], ts⟩) ty e (.int kk (max a b)) :=
  fun tm w pos aft h => by
    have : (if a < b then b else a) = max a b := by rw [Int.max_def]; split <;> split <;> omega
    simp [execOp, resolve, invoke, builtin, Builtin.max_, Builtin.max2, ev_sound h hx, ev_sound h hy, this]
theorem pv_min {ts : Array TypeId} {x y : Operand} {kk k' : IntKind} {a b : Int} (hx : ev e x = some (.int kk a) := by rfl) (hy : ev e y = some (.int k' b) := by rfl) : PV P (.call ⟨.builtin .min, #[x, y], ts⟩) ty e (.int kk (min a b)) :=
  fun tm w pos aft h => by
    have : (if b < a then b else a) = min a b := by rw [Int.min_def]; split <;> split <;> omega
    simp [execOp, resolve, invoke, builtin, Builtin.min_, Builtin.min2, ev_sound h hx, ev_sound h hy, this]
/-- A shift by a count that is known: p is two so often. -/
theorem pv_shr {t t' : TypeId} {x y : Operand} {kk yk : IntKind} {a c : Int} (p : Int) (hx : ev e x = some (.int kk a) := by rfl) (hy : ev e y = some (.int yk c) := by rfl) (hc : (decide (c < 0)) = false := by rfl) (hp : (2 : Int) ^ min c.toNat kk.bits = p := by rfl) (ha : 0 ≤ a := by omega) : PV P (.binOp .shr t x y t') ty e (.int kk (a / p)) :=
  fun tm w pos aft h => by
    have hc' : ¬ c < 0 := of_decide_eq_false hc
    have hp0 : 0 ≤ p := by rw [← hp]; exact Int.pow_nonneg (by decide)
    simp only [execOp, ev_sound h hx, ev_sound h hy, Sem.run_bind, run_guard_int, Result.andThen_ok]
    simp [binOp, Op.shift, hc', hp, Int.fdiv_eq_ediv_of_nonneg _ hp0]
theorem XO_gT {op : Op} {d : Option Nat} {j t : Nat} {want : Bool} (hj : (all[j]?).bind (·.dst) = some t := by rfl) (ht : e.get t = some (.bool want) := by rfl)
    (hk : XO ⟨P, w0, n, Q⟩ all k (⟨d, op, ty, pos, aft, none⟩ :: rest) e L) : XO ⟨P, w0, n, Q⟩ all k (⟨d, op, ty, pos, aft, some (j, want)⟩ :: rest) e L := by
  intro tm w h1 h2 h3
  have hyi := yielded_of (all := all) hj (h2 t _ ht)
  have := hk tm w h1 h2 h3
  unfold wpList at this ⊢
  rw [if_pos (show Region.wanted _ _ = true from rfl)] at this
  rw [if_pos (show Region.wanted _ _ = true by simp [Region.wanted, hyi])]
  exact this
theorem XO_gF {op : Op} {j t : Nat} {want b : Bool} (hj : (all[j]?).bind (·.dst) = some t := by rfl) (ht : e.get t = some (.bool b) := by rfl) (hb : b = !want := by rfl) (hd : d < n := by exact Nat.le_of_ble_eq_true rfl)
    (hk : XO ⟨P, w0, n, Q⟩ all k rest ((d, undef) :: e) L) : XO ⟨P, w0, n, Q⟩ all k (⟨some d, op, ty, pos, aft, some (j, want)⟩ :: rest) e L := by
  intro tm w h1 h2 h3
  have hyi := yielded_of (all := all) hj (h2 t _ ht)
  unfold wpList
  rw [if_neg (show ¬ Region.wanted _ _ = true by cases want <;> simp_all [Region.wanted])]
  exact hk _ w (by simp [h1]) (h2.put (by rw [h1]; exact hd)) h3
/-- A slot's value, told otherwise. -/
theorem XO_reval (t : Nat) {v : Value} (v' : Value) (ht : e.get t = some v := by rfl) (hv : v = v') (hk : XO ⟨P, w0, n, Q⟩ all k rest ((t, v') :: e) L) : XO ⟨P, w0, n, Q⟩ all k rest e L := by
  subst hv
  intro tm w h1 h2 h3
  refine hk tm w h1 (fun s u hs => ?_) h3
  simp only [Env.get, List.lookup] at hs
  by_cases e1 : s = t
  · subst e1; simp at hs; subst hs; exact h2 _ _ ht
  · have : (s == t) = false := by simpa using e1
    rw [this] at hs; exact h2 s u hs
theorem XO_split {t : Nat} {b : Bool} (ht : e.get t = some (.bool b) := by rfl) (hT : b = true → XO ⟨P, w0, n, Q⟩ all k rest ((t, .bool true) :: e) L) (hF : b = false → XO ⟨P, w0, n, Q⟩ all k rest ((t, .bool false) :: e) L) : XO ⟨P, w0, n, Q⟩ all k rest e L := by
  cases b with
  | true => exact XO_reval t _ ht rfl (hT rfl)
  | false => exact XO_reval t _ ht rfl (hF rfl)
/-- A guard whose answer is known. -/
theorem XO_known {op : Op} {d : Option Nat} {j t : Nat} {want b : Bool} (v : Bool) (hj : (all[j]?).bind (·.dst) = some t := by rfl) (ht : e.get t = some (.bool b) := by rfl) (hb : b = v)
    (hk : XO ⟨P, w0, n, Q⟩ all k (⟨d, op, ty, pos, aft, some (j, want)⟩ :: rest) ((t, .bool v) :: e) L) : XO ⟨P, w0, n, Q⟩ all k (⟨d, op, ty, pos, aft, some (j, want)⟩ :: rest) e L :=
  XO_reval t _ ht (congrArg Value.bool hb) hk
/-- A guard, either way. -/
theorem XO_either {op : Op} {d : Option Nat} {j t : Nat} {want b : Bool} (hj : (all[j]?).bind (·.dst) = some t := by rfl) (ht : e.get t = some (.bool b) := by rfl)
    (hT : b = true → XO ⟨P, w0, n, Q⟩ all k (⟨d, op, ty, pos, aft, some (j, want)⟩ :: rest) ((t, .bool true) :: e) L) (hF : b = false → XO ⟨P, w0, n, Q⟩ all k (⟨d, op, ty, pos, aft, some (j, want)⟩ :: rest) ((t, .bool false) :: e) L) :
    XO ⟨P, w0, n, Q⟩ all k (⟨d, op, ty, pos, aft, some (j, want)⟩ :: rest) e L := XO_split ht hT hF
/-- A call, by what is known of the function. -/
theorem dv_call {g : Operand} {as : Array Operand} {ts : Array TypeId} {fn : FuncId} {fst cap : Array Value} {vs args : List Value} {pre R : List HP} {post : Value → List HP → Prop}
    (hs : Spec P fn args pre post) (hg : ev e g = some (.func (.func fn) fst cap) := by rfl) (has : evl e as.toList = some vs := by rfl) (hargs : fst.toList ++ vs ++ cap.toList = args := by rfl) (hf : FindAll L pre R := by repeat (first | exact FindAll.nil | exact Find.here | apply Find.there | apply FindAll.cons)) :
    DV P w0 (.call ⟨.value g, as, ts⟩) ty e L (fun v L' => ∃ L1, post v L1 ∧ L' = L1 ++ R) := by
  intro tm w pos aft d K Q h2 h3 hK
  unfold Oper.wp
  have hargs' : as.map (Act.mk tm []).eval = vs.toArray := by
    have := evl_sound (ds := []) h2 has
    rw [← this]; exact Array.ext' (by simp)
  have hrun : (execOp (Act.mk tm []).eval ⟨d, .call ⟨.value g, as, ts⟩, ty, pos, aft, none⟩).run P w = .ok (.enter fn args.toArray) w := by
    simp only [execOp, resolve, Deferred.ofValue, ev_sound h2 hg, hargs', invoke, Sem.run_bind, Sem.run_pure, Result.andThen_ok, hs.1 _ w]
    rw [← hargs]; exact congrArg (fun a => Result.ok (Next.enter fn a) w) (Array.ext' (by simp))
  rw [hrun, Oper.upon_enter]
  refine (hs.2 w0 w R (h3.findAll hf)).mono ?_
  rintro _ w' ⟨v, L', rfl, hp, hsat⟩
  exact hK v w' _ ⟨L', hp, rfl⟩ hsat
theorem XO_call {g : Operand} {as : Array Operand} {ts : Array TypeId} {fn : FuncId} {fst cap : Array Value} {vs args : List Value} {pre R : List HP} {post : Value → List HP → Prop}
    (hs : Spec P fn args pre post) (hg : ev e g = some (.func (.func fn) fst cap) := by rfl) (has : evl e as.toList = some vs := by rfl) (hargs : fst.toList ++ vs ++ cap.toList = args := by rfl) (hf : FindAll L pre R := by repeat (first | exact FindAll.nil | exact Find.here | apply Find.there | apply FindAll.cons)) (hd : d < n := by exact Nat.le_of_ble_eq_true rfl)
    (hk : ∀ v L', post v L' → XO ⟨P, w0, n, Q⟩ all k rest ((d, v) :: e) (L' ++ R)) : XO ⟨P, w0, n, Q⟩ all k (⟨some d, .call ⟨.value g, as, ts⟩, ty, pos, aft, none⟩ :: rest) e L :=
  XO_dv (dv_call hs hg has hargs hf) hd (by rintro v _ ⟨L1, hp, rfl⟩; exact hk v L1 hp)
theorem XO_call0 {g : Operand} {as : Array Operand} {ts : Array TypeId} {fn : FuncId} {fst cap : Array Value} {vs args : List Value} {pre R : List HP} {post : Value → List HP → Prop}
    (hs : Spec P fn args pre post) (hg : ev e g = some (.func (.func fn) fst cap) := by rfl) (has : evl e as.toList = some vs := by rfl) (hargs : fst.toList ++ vs ++ cap.toList = args := by rfl) (hf : FindAll L pre R := by repeat (first | exact FindAll.nil | exact Find.here | apply Find.there | apply FindAll.cons))
    (hk : ∀ v L', post v L' → XO ⟨P, w0, n, Q⟩ all k rest e (L' ++ R)) : XO ⟨P, w0, n, Q⟩ all k (⟨none, .call ⟨.value g, as, ts⟩, ty, pos, aft, none⟩ :: rest) e L :=
  XO_dv0 (dv_call hs hg has hargs hf) (by rintro v _ ⟨L1, hp, rfl⟩; exact hk v L1 hp)
/-! the same by short names -/
theorem Zp {op : Op} {v : Value} (h : PV P op ty e v) (hk : XO ⟨P, w0, n, Q⟩ all k rest ((d, v) :: e) L) (hd : d < n := by exact Nat.le_of_ble_eq_true rfl) : XO ⟨P, w0, n, Q⟩ all k (⟨some d, op, ty, pos, aft, none⟩ :: rest) e L := XO_pv h hd hk
theorem Zr {op : Op} {v : Value} (h : RV P w0 op ty e L v) (hk : XO ⟨P, w0, n, Q⟩ all k rest ((d, v) :: e) L) (hd : d < n := by exact Nat.le_of_ble_eq_true rfl) : XO ⟨P, w0, n, Q⟩ all k (⟨some d, op, ty, pos, aft, none⟩ :: rest) e L := XO_rv h hd hk
theorem ZT {op : Op} {d : Option Nat} {j t : Nat} {want : Bool} (hk : XO ⟨P, w0, n, Q⟩ all k (⟨d, op, ty, pos, aft, none⟩ :: rest) e L) (hj : (all[j]?).bind (·.dst) = some t := by rfl) (ht : e.get t = some (.bool want) := by rfl) : XO ⟨P, w0, n, Q⟩ all k (⟨d, op, ty, pos, aft, some (j, want)⟩ :: rest) e L := XO_gT hj ht hk
theorem ZF {op : Op} {j t : Nat} {want b : Bool} (hk : XO ⟨P, w0, n, Q⟩ all k rest ((d, undef) :: e) L) (hj : (all[j]?).bind (·.dst) = some t := by rfl) (ht : e.get t = some (.bool b) := by rfl) (hb : b = !want := by rfl) (hd : d < n := by exact Nat.le_of_ble_eq_true rfl) : XO ⟨P, w0, n, Q⟩ all k (⟨some d, op, ty, pos, aft, some (j, want)⟩ :: rest) e L := XO_gF hj ht hb hd hk
end
end Go.Proofs.Yteobjankkcdaoaa.Sep
