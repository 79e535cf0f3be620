import Derived.Test.YteobjankkcdaoaaSepC
namespace Go.Proofs.Yteobjankkcdaoaa.Sep
open Go.RowKit
set_option linter.unusedSimpArgs false
set_option linter.unusedVariables false
/-! numbers: bits, shifts, division -/
section
variable {P : Program} {w0 : World} {n : Nat} {Q : Exit → Act → World → Prop} {k : List KI} {e : Env} {L R : List HP} {all : Array Oper} {rest : List Oper} {ty : TypeId} {pos : String} {aft : Array Edge} {d : Nat}
def isBit : BinOp → Bool
  | .and | .or | .xor | .andNot => true
  | _ => false
theorem pv_bits {op : BinOp} {t t' : TypeId} {x y : Operand} {kk : IntKind} {a b : Int} (hop : isBit op = true := by rfl) (hx : ev e x = some (.int kk a) := by rfl) (hy : ev e y = some (.int kk b) := by rfl) : PV P (.binOp op t x y t') ty e (.int kk (bitop op kk a b)) :=
  fun tm w pos aft h => by
    simp only [execOp, ev_sound h hx, ev_sound h hy, Sem.run_bind, run_guard_int, Result.andThen_ok]
    cases op <;> simp [isBit] at hop <;> simp [binOp, Op.intBits, bitop]
theorem pv_shrN {t t' : TypeId} {x y : Operand} {kk k2 : IntKind} {a b : Int} (hx : ev e x = some (.int kk a) := by rfl) (hy : ev e y = some (.int k2 b) := by rfl) (h0 : 0 ≤ b := by omega) : PV P (.binOp .shr t x y t') ty e (.int kk (a / (2 ^ (min b.toNat kk.bits) : Nat))) :=
  fun tm w pos aft h => by
    simp only [execOp, ev_sound h hx, ev_sound h hy, Sem.run_bind, run_guard_int, Result.andThen_ok]
    have : ¬ b < 0 := by omega
    have h2 : (2 : Int) ^ (min b.toNat kk.bits) = ((2 ^ (min b.toNat kk.bits) : Nat) : Int) := by simp
    have h3 : 0 < 2 ^ (min b.toNat kk.bits) := Nat.two_pow_pos _
    simp only [binOp, Op.shift, this, if_false, h2]
    rw [Int.fdiv_eq_ediv_of_nonneg _ (by omega)]
    simp
theorem pv_shr12 {t t' : TypeId} {x y : Operand} {kk k2 : IntKind} {a : Int} (hx : ev e x = some (.int kk a) := by rfl) (hy : ev e y = some (.int k2 12) := by rfl) (hk : Nat.ble 12 kk.bits = true := by rfl) : PV P (.binOp .shr t x y t') ty e (.int kk (a / 4096)) := by
  have h := pv_shrN (P := P) (ty := ty) (t := t) (t' := t') hx hy (by decide)
  rwa [show min (12 : Int).toNat kk.bits = 12 from Nat.min_eq_left (Nat.le_of_ble_eq_true hk)] at h
theorem pv_shlN {t t' : TypeId} {x y : Operand} {kk k2 : IntKind} {a b r : Int} (hx : ev e x = some (.int kk a) := by rfl) (hy : ev e y = some (.int k2 b) := by rfl) (h0 : 0 ≤ b := by omega) (hw : kk.wrap (a * (2 ^ (min b.toNat kk.bits) : Nat)) = r := by rfl) : PV P (.binOp .shl t x y t') ty e (.int kk r) :=
  fun tm w pos aft h => by
    subst hw
    simp only [execOp, ev_sound h hx, ev_sound h hy, Sem.run_bind, run_guard_int, Result.andThen_ok]
    have : ¬ b < 0 := by omega
    have h2 : (2 : Int) ^ (min b.toNat kk.bits) = ((2 ^ (min b.toNat kk.bits) : Nat) : Int) := by simp
    simp only [binOp, Op.shift, this, if_false, h2]
    simp
theorem pv_shl12 {t t' : TypeId} {x y : Operand} {kk k2 : IntKind} {a r : Int} (hx : ev e x = some (.int kk a) := by rfl) (hy : ev e y = some (.int k2 12) := by rfl) (hk : Nat.ble 12 kk.bits = true := by rfl) (hw : kk.wrap (a * 4096) = r := by first | exact wrap_i64 (by omega) (by omega) | exact wrap_u64 (by omega) (by omega) | rfl) : PV P (.binOp .shl t x y t') ty e (.int kk r) := by
  refine pv_shlN hx hy (by decide) ?_
  rw [show min (12 : Int).toNat kk.bits = 12 from Nat.min_eq_left (Nat.le_of_ble_eq_true hk)]
  exact hw
theorem pv_quo {t t' : TypeId} {x y : Operand} {kk : IntKind} {a b r : Int} (hx : ev e x = some (.int kk a) := by rfl) (hy : ev e y = some (.int kk b) := by rfl) (h0 : 0 ≤ a := by omega) (h1 : 0 < b := by omega) (hw : kk.wrap (a / b) = r := by first | exact wrap_i64 (by omega) (by omega) | exact wrap_u64 (by omega) (by omega) | rfl) : PV P (.binOp .quo t x y t') ty e (.int kk r) :=
  fun tm w pos aft h => by
    subst hw
    simp only [execOp, ev_sound h hx, ev_sound h hy, Sem.run_bind, run_guard_int, Result.andThen_ok]
    have : ¬ b = 0 := by omega
    simp [binOp, Op.intDiv, this, Int.tdiv_eq_ediv_of_nonneg h0]
theorem pv_rem {t t' : TypeId} {x y : Operand} {kk : IntKind} {a b : Int} (hx : ev e x = some (.int kk a) := by rfl) (hy : ev e y = some (.int kk b) := by rfl) (h0 : 0 ≤ a := by omega) (h1 : 0 < b := by omega) : PV P (.binOp .rem t x y t') ty e (.int kk (a % b)) :=
  fun tm w pos aft h => by
    simp only [execOp, ev_sound h hx, ev_sound h hy, Sem.run_bind, run_guard_int, Result.andThen_ok]
    have : ¬ b = 0 := by omega
    simp [binOp, Op.intDiv, this, Int.tmod_eq_emod_of_nonneg h0]
theorem pv_neg {t : TypeId} {x : Operand} {kk : IntKind} {a r : Int} (hx : ev e x = some (.int kk a) := by rfl) (hw : kk.wrap (0 - a) = r := by first | exact wrap_i64 (by omega) (by omega) | rfl) : PV P (.unOp .neg t x) ty e (.int kk r) :=
  fun tm w pos aft h => by subst hw; simp [execOp, ev_sound h hx, Op.unary, Op.intArith]
theorem pv_makeFunc {fn : Fn} {first captured : Array Operand} {vs ws : List Value} (hv : evl e first.toList = some vs := by rfl) (hw : evl e captured.toList = some ws := by rfl) : PV P (.makeFunc fn first captured) ty e (.func fn vs.toArray ws.toArray) :=
  fun tm w pos aft h => by
    have h1 : first.map (Act.mk tm []).eval = vs.toArray := by apply Array.toList_inj.1; simpa using evl_sound h hv
    have h2 : captured.map (Act.mk tm []).eval = ws.toArray := by apply Array.toList_inj.1; simpa using evl_sound h hw
    simp [execOp, Instr.makeFunc, h1, h2]
end
/-! what the bits are -/
theorem wrap_u64_eq (x : Int) : IntKind.u64.wrap x = x % 18446744073709551616 := by
  simp [IntKind.wrap, IntKind.bits, IntKind.signed]
theorem bitop_and_u64 {a b : Nat} (ha : a < 18446744073709551616) (hb : b < 18446744073709551616) : bitop .and .u64 a b = ((a &&& b : Nat) : Int) := by
  have h1 : a &&& b ≤ a := Nat.and_le_left
  have e1 : BitVec.ofInt 64 (a : Int) = BitVec.ofNat 64 a := by simp
  have e2 : BitVec.ofInt 64 (b : Int) = BitVec.ofNat 64 b := by simp
  have : (BitVec.ofNat 64 a &&& BitVec.ofNat 64 b).toNat = a &&& b := by
    rw [BitVec.toNat_and, BitVec.toNat_ofNat, BitVec.toNat_ofNat, Nat.mod_eq_of_lt (by omega), Nat.mod_eq_of_lt (by omega)]
  show IntKind.u64.wrap ((BitVec.ofInt 64 (a : Int) &&& BitVec.ofInt 64 (b : Int)).toNat : Int) = _
  rw [e1, e2, this]
  exact wrap_u64 (by omega) (by omega)
theorem and_mask (a k : Nat) : a &&& (2 ^ k - 1) = a % 2 ^ k := by rw [Nat.and_two_pow_sub_one_eq_mod]
theorem pow_two_of {n : Nat} (h : n ≠ 0) (h2 : n &&& (n - 1) = 0) : ∃ k, n = 2 ^ k := by
  induction n using Nat.strongRecOn with
  | _ n ih =>
    rcases Nat.mod_two_eq_zero_or_one n with hp | hp
    · have hlt : n / 2 < n := by omega
      have hne : n / 2 ≠ 0 := by omega
      have h3 : (n / 2) &&& (n / 2 - 1) = 0 := by
        have := congrArg (· / 2) h2
        simp only [Nat.and_div_two] at this
        rw [show (n - 1) / 2 = n / 2 - 1 from by omega] at this
        simpa using this
      obtain ⟨k, hk⟩ := ih _ hlt hne h3
      exact ⟨k + 1, by rw [Nat.pow_succ]; omega⟩
    · by_cases h1 : n = 1
      · exact ⟨0, h1⟩
      · exfalso
        have h3 : (n &&& (n - 1)) / 2 = 0 := by rw [h2]
        rw [Nat.and_div_two, show (n - 1) / 2 = n / 2 from by omega, Nat.and_self] at h3
        omega
theorem pow_two_and (k : Nat) : 2 ^ k &&& (2 ^ k - 1) = 0 := by rw [and_mask]; exact Nat.mod_self _
end Go.Proofs.Yteobjankkcdaoaa.Sep
