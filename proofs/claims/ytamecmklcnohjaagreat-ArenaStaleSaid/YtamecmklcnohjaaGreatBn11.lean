import Derived.Test.YtamecmklcnohjaaGreatBn9
import Derived.Test.YtamecmklcnohjaaGreatBn7
/- What the laws share: a separation logic over the model, and what the program's functions do, by it. Part 11 of 15: Handle Tab TabR TabO TabM. -/
namespace Go.Proofs.YtamecmklcnohjaaGreat.Sep
open Go.RowKit
set_option linter.unusedSimpArgs false
set_option linter.unusedVariables false
set_option maxHeartbeats 8000000
attribute [local irreducible] X XE XO XD XDi XDa PV RV DV pt base Spec Sl Mp Keeps
def HOk (k i g : Int) : Prop := 1 ≤ k ∧ k ≤ 3 ∧ (0 ≤ i ∧ i < 4294967296) ∧ (0 ≤ g ∧ g < 1073741824)
instance (k i g : Int) : Decidable (HOk k i g) := inferInstanceAs (Decidable (_ ∧ _))
def packI (k i g : Int) : Int := if HOk k i g then k * 4611686018427387904 + g * 4294967296 + i else 0
def hKind (h : Int) : Int := h / 4611686018427387904
def hSlot (h : Int) : Int := h % 4294967296
def hGen (h : Int) : Int := h / 4294967296 % 1073741824
def nextI (g : Int) : Int := if 0 ≤ g ∧ g + 1 < 1073741824 then g + 1 else 0
theorem pack_ok {k i g : Int} (h : HOk k i g) : packI k i g = k * 4611686018427387904 + g * 4294967296 + i := if_pos h
theorem pack_kind {k i g : Int} (h : HOk k i g) : hKind (packI k i g) = k := by rw [pack_ok h]; obtain ⟨a, b, ⟨c, d⟩, e, f⟩ := h; unfold hKind; omega
theorem pack_slot {k i g : Int} (h : HOk k i g) : hSlot (packI k i g) = i := by rw [pack_ok h]; obtain ⟨a, b, ⟨c, d⟩, e, f⟩ := h; unfold hSlot; omega
theorem pack_gen {k i g : Int} (h : HOk k i g) : hGen (packI k i g) = g := by rw [pack_ok h]; obtain ⟨a, b, ⟨c, d⟩, e, f⟩ := h; unfold hGen; omega
theorem pack_bd {k i g : Int} : 0 ≤ packI k i g ∧ packI k i g ≤ 18446744073709551615 := by
  unfold packI; split
  · rename_i h; obtain ⟨a, b, ⟨c, d⟩, e, f⟩ := h; omega
  · omega
theorem pack_ne {k i g : Int} (h : HOk k i g) : packI k i g ≠ 0 := by rw [pack_ok h]; obtain ⟨a, b, ⟨c, d⟩, e, f⟩ := h; omega
theorem unpack_pack {h : Int} (h0 : 0 ≤ h) (h1 : h ≤ 18446744073709551615) (hk : hKind h ≠ 0) : HOk (hKind h) (hSlot h) (hGen h) ∧ packI (hKind h) (hSlot h) (hGen h) = h := by
  have hh : HOk (hKind h) (hSlot h) (hGen h) := by unfold HOk; unfold hKind hSlot hGen at *; omega
  refine ⟨hh, ?_⟩
  rw [pack_ok hh]; unfold hKind hSlot hGen; omega
theorem shr_mask {h : Int} (h0 : 0 ≤ h) (h1 : h ≤ 18446744073709551615) (a b : Nat) (hb : b ≤ 62) : bitop .and .u64 (h / (2 ^ a : Nat)) ((2 ^ b : Nat) - 1 : Int) = h / (2 ^ a : Nat) % (2 ^ b : Nat) := by
  have hp : 0 < 2 ^ a := Nat.pow_pos (by decide)
  have hq : 2 ^ b ≤ 2 ^ 62 := Nat.pow_le_pow_right (by decide) hb
  have hq0 : 0 < 2 ^ b := Nat.pow_pos (by decide)
  obtain ⟨n, rfl⟩ := Int.eq_ofNat_of_zero_le h0
  rw [show ((2 ^ b : Nat) - 1 : Int) = ((2 ^ b - 1 : Nat) : Int) from by omega, show ((n : Int) / ((2 ^ a : Nat) : Int)) = ((n / 2 ^ a : Nat) : Int) from by simp]
  have hn : n / 2 ^ a ≤ n := Nat.div_le_self _ _
  rw [bitop_and_u64 (by omega) (by omega), and_mask]
  simp
theorem or_pack {k g i : Nat} (hk : k < 4) (hg : g < 1073741824) (hi : i < 4294967296) : (k * 4611686018427387904 ||| g * 4294967296) ||| i = k * 4611686018427387904 + g * 4294967296 + i := by
  have e1 : k * 4611686018427387904 ||| g * 4294967296 = k * 4611686018427387904 + g * 4294967296 := by
    have := Nat.two_pow_add_eq_or_of_lt (i := 62) (b := g * 4294967296) (by omega) k
    rw [show (4611686018427387904 : Nat) = 2 ^ 62 from by decide, Nat.mul_comm k]
    exact this.symm
  rw [e1]
  have := Nat.two_pow_add_eq_or_of_lt (i := 32) (b := i) (by omega) (k * 1073741824 + g)
  rw [show k * 4611686018427387904 + g * 4294967296 = 2 ^ 32 * (k * 1073741824 + g) from by omega]
  exact this.symm
theorem bitop_or_u64h {a b : Nat} (ha : a < 18446744073709551616) (hb : b < 18446744073709551616) : bitop .or .u64 a b = ((a ||| b : Nat) : Int) := by
  have hlt : a ||| b < 2 ^ 64 := Nat.or_lt_two_pow (by omega) (by omega)
  have e1 : BitVec.ofInt 64 (a : Int) = BitVec.ofNat 64 a := by simp
  have e2 : BitVec.ofInt 64 (b : Int) = BitVec.ofNat 64 b := by simp
  have : (BitVec.ofNat 64 a ||| BitVec.ofNat 64 b).toNat = a ||| b := by
    rw [BitVec.toNat_or, BitVec.toNat_ofNat, BitVec.toNat_ofNat, Nat.mod_eq_of_lt (by omega), Nat.mod_eq_of_lt (by omega)]
  show IntKind.u64.wrap ((BitVec.ofInt 64 (a : Int) ||| BitVec.ofInt 64 (b : Int)).toNat : Int) = _
  rw [e1, e2, this]
  exact wrap_u64 (by omega) (by omega)
theorem pv_shrR {P : Program} {e : Env} {ty : TypeId} {t t' : TypeId} {x y : Operand} {kk k2 : IntKind} {a b r : Int} (hx : ev e x = some (.int kk a) := by rfl) (hy : ev e y = some (.int k2 b) := by rfl) (h0 : 0 ≤ b := by omega) (hw : a / (2 ^ (min b.toNat kk.bits) : Nat) = r) : PV P (.binOp .shr t x y t') ty e (.int kk r) := by
  subst hw; exact pv_shrN hx hy h0
theorem within_spec (n : Int) (b : Nat) (hb : b ≤ 62) (h0 : -9223372036854775808 ≤ n) (h1 : n ≤ 9223372036854775807) : Spec Tryz.prog 171 [.int .i64 n, .int .i64 b] [] (fun v L => v = .bool (decide (0 ≤ n ∧ n < (2 ^ b : Nat))) ∧ L = []) := by
  refine Spec.intro (IsEnt.out) Tryz.func171 rfl Tryz.ntmps171 (by simp) (fun w0 F => ?_)
  simp only [envOf, List.zipIdx, List.map, List.cons_append, List.nil_append, Nat.zero_add, Nat.reduceAdd]
  have hmin : min (b : Int).toNat IntKind.i64.bits = b := by
    have : IntKind.i64.bits = 64 := rfl
    omega
  (repeat refine Z ?_)
  refine XO_either (hT := fun h => ?_) (hF := fun h => ?_) <;> simp only [decide_eq_true_eq, decide_eq_false_iff_not] at h
  · (repeat refine Z ?_)
    refine XO_pv (pv_shrN) (hk := ?_)
    rw [hmin]
    (repeat refine Z ?_)
    refine XE_ret (.inl rfl) (tells_tmps rfl rfl) ⟨_, ⟨?_, rfl⟩, by exact EN⟩
    have hp : 0 < 2 ^ b := Nat.pow_pos (by decide)
    refine congrArg Value.bool ?_
    rw [Bool.eq_iff_iff, decide_eq_true_eq, beq_iff_eq]
    constructor
    · intro hh
      refine ⟨h, ?_⟩
      have := Int.lt_ediv_add_one_mul_self n (show (0 : Int) < ((2 ^ b : Nat) : Int) by omega)
      rw [hh] at this; omega
    · rintro ⟨_, hh⟩
      exact Int.ediv_eq_zero_of_lt h hh
  · (repeat refine Z ?_)
    refine XE_ret (.inl rfl) (tells_tmps rfl rfl) ⟨_, ⟨?_, rfl⟩, by exact EN⟩
    refine congrArg Value.bool ?_
    rw [decide_eq_false (by omega)]
theorem next_spec (g : Int) (h0 : -9223372036854775808 ≤ g) (h1 : g ≤ 9223372036854775806) : Spec Tryz.prog 146 [.int .i64 g] [] (fun v L => v = .int .i64 (nextI g) ∧ L = []) := by
  refine Spec.intro (IsEnt.out) Tryz.func146 rfl Tryz.ntmps146 (by simp) (fun w0 F => ?_)
  simp only [envOf, List.zipIdx, List.map, List.cons_append, List.nil_append, Nat.zero_add, Nat.reduceAdd]
  (repeat refine Z ?_)
  refine XO_call (within_spec g 30 (by decide) h0 (by omega)) (hk := ?_)
  rintro _ _ ⟨rfl, rfl⟩
  by_cases hg : 0 ≤ g ∧ g < 1073741824
  · rw [show decide (0 ≤ g ∧ g < ((2 ^ 30 : Nat) : Int)) = true from decide_eq_true hg]
    (repeat refine Z ?_)
    refine XO_call (within_spec (g + 1) 30 (by decide) (by omega) (by omega)) (hk := ?_)
    rintro _ _ ⟨rfl, rfl⟩
    unfold nextI
    by_cases hg2 : g + 1 < 1073741824
    · rw [if_pos ⟨hg.1, hg2⟩, show decide (0 ≤ g + 1 ∧ g + 1 < ((2 ^ 30 : Nat) : Int)) = true from decide_eq_true ⟨by omega, hg2⟩]
      (repeat refine Z ?_)
      refine X_cond rfl (fun h => by cases h) (fun _ => ?_)
      (repeat refine Z ?_)
      refine XE_ret (.inl rfl) (tells_tmps rfl rfl) ⟨_, ⟨rfl, rfl⟩, by exact EN⟩
    · rw [if_neg (fun h => hg2 h.2), show decide (0 ≤ g + 1 ∧ g + 1 < ((2 ^ 30 : Nat) : Int)) = false from decide_eq_false (fun h => hg2 h.2)]
      (repeat refine Z ?_)
      refine X_cond rfl (fun _ => ?_) (fun h => by cases h)
      (repeat refine Z ?_)
      refine XE_ret (.inl rfl) (tells_tmps rfl rfl) ⟨_, ⟨rfl, rfl⟩, by exact EN⟩
  · rw [show decide (0 ≤ g ∧ g < ((2 ^ 30 : Nat) : Int)) = false from decide_eq_false hg]
    unfold nextI
    rw [if_neg (by omega)]
    (repeat refine Z ?_)
    refine X_cond rfl (fun _ => ?_) (fun h => by cases h)
    (repeat refine Z ?_)
    refine XE_ret (.inl rfl) (tells_tmps rfl rfl) ⟨_, ⟨rfl, rfl⟩, by exact EN⟩
theorem pack_spec (k i g : Int) (k0 : -9223372036854775808 ≤ k ∧ k ≤ 9223372036854775807) (i0 : -9223372036854775808 ≤ i ∧ i ≤ 9223372036854775807) (g0 : -9223372036854775808 ≤ g ∧ g ≤ 9223372036854775807) : Spec Tryz.prog 137 [.int .i64 k, .int .i64 i, .int .i64 g] [] (fun v L => v = .int .u64 (packI k i g) ∧ L = []) := by
  refine Spec.intro (IsEnt.out) Tryz.func137 rfl Tryz.ntmps137 (by simp) (fun w0 F => ?_)
  simp only [envOf, List.zipIdx, List.map, List.cons_append, List.nil_append, Nat.zero_add, Nat.reduceAdd]
  (repeat refine Z ?_)
  refine XO_either (hT := fun h => ?_) (hF := fun h => ?_) <;> simp only [decide_eq_true_eq, decide_eq_false_iff_not] at h
  · rw [show packI k i g = 0 from if_neg (fun hh => by have := hh.1; omega)]
    (repeat refine Z ?_)
    refine X_cond rfl (fun _ => ?_) (fun h => by cases h)
    (repeat refine Z ?_)
    refine XE_ret (.inl rfl) (tells_tmps rfl rfl) ⟨_, ⟨rfl, rfl⟩, by exact EN⟩
  (repeat refine Z ?_)
  by_cases hk3 : 3 < k
  · rw [show packI k i g = 0 from if_neg (fun hh => by have := hh.2.1; omega), decide_eq_true hk3]
    (repeat refine Z ?_)
    refine X_cond rfl (fun _ => ?_) (fun h => by cases h)
    (repeat refine Z ?_)
    refine XE_ret (.inl rfl) (tells_tmps rfl rfl) ⟨_, ⟨rfl, rfl⟩, by exact EN⟩
  rw [decide_eq_false hk3]
  (repeat refine Z ?_)
  refine XO_call (within_spec i 32 (by decide) i0.1 i0.2) (hk := ?_)
  rintro _ _ ⟨rfl, rfl⟩
  by_cases hi : 0 ≤ i ∧ i < 4294967296
  case neg =>
    rw [show packI k i g = 0 from if_neg (fun hh => hi hh.2.2.1), show decide (0 ≤ i ∧ i < ((2 ^ 32 : Nat) : Int)) = false from decide_eq_false hi]
    (repeat refine Z ?_)
    refine X_cond rfl (fun _ => ?_) (fun h => by cases h)
    (repeat refine Z ?_)
    refine XE_ret (.inl rfl) (tells_tmps rfl rfl) ⟨_, ⟨rfl, rfl⟩, by exact EN⟩
  rw [show decide (0 ≤ i ∧ i < ((2 ^ 32 : Nat) : Int)) = true from decide_eq_true hi]
  (repeat refine Z ?_)
  refine XO_call (within_spec g 30 (by decide) g0.1 g0.2) (hk := ?_)
  rintro _ _ ⟨rfl, rfl⟩
  by_cases hg : 0 ≤ g ∧ g < 1073741824
  case neg =>
    rw [show packI k i g = 0 from if_neg (fun hh => hg hh.2.2.2), show decide (0 ≤ g ∧ g < ((2 ^ 30 : Nat) : Int)) = false from decide_eq_false hg]
    (repeat refine Z ?_)
    refine X_cond rfl (fun _ => ?_) (fun h => by cases h)
    (repeat refine Z ?_)
    refine XE_ret (.inl rfl) (tells_tmps rfl rfl) ⟨_, ⟨rfl, rfl⟩, by exact EN⟩
  rw [show decide (0 ≤ g ∧ g < ((2 ^ 30 : Nat) : Int)) = true from decide_eq_true hg]
  (repeat refine Z ?_)
  refine X_cond rfl (fun h => by cases h) (fun _ => ?_)
  (repeat refine Z ?_)
  refine XO_pv (pv_shlN (r := k * 4611686018427387904) (hw := by rw [wrap_u64_eq]; show k * 4611686018427387904 % 18446744073709551616 = _; omega)) (hk := ?_)
  (repeat refine Z ?_)
  refine XO_pv (pv_shlN (r := g * 4294967296) (hw := by rw [wrap_u64_eq]; show g * 4294967296 % 18446744073709551616 = _; omega)) (hk := ?_)
  (repeat refine Z ?_)
  refine XE_ret (.inl rfl) (tells_tmps rfl rfl) ⟨_, ⟨?_, rfl⟩, by exact EN⟩
  refine congrArg (Value.int .u64) ?_
  rw [pack_ok ⟨by omega, by omega, hi, hg⟩]
  obtain ⟨k', rfl⟩ := Int.eq_ofNat_of_zero_le (show 0 ≤ k by omega)
  obtain ⟨i', rfl⟩ := Int.eq_ofNat_of_zero_le hi.1
  obtain ⟨g', rfl⟩ := Int.eq_ofNat_of_zero_le hg.1
  have e1 := or_pack (k := k') (g := g') (i := i') (by omega) (by omega) (by omega)
  rw [show (k' : Int) * 4611686018427387904 = ((k' * 4611686018427387904 : Nat) : Int) from by omega, show (g' : Int) * 4294967296 = ((g' * 4294967296 : Nat) : Int) from by omega]
  have e2 : k' * 4611686018427387904 ||| g' * 4294967296 < 2 ^ 64 := Nat.or_lt_two_pow (by omega) (by omega)
  rw [bitop_or_u64h (by omega) (by omega), bitop_or_u64h (by omega) (by omega), e1]
  omega
theorem unp1_spec (b : Nat) (h : Int) (h0 : 0 ≤ h) (h1 : h ≤ 18446744073709551615) (x y : Nat) (hx : x ≤ 62) (hy : y ≤ 62) : Spec Tryz.prog 172 [.int .i64 x, .int .i64 y, .pointer (some ⟨b, 0, none⟩)] [pt b (.cells [.int .u64 h].toArray 32 (0, 0))] (fun v L => v = .int .i64 (h / (2 ^ x : Nat) % (2 ^ y : Nat)) ∧ L = [pt b (.cells [.int .u64 h].toArray 32 (0, 0))]) := by
  refine Spec.intro (IsEnt.out) Tryz.func172 rfl Tryz.ntmps172 (by simp) (fun w0 F => ?_)
  simp only [envOf, List.zipIdx, List.map, List.cons_append, List.nil_append, Nat.zero_add, Nat.reduceAdd]
  have hb64 : IntKind.u64.bits = 64 := rfl
  have hmx : min (x : Int).toNat IntKind.u64.bits = x := by omega
  have hmy : min (y : Int).toNat IntKind.u64.bits = y := by omega
  have hy1 : (2 : Nat) ^ y ≤ 2 ^ 62 := Nat.pow_le_pow_right (by decide) hy
  have hy0 : 0 < 2 ^ y := Nat.pow_pos (by decide)
  have hyc : ((2 : Int) ^ y) = ((2 ^ y : Nat) : Int) := by simp
  have hr0 : 0 ≤ h / (2 ^ x : Nat) % (2 ^ y : Nat) := Int.emod_nonneg _ (by omega)
  have hr1 : h / (2 ^ x : Nat) % (2 ^ y : Nat) < (2 ^ y : Nat) := Int.emod_lt_of_pos _ (by omega)
  (repeat refine Z ?_)
  (repeat refine ZD ?_)
  refine Dp (pv_shrR (r := h / (2 ^ x : Nat)) (hw := by rw [hmx])) ?_
  (repeat refine ZD ?_)
  refine Dp (pv_shlN (r := ((2 ^ y : Nat) : Int)) (hw := by rw [hmy, Int.one_mul, wrap_u64_eq]; omega)) ?_
  (repeat refine ZD ?_)
  rw [shr_mask h0 h1 x y hy, show IntKind.i64.wrap (h / (2 ^ x : Nat) % (2 ^ y : Nat)) = h / (2 ^ x : Nat) % (2 ^ y : Nat) from wrap_i64 (by omega) (by omega)]
  (refine XD_one (h := ?_); refine XDa_dvA (dv_of_rv (rv_of_pv pv_assign)) (hk := ?_); rintro _ _ ⟨rfl, rfl⟩; refine ⟨by exact KP, ?_⟩)
  (refine XD_end (h := ?_); (repeat refine Z ?_))
  refine XE_ret (.inl rfl) (tells_tmps rfl rfl) ⟨_, ⟨rfl, rfl⟩, by exact EN⟩
def unpV (h : Int) : Value := if hKind h = 0 then .tuple #[.int .i64 0, .int .i64 0, .int .i64 0, .bool false] else .tuple #[.int .i64 (hKind h), .int .i64 (hSlot h), .int .i64 (hGen h), .bool true]
theorem unpack_spec (h : Int) (h0 : 0 ≤ h) (h1 : h ≤ 18446744073709551615) : Spec Tryz.prog 143 [.int .u64 h] [] (fun v L => v = unpV h ∧ L = []) := by
  refine Spec.intro (IsEnt.out) Tryz.func143 rfl Tryz.ntmps143 (by simp) (fun w0 F => ?_)
  simp only [envOf, List.zipIdx, List.map, List.cons_append, List.nil_append, Nat.zero_add, Nat.reduceAdd]
  (repeat refine Z ?_)
  refine XO_dv dv_box1 (hk := ?_)
  rintro _ _ ⟨cb, rfl, rfl⟩
  (repeat refine Z ?_)
  refine XO_call (unp1_spec cb h h0 h1 62 2 (by decide) (by decide)) (hk := ?_)
  rintro _ _ ⟨rfl, rfl⟩
  rw [show h / ((2 ^ 62 : Nat) : Int) % ((2 ^ 2 : Nat) : Int) = hKind h from by show h / 4611686018427387904 % 4 = h / 4611686018427387904; omega]
  (repeat refine Z ?_)
  unfold unpV
  refine X_cond rfl (fun hh => ?_) (fun hh => ?_) <;> simp only [beq_iff_eq, beq_eq_false_iff_ne, ne_eq] at hh
  · rw [if_pos hh]
    (repeat refine Z ?_)
    refine XE_ret (.inl rfl) (tells_tmps rfl rfl) ⟨_, ⟨rfl, rfl⟩, by exact EN⟩
  rw [if_neg hh]
  (repeat refine Z ?_)
  (repeat refine ZD ?_)
  rw [show IntKind.i64.wrap (IntKind.u32.wrap h) = hSlot h from by
    have e1 : IntKind.u32.wrap h = h % 4294967296 := by simp [IntKind.wrap, IntKind.bits, IntKind.signed]
    rw [e1]; exact wrap_i64 (by omega) (by omega)]
  refine XD_one (h := ?_)
  refine XDa_dvA (dv_call (unp1_spec cb h h0 h1 32 30 (by decide) (by decide))) (hk := ?_)
  (rintro _ _ ⟨_, ⟨rfl, rfl⟩, rfl⟩; refine ⟨by exact KP, ?_⟩)
  rw [show h / ((2 ^ 32 : Nat) : Int) % ((2 ^ 30 : Nat) : Int) = hGen h from rfl]
  (repeat refine ZD ?_)
  (refine XD_one (h := ?_); refine XDa_dvA (dv_of_rv (rv_of_pv pv_assign)) (hk := ?_); rintro _ _ ⟨rfl, rfl⟩; refine ⟨by exact KP, ?_⟩)
  (refine XD_one (h := ?_); refine XDa_dvA (dv_of_rv (rv_of_pv pv_assign)) (hk := ?_); rintro _ _ ⟨rfl, rfl⟩; refine ⟨by exact KP, ?_⟩)
  (refine XD_one (h := ?_); refine XDa_dvA (dv_of_rv (rv_of_pv pv_assign)) (hk := ?_); rintro _ _ ⟨rfl, rfl⟩; refine ⟨by exact KP, ?_⟩)
  (refine XD_one (h := ?_); refine XDa_dvA (dv_of_rv (rv_of_pv pv_assign)) (hk := ?_); rintro _ _ ⟨rfl, rfl⟩; refine ⟨by exact KP, ?_⟩)
  (refine XD_end (h := ?_); (repeat refine Z ?_))
  refine XE_ret (.inl rfl) (tells_tmps rfl rfl) ⟨_, ⟨rfl, rfl⟩, by exact EN⟩
end Go.Proofs.YtamecmklcnohjaaGreat.Sep
namespace Go.Proofs.YtamecmklcnohjaaGreat.Sep
open Go.RowKit
set_option linter.unusedSimpArgs false
set_option linter.unusedVariables false
structure Tb (α : Type) where
  kind : Int
  slots : List (α × Bool × Int)
  free : List Int
section
variable {α : Type}
def Tb.genAt (t : Tb α) (i : Nat) : Int := match t.slots[i]? with
  | none => 0
  | some q => q.2.2
def Tb.hAt (t : Tb α) (i : Nat) : Int := packI t.kind i (t.genAt i)
def Tb.usedAt (t : Tb α) (i : Nat) : Bool := match t.slots[i]? with
  | none => false
  | some q => q.2.1
def Tb.spot (t : Tb α) (h : Int) : Option Nat :=
  if hKind h ≠ 0 ∧ t.usedAt (hSlot h).toNat = true ∧ hKind h = t.kind ∧ hGen h = t.genAt (hSlot h).toNat then some (hSlot h).toNat else none
def Tb.get (t : Tb α) (h : Int) : Option α := (t.spot h).bind fun i => t.slots[i]?.map (·.1)
def Tb.nx (t : Tb α) : Nat := match t.free.getLast? with
  | none => t.slots.length
  | some i => i.toNat
def Tb.addH (t : Tb α) : Int := t.hAt t.nx
def Tb.add (t : Tb α) (v : α) : Tb α := match t.free.getLast? with
  | none => ⟨t.kind, t.slots ++ [(v, true, 0)], t.free⟩
  | some i => ⟨t.kind, t.slots.set i.toNat (v, true, t.genAt i.toNat), t.free.dropLast⟩
def Tb.put (t : Tb α) (h : Int) (v : α) : Tb α := match t.spot h with
  | none => t
  | some i => ⟨t.kind, t.slots.set i (v, true, t.genAt i), t.free⟩
def Tb.drop (d : α) (t : Tb α) (h : Int) : Tb α := match t.spot h with
  | none => t
  | some i => ⟨t.kind, t.slots.set i (d, false, nextI (t.genAt i)), t.free ++ [(i : Int)]⟩
def Tb.handlesTo (t : Tb α) : Nat → List Int
  | 0 => []
  | k + 1 => t.handlesTo k ++ (if t.usedAt k = true then [t.hAt k] else [])
def Tb.handles (t : Tb α) : List Int := t.handlesTo t.slots.length
structure TbOk (N : Nat) (t : Tb α) : Prop where
  hN : N ≤ 1000000
  kd : 1 ≤ t.kind ∧ t.kind ≤ 3
  len : t.slots.length ≤ N
  gens : ∀ q ∈ t.slots, 0 ≤ q.2.2 ∧ q.2.2 ≤ N
  free : ∀ i ∈ t.free, 0 ≤ i ∧ i.toNat < t.slots.length ∧ t.usedAt i.toNat = false
  nd : t.free.Nodup
theorem Tb.usedAt_lt {t : Tb α} {i : Nat} (h : t.usedAt i = true) : i < t.slots.length := by
  unfold Tb.usedAt at h
  rcases Nat.lt_or_ge i t.slots.length with h1 | h1
  · exact h1
  · rw [List.getElem?_eq_none h1] at h; cases h
theorem TbOk.gen {N : Nat} {t : Tb α} (h : TbOk N t) (i : Nat) : 0 ≤ t.genAt i ∧ t.genAt i ≤ N := by
  unfold Tb.genAt
  cases hq : t.slots[i]? with
  | none => exact ⟨Int.le_refl _, Int.natCast_nonneg _⟩
  | some q => exact h.gens q (List.mem_of_getElem? hq)
theorem TbOk.hok {N : Nat} {t : Tb α} (h : TbOk N t) {i : Nat} (hi : i ≤ N) : HOk t.kind i (t.genAt i) := by
  have := h.gen i; have := h.hN; have := h.kd
  exact ⟨this.1, this.2, ⟨by omega, by omega⟩, by omega, by omega⟩
theorem Tb.spot_some {t : Tb α} {h : Int} {i : Nat} (hs : t.spot h = some i) : hKind h ≠ 0 ∧ t.usedAt i = true ∧ hKind h = t.kind ∧ hGen h = t.genAt i ∧ (hSlot h).toNat = i ∧ i < t.slots.length := by
  unfold Tb.spot at hs
  split at hs
  · rename_i hh; cases hs; exact ⟨hh.1, hh.2.1, hh.2.2.1, hh.2.2.2, rfl, Tb.usedAt_lt hh.2.1⟩
  · cases hs
theorem TbOk.nx_le {N : Nat} {t : Tb α} (h : TbOk N t) : t.nx ≤ t.slots.length := by
  unfold Tb.nx
  cases hl : t.free.getLast? with
  | none => exact Nat.le_refl _
  | some i => exact Nat.le_of_lt (h.free i (List.mem_of_getLast? hl)).2.1
theorem nodup_len : ∀ (n : Nat) (l : List Int), l.Nodup → (∀ x ∈ l, 0 ≤ x ∧ x.toNat < n) → l.length ≤ n
  | 0, l, _, h => by
    cases l with
    | nil => exact Nat.le_refl _
    | cons x l => have := h x (by simp); omega
  | n + 1, l, hn, h => by
    have h1 := nodup_len n (l.erase (n : Int)) (hn.erase _) fun x hx => by
      have hx' := hn.mem_erase_iff.1 hx
      have := h x hx'.2
      have hne := hx'.1
      omega
    have h2 := List.length_erase (a := (n : Int)) (l := l)
    split at h2 <;> omega
theorem TbOk.fl {N : Nat} {t : Tb α} (h : TbOk N t) : t.free.length ≤ t.slots.length := nodup_len _ _ h.nd fun x hx => ⟨(h.free x hx).1, (h.free x hx).2.1⟩
def Tb.room (d : α) (t : Tb α) : Tb α := match t.free.getLast? with
  | none => ⟨t.kind, t.slots ++ [(d, false, 0)], t.free⟩
  | some _ => ⟨t.kind, t.slots, t.free.dropLast⟩
theorem Tb.room_lt {N : Nat} {t : Tb α} (h : TbOk N t) (d : α) : t.nx < (t.room d).slots.length := by
  unfold Tb.room Tb.nx
  cases hl : t.free.getLast? with
  | none => simp
  | some i => exact (h.free i (List.mem_of_getLast? hl)).2.1
theorem Tb.room_gen {N : Nat} {t : Tb α} (h : TbOk N t) (d : α) (hi : t.nx < (t.room d).slots.length) : (t.room d).slots[t.nx].2.2 = t.genAt t.nx := by
  have key : (t.room d).slots[t.nx]?.map (·.2.2) = some (t.genAt t.nx) := by
    unfold Tb.room Tb.nx Tb.genAt
    cases hl : t.free.getLast? with
    | none => simp
    | some i =>
      have := (h.free i (List.mem_of_getLast? hl)).2.1
      simp [this]
  rw [List.getElem?_eq_getElem hi] at key
  exact Option.some.inj key
theorem Tb.add_eq {N : Nat} {t : Tb α} (h : TbOk N t) (d v : α) : t.add v = ⟨t.kind, (t.room d).slots.set t.nx (v, true, t.genAt t.nx), (t.room d).free⟩ := by
  unfold Tb.room Tb.nx Tb.add
  cases hl : t.free.getLast? with
  | none => simp [hl, Tb.genAt]
  | some i => simp [hl]
theorem Tb.add_len {N : Nat} {t : Tb α} (h : TbOk N t) (v : α) : (t.add v).slots.length ≤ t.slots.length + 1 := by
  unfold Tb.add
  cases hl : t.free.getLast? with
  | none => simp
  | some i => simp
theorem Tb.add_gen {N : Nat} {t : Tb α} (h : TbOk N t) (v : α) (j : Nat) : (t.add v).genAt j = t.genAt j := by
  unfold Tb.add Tb.genAt
  cases hl : t.free.getLast? with
  | none =>
    simp only
    rcases Nat.lt_trichotomy j t.slots.length with h1 | h1 | h1
    · rw [List.getElem?_append_left h1]
    · subst h1; simp
    · rw [List.getElem?_eq_none (by simp; omega), List.getElem?_eq_none (by omega)]
  | some i =>
    have hi := (h.free i (List.mem_of_getLast? hl)).2.1
    simp only
    rw [List.getElem?_set]
    by_cases h1 : i.toNat = j
    · subst h1; simp [hi]
    · rw [if_neg h1]
theorem Tb.add_used {N : Nat} {t : Tb α} (h : TbOk N t) (v : α) (j : Nat) : (t.add v).usedAt j = if j = t.nx then true else t.usedAt j := by
  unfold Tb.add Tb.usedAt Tb.nx
  cases hl : t.free.getLast? with
  | none =>
    simp only
    rcases Nat.lt_trichotomy j t.slots.length with h1 | h1 | h1
    · rw [List.getElem?_append_left h1, if_neg (by omega)]
    · subst h1; simp
    · rw [List.getElem?_eq_none (by simp; omega), List.getElem?_eq_none (by omega), if_neg (by omega)]
  | some i =>
    have hi := (h.free i (List.mem_of_getLast? hl)).2.1
    simp only
    rw [List.getElem?_set]
    by_cases h1 : i.toNat = j
    · subst h1; simp [hi]
    · rw [if_neg h1, if_neg (fun e => h1 e.symm)]
theorem TbOk.add {N : Nat} {t : Tb α} (h : TbOk N t) (hN : N + 1 ≤ 1000000) (v : α) : TbOk (N + 1) (t.add v) := by
  refine ⟨hN, ?_, ?_, ?_, ?_, ?_⟩
  · have := h.kd; unfold Tb.add; cases t.free.getLast? <;> exact this
  · have := Tb.add_len h v; have := h.len; omega
  · intro q hq
    have hg := fun q hq => h.gens q hq
    unfold Tb.add at hq
    cases hl : t.free.getLast? with
    | none =>
      rw [hl] at hq
      rcases List.mem_append.1 hq with h1 | h1
      · have := hg q h1; omega
      · simp at h1; subst h1; simp; omega
    | some i =>
      rw [hl] at hq
      rcases List.mem_or_eq_of_mem_set hq with h1 | h1
      · have := hg q h1; omega
      · subst h1; have := h.gen i.toNat; simp only; omega
  · intro i hi
    have hf : i ∈ t.free ∧ i.toNat ≠ t.nx := by
      unfold Tb.add at hi
      cases hl : t.free.getLast? with
      | none =>
        rw [hl] at hi
        have : t.free = [] := List.getLast?_eq_none_iff.1 hl
        simp only [this] at hi; cases hi
      | some j =>
        rw [hl] at hi
        have hm := List.dropLast_subset _ hi
        refine ⟨hm, fun e => ?_⟩
        have e1 : t.nx = j.toNat := by unfold Tb.nx; rw [hl]
        have hj := h.free j (List.mem_of_getLast? hl)
        have hij : i = j := by have := (h.free i hm).1; omega
        subst hij
        have hne : t.free ≠ [] := fun e => by rw [e] at hl; cases hl
        have hd := List.dropLast_concat_getLast hne
        have hlast : t.free.getLast hne = i := by rw [List.getLast?_eq_some_getLast hne] at hl; exact Option.some.inj hl
        have hnd := h.nd
        rw [← hd, hlast, List.nodup_append] at hnd
        exact hnd.2.2 i hi i (by simp) rfl
    have h1 := h.free i hf.1
    refine ⟨h1.1, ?_, ?_⟩
    · rw [show (t.add v).slots.length = (t.room v).slots.length from by rw [Tb.add_eq h v v]; simp]
      have : t.slots.length ≤ (t.room v).slots.length := by unfold Tb.room; cases t.free.getLast? <;> simp
      omega
    · rw [Tb.add_used h, if_neg hf.2]; exact h1.2.2
  · unfold Tb.add
    cases hl : t.free.getLast? with
    | none => exact h.nd
    | some i => exact (List.dropLast_sublist _).nodup h.nd
def slotA : Option Addr → Nat → Option Nat → Option Addr
  | some ad, s, some i => some ⟨ad.block, ad.off + i * s, none⟩
  | _, _, _ => none
def eSlt (eV : E α) : E (α × Bool × Int) := ⟨eV.sz + 2, true, fun q => eV.cells q.1 ++ [.bool q.2.1, .int .i64 q.2.2], fun q => by simp [eV.len], fun q v hv => by
  rcases List.mem_append.1 hv with h | h
  · exact eV.one _ _ h
  · simp at h; rcases h with rfl | rfl <;> rfl, by omega, fun h => by cases h⟩
abbrev tbRow (k : Int) (a1 : Option Addr) (n1 c1 : Nat) (a2 : Option Addr) (n2 c2 : Nat) : List Value := [.int .i64 k, .slice a1 n1 c1, .slice a2 n2 c2]
def Tbl (eV : E α) (T : TypeId) (b : Nat) (t : Tb α) : HP := fun H => ∃ x : (Option Addr × Nat) × (Option Addr × Nat), SL [pt b (.cells (tbRow t.kind x.1.1 t.slots.length x.1.2 x.2.1 t.free.length x.2.2).toArray T (0, 0)), Sl (eSlt eV) x.1.1 x.1.2 t.slots, Sl (eI .i64) x.2.1 x.2.2 t.free] H
theorem Tbl.open {eV : E α} {T : TypeId} {b : Nat} {t : Tb α} : ∀ H, Tbl eV T b t H → ∃ x : (Option Addr × Nat) × (Option Addr × Nat), True ∧ SL [pt b (.cells (tbRow t.kind x.1.1 t.slots.length x.1.2 x.2.1 t.free.length x.2.2).toArray T (0, 0)), Sl (eSlt eV) x.1.1 x.1.2 t.slots, Sl (eI .i64) x.2.1 x.2.2 t.free] H := fun H ⟨x, h⟩ => ⟨x, trivial, h⟩
theorem Tbl.fold {eV : E α} {T : TypeId} {b : Nat} {t : Tb α} {a1 a2 : Option Addr} {n1 c1 n2 c2 : Nat} (h1 : n1 = t.slots.length) (h2 : n2 = t.free.length) : ∀ H, SL [pt b (.cells (tbRow t.kind a1 n1 c1 a2 n2 c2).toArray T (0, 0)), Sl (eSlt eV) a1 c1 t.slots, Sl (eI .i64) a2 c2 t.free] H → Tbl eV T b t H := by
  subst h1 h2; exact fun H h => ⟨((a1, c1), (a2, c2)), h⟩
end
end Go.Proofs.YtamecmklcnohjaaGreat.Sep
namespace Go.Proofs.YtamecmklcnohjaaGreat.Sep
open Go.RowKit
set_option linter.unusedSimpArgs false
set_option linter.unusedVariables false
def eTR : E (Option Nat) := ⟨1, false, fun v => [.pointer (v.map fun b => ⟨b, 0, none⟩)], fun _ => rfl, fun _ _ h => by simp at h; subst h; rfl, by decide, fun _ => rfl⟩
abbrev tvalR (v : Option Nat) : Value := (.pointer (v.map fun b => ⟨b, 0, none⟩))
abbrev TblR (b : Nat) (t : Tb (Option Nat)) : HP := Tbl eTR 224 b t
set_option maxHeartbeats 8000000
attribute [local irreducible] X XE XO XD XDi XDa PV RV DV pt base Spec Sl Mp Keeps
attribute [local irreducible] Tbl
instance teq_tmR : TEq Tryz.prog 282 [.i64, .i64] := ⟨_, Tryz.underlying282, by kernel_rfl, by kernel_rfl, ⟨by decide, rfl, Tryz.underlying3, by decide, rfl, Tryz.underlying3, trivial⟩⟩
theorem tnewR (k : Int) : Spec Tryz.prog 85 [.int .i64 k] [] (fun v L => ∃ b, v = .pointer (some ⟨b, 0, none⟩) ∧ L = [TblR b ⟨k, [], []⟩]) := by
  refine Spec.intro (IsEnt.out) Tryz.func85 rfl Tryz.ntmps85 (by simp) (fun w0 F => ?_)
  simp only [envOf, List.zipIdx, List.map, List.cons_append, List.nil_append, Nat.zero_add, Nat.reduceAdd]
  (repeat refine Z ?_)
  refine XO_pv (pv_buildG [.int .i64 k, .slice none 0 0, .slice none 0 0]) (hk := ?_)
  (repeat refine Z ?_)
  refine XO_dv dv_box (hk := ?_)
  rintro _ _ ⟨b, rfl, rfl⟩
  (repeat refine Z ?_)
  refine XE_conv (fun _ h => SL_nilSl (eSlt eTR) h) ?_
  refine XE_conv (fun _ h => SL_nilSl (eI .i64) h) ?_
  refine XE_ret (.inl rfl) (tells_tmps rfl rfl) ⟨_, ⟨b, rfl, rfl⟩, ?_⟩
  simp only [List.cons_append, List.nil_append]
  refine ent_fold (by exact FAs) (Tbl.fold (eV := eTR) (t := ⟨k, [], []⟩) (a1 := none) (n1 := 0) (c1 := 0) (a2 := none) (n2 := 0) (c2 := 0) rfl rfl) ?_
  exact EN
theorem thandleR (b : Nat) (t : Tb (Option Nat)) {N : Nat} (hT : TbOk N t) (i : Nat) (hi : i < t.slots.length) (a1 : Option Addr) (c1 : Nat) (a2 : Option Addr) (n2 c2 : Nat) : Spec Tryz.prog 138 [.pointer (some ⟨b, 0, none⟩), .int .i64 i] [pt b (.cells (tbRow t.kind a1 t.slots.length c1 a2 n2 c2).toArray 224 (0, 0)), Sl (eSlt eTR) a1 c1 t.slots]
    (fun v L => v = .int .u64 (t.hAt i) ∧ L = [pt b (.cells (tbRow t.kind a1 t.slots.length c1 a2 n2 c2).toArray 224 (0, 0)), Sl (eSlt eTR) a1 c1 t.slots]) := by
  have hlen := hT.len
  have hN := hT.hN
  have hgn := hT.gen i
  have hkd := hT.kd
  refine Spec.intro (IsEnt.out) Tryz.func138 rfl Tryz.ntmps138 (by simp) (fun w0 F => ?_)
  simp only [envOf, List.zipIdx, List.map, List.cons_append, List.nil_append, Nat.zero_add, Nat.reduceAdd]
  have hget : t.slots[i]? = some t.slots[i] := List.getElem?_eq_getElem hi
  have hgg : t.genAt i = t.slots[i].2.2 := by unfold Tb.genAt; rw [hget]
  unfold Tb.hAt
  rw [hgg] at hgn ⊢
  generalize t.slots[i] = q at hget hgg hgn ⊢
  refine X_slopen (E' := eSlt eTR) (a := a1) (c := c1) (xs := t.slots) (by exact FDs) (by omega) ?_
  rintro qb o rfl
  (repeat refine Z ?_)
  (repeat refine ZD ?_)
  refine XD_one (h := ?_)
  refine XDa_dvA (dv_call (pack_spec t.kind i q.2.2 ⟨by omega, by omega⟩ ⟨by omega, by omega⟩ ⟨by omega, by omega⟩)) (hk := ?_)
  (rintro _ _ ⟨_, ⟨rfl, rfl⟩, rfl⟩; refine ⟨by exact KP, ?_⟩)
  (repeat refine ZD ?_)
  (refine XD_one (h := ?_); refine XDa_dvA (dv_of_rv (rv_of_pv pv_assign)) (hk := ?_); rintro _ _ ⟨rfl, rfl⟩; refine ⟨by exact KP, ?_⟩)
  (refine XD_end (h := ?_); (repeat refine Z ?_))
  refine XE_ret (.inl rfl) (tells_tmps rfl rfl) ⟨_, ⟨rfl, rfl⟩, by exact EN⟩
theorem tliveR (b : Nat) (t : Tb (Option Nat)) {N : Nat} (hT : TbOk N t) (h : Int) (h0 : 0 ≤ h) (h1 : h ≤ 18446744073709551615) (a1 : Option Addr) (c1 : Nat) (a2 : Option Addr) (n2 c2 : Nat) : Spec Tryz.prog 139 [.pointer (some ⟨b, 0, none⟩), .int .u64 h] [pt b (.cells (tbRow t.kind a1 t.slots.length c1 a2 n2 c2).toArray 224 (0, 0)), Sl (eSlt eTR) a1 c1 t.slots]
    (fun v L => v = .pointer (slotA a1 (eSlt eTR).sz (t.spot h)) ∧ L = [pt b (.cells (tbRow t.kind a1 t.slots.length c1 a2 n2 c2).toArray 224 (0, 0)), Sl (eSlt eTR) a1 c1 t.slots]) := by
  have hlen := hT.len
  have hN := hT.hN
  have hs0 : 0 ≤ hSlot h := Int.emod_nonneg _ (by decide)
  have hs1 : hSlot h < 4294967296 := Int.emod_lt_of_pos _ (by decide)
  refine Spec.intro (IsEnt.out) Tryz.func139 rfl Tryz.ntmps139 (by simp) (fun w0 F => ?_)
  simp only [envOf, List.zipIdx, List.map, List.cons_append, List.nil_append, Nat.zero_add, Nat.reduceAdd]
  (repeat refine Z ?_)
  refine XO_call (unpack_spec h h0 h1) (hk := ?_)
  rintro _ _ ⟨rfl, rfl⟩
  unfold unpV
  by_cases hk : hKind h = 0
  · rw [if_pos hk, show t.spot h = none from if_neg (fun hh => hh.1 hk), show slotA a1 (eSlt eTR).sz none = none from by cases a1 <;> rfl]
    (repeat refine Z ?_)
    (repeat refine ZD ?_)
    (refine XD_end (h := ?_); (repeat refine Z ?_))
    (refine X_cond rfl (fun _ => ?_) (fun h => by cases h))
    (repeat refine Z ?_)
    refine XE_ret (.inl rfl) (tells_tmps rfl rfl) ⟨_, ⟨rfl, rfl⟩, by exact EN⟩
  rw [if_neg hk]
  (repeat refine Z ?_)
  (repeat refine ZD ?_)
  by_cases hi : (hSlot h).toNat < t.slots.length
  case neg =>
    rw [show decide ((t.slots.length : Int) ≤ hSlot h) = true from decide_eq_true (by omega), show t.spot h = none from if_neg (fun hh => hi (Tb.usedAt_lt hh.2.1)), show slotA a1 (eSlt eTR).sz none = none from by cases a1 <;> rfl]
    (repeat refine ZD ?_)
    (refine XD_end (h := ?_); (repeat refine Z ?_))
    (refine X_cond rfl (fun _ => ?_) (fun h => by cases h))
    (repeat refine Z ?_)
    refine XE_ret (.inl rfl) (tells_tmps rfl rfl) ⟨_, ⟨rfl, rfl⟩, by exact EN⟩
  rw [show decide ((t.slots.length : Int) ≤ hSlot h) = false from decide_eq_false (by omega)]
  have hget : t.slots[(hSlot h).toNat]? = some t.slots[(hSlot h).toNat] := List.getElem?_eq_getElem hi
  have hsp : t.spot h = if t.slots[(hSlot h).toNat].2.1 = true ∧ hKind h = t.kind ∧ hGen h = t.slots[(hSlot h).toNat].2.2 then some (hSlot h).toNat else none := by
    unfold Tb.spot Tb.usedAt Tb.genAt
    rw [hget]
    simp only [ne_eq, hk, not_false_eq_true, true_and]
  rw [hsp]
  generalize t.slots[(hSlot h).toNat] = q at hget ⊢
  refine XDi_view (E' := eSlt eTR) (a := a1) (xs := t.slots) (hV := Sl.view) (hp := by omega) (h := ?_)
  rintro qb o rfl
  (repeat refine ZD ?_)
  obtain ⟨v, u, g⟩ := q
  dsimp only at hget ⊢
  cases u with
  | false =>
    rw [if_neg (fun hh => by cases hh.1), show slotA (some ⟨qb, o, none⟩) (eSlt eTR).sz none = none from rfl]
    (repeat refine ZD ?_)
    (refine XD_end (h := ?_); (repeat refine Z ?_))
    (refine X_cond rfl (fun _ => ?_) (fun h => by cases h))
    (repeat refine Z ?_)
    refine XE_ret (.inl rfl) (tells_tmps rfl rfl) ⟨_, ⟨rfl, rfl⟩, by exact EN⟩
  | true =>
    (repeat refine ZD ?_)
    refine Dp (pv_neRec [hKind h, hGen h] [t.kind, g]) ?_
    (repeat refine ZD ?_)
    (refine XD_end (h := ?_); (repeat refine Z ?_))
    by_cases he : hKind h = t.kind ∧ hGen h = g
    · rw [if_pos ⟨rfl, he⟩]
      refine X_cond rfl (fun hh => by simp [he.1, he.2] at hh) (fun _ => ?_)
      (repeat refine Z ?_)
      refine XE_ret (.inl rfl) (tells_tmps rfl rfl) ⟨_, ⟨rfl, rfl⟩, by exact EN⟩
    · rw [if_neg (fun hh => he hh.2), show slotA (some ⟨qb, o, none⟩) (eSlt eTR).sz none = none from rfl]
      refine X_cond rfl (fun _ => ?_) (fun hh => by simp at hh; exact absurd hh he)
      (repeat refine Z ?_)
      refine XE_ret (.inl rfl) (tells_tmps rfl rfl) ⟨_, ⟨rfl, rfl⟩, by exact EN⟩
theorem tgetR (b : Nat) (t : Tb (Option Nat)) {N : Nat} (hT : TbOk N t) (h : Int) (h0 : 0 ≤ h) (h1 : h ≤ 18446744073709551615) : Spec Tryz.prog 136 [.pointer (some ⟨b, 0, none⟩), .int .u64 h] [TblR b t]
    (fun v L => v = .tuple #[tvalR ((t.get h).getD none), .bool (t.get h).isSome] ∧ L = [TblR b t]) := by
  refine Spec.intro (IsEnt.out) Tryz.func136 rfl Tryz.ntmps136 (by simp) (fun w0 F => ?_)
  simp only [envOf, List.zipIdx, List.map, List.cons_append, List.nil_append, Nat.zero_add, Nat.reduceAdd]
  refine X_open (A := TblR b t) (by exact FDs) Tbl.open ?_
  rintro ⟨⟨a1, c1⟩, a2, c2⟩ -
  dsimp only [List.cons_append, List.nil_append]
  (repeat refine Z ?_)
  refine XO_call (tliveR b t hT h h0 h1 a1 c1 a2 t.free.length c2) (hk := ?_)
  rintro _ _ ⟨rfl, rfl⟩
  cases hs : t.spot h with
  | none =>
    rw [show slotA a1 (eSlt eTR).sz none = none from by cases a1 <;> rfl, show t.get h = none from by unfold Tb.get; rw [hs]; rfl]
    (repeat refine Z ?_)
    (refine X_cond rfl (fun _ => ?_) (fun h => by cases h))
    (repeat refine Z ?_)
    refine XE_fold (by exact FAs) (Tbl.fold (eV := eTR) (t := t) (a1 := a1) (n1 := t.slots.length) (c1 := c1) (a2 := a2) (n2 := t.free.length) (c2 := c2) rfl rfl) ?_
    refine XE_ret (.inl rfl) (tells_tmps rfl rfl) ⟨_, ⟨rfl, rfl⟩, by exact EN⟩
  | some i =>
    obtain ⟨_, hu, _, _, _, hi⟩ := Tb.spot_some hs
    have hget : t.slots[i]? = some t.slots[i] := List.getElem?_eq_getElem hi
    have hg2 : t.get h = some t.slots[i].1 := by unfold Tb.get; rw [hs]; show Option.map _ _ = _; rw [hget]; rfl
    rw [hg2]
    refine XO_slopen (E' := eSlt eTR) (a := a1) (c := c1) (xs := t.slots) (by exact FDs) (by omega) ?_
    rintro qb o rfl
    rw [show slotA (some ⟨qb, o, none⟩) (eSlt eTR).sz (some i) = some ⟨qb, o + i * (eSlt eTR).sz, none⟩ from rfl]
    (repeat refine Z ?_)
    (refine X_cond rfl (fun h => by cases h) (fun _ => ?_))
    (repeat refine Z ?_)
    trace_state
    refine XE_fold (by exact FAs) (Tbl.fold (eV := eTR) (t := t) (a1 := some ⟨qb, o, none⟩) (n1 := t.slots.length) (c1 := c1) (a2 := a2) (n2 := t.free.length) (c2 := c2) rfl rfl) ?_
    refine XE_ret (.inl rfl) (tells_tmps rfl rfl) ⟨_, ⟨rfl, rfl⟩, by exact EN⟩
theorem taddR (b : Nat) (t : Tb (Option Nat)) {N : Nat} (hT : TbOk N t) (hN : N + 1 ≤ 1000000) (v : Option Nat) : Spec Tryz.prog 91 [.pointer (some ⟨b, 0, none⟩), tvalR v] [TblR b t]
    (fun u L => u = .int .u64 t.addH ∧ L = [TblR b (t.add v)]) := by
  have hlen := hT.len
  have hkd := hT.kd
  have hnx := hT.nx_le
  refine Spec.intro (IsEnt.out) Tryz.func91 rfl Tryz.ntmps91 (by simp) (fun w0 F => ?_)
  simp only [envOf, List.zipIdx, List.map, List.cons_append, List.nil_append, Nat.zero_add, Nat.reduceAdd]
  refine X_open (A := TblR b t) (by exact FDs) Tbl.open ?_
  rintro ⟨⟨a1, c1⟩, a2, c2⟩ -
  dsimp only [List.cons_append, List.nil_append]
  (repeat refine Z ?_)
  refine XO_call (pack_spec t.kind 0 0 ⟨by omega, by omega⟩ ⟨by omega, by omega⟩ ⟨by omega, by omega⟩) (hk := ?_)
  rintro _ _ ⟨rfl, rfl⟩
  have hpk : (packI t.kind 0 0 == 0) = false := by rw [beq_eq_false_iff_ne]; exact pack_ne ⟨hkd.1, hkd.2, by decide, by decide⟩
  (repeat refine Z ?_)
  refine X_cond rfl (fun hh => by rw [hpk] at hh; cases hh) (fun _ => ?_)
  refine X_skip ?_
  refine XE_code ?_
  refine X_seq ?_
  refine X_region ?_
  (repeat (first | refine Zq ?_ | refine Zs ?_ | refine ZT ?_ | refine ZF ?_ | refine XO_gU (hk := ?_)))
  have hfl2 := hT.fl
  have hrl := Tb.room_lt hT (none : Option Nat)
  have hrg := Tb.room_gen hT (none : Option Nat) hrl
  have hae := Tb.add_eq hT (none : Option Nat) v
  have hTa := hT.add hN v
  have hag : (t.add v).hAt t.nx = t.addH := by unfold Tb.addH Tb.hAt; rw [Tb.add_gen hT v, show (t.add v).kind = t.kind from by rw [hae]]
  refine XO_nil ?_
  refine XE_code ?_
  refine X_seq ?_
  refine X_join (ι := (Option Addr × Nat) × (Option Addr × Nat)) (fun _ => True) (fun _ => [(0, .pointer (some ⟨b, 0, none⟩)),
 (1, tvalR v),
    (5, .int .i64 (t.nx : Int))]) (fun y => [
    pt b (.cells (tbRow t.kind y.1.1 (t.room (none : Option Nat)).slots.length y.1.2 y.2.1 (t.room (none : Option Nat)).free.length y.2.2).toArray 224 (0, 0)), Sl (eSlt eTR) y.1.1 y.1.2 (t.room (none : Option Nat)).slots, Sl (eI .i64) y.2.1 y.2.2 (t.room (none : Option Nat)).free] ++ F) ?_ ?_
  · (repeat refine Z ?_)
    cases hl : t.free.getLast? with
    | none =>
      have hf0 : t.free = [] := List.getLast?_eq_none_iff.1 hl
      have hf1 : t.free.length = 0 := by rw [hf0]; rfl
      have hrm : t.room (none : Option Nat) = ⟨t.kind, t.slots ++ [(none, false, 0)], t.free⟩ := by unfold Tb.room; rw [hl]
      have hn0 : t.nx = t.slots.length := by unfold Tb.nx; rw [hl]
      refine X_cond rfl (fun hh => by simp at hh; omega) (fun _ => ?_)
      (repeat refine Z ?_)
      refine XO_lit (E' := eSlt eTR) [((none : Option Nat), false, (0 : Int))] (hk := ?_)
      intro lb
      (repeat refine Z ?_)
      refine XO_dv (dv_append (E' := eSlt eTR) (xs := t.slots) (ys := [((none : Option Nat), false, (0 : Int))]) (hv := Sl.view) (hb := by simp; omega)) (hk := ?_)
      rintro _ _ ⟨a', c', rfl, rfl⟩
      (repeat refine Z ?_)
      refine XO_dv0 dv_store (hk := ?_)
      rintro _ _ rfl
      (repeat refine Z ?_)
      rw [hrm, hn0]
      exact X_meet ((a', c'), (a2, c2)) trivial (by exact SBs) (by ((try simp only [List.cons_append, List.nil_append]); repeat (first | exact ent_nil | exact ent_refl | refine ent_take (by repeat (first | exact Find.here | apply Find.there)) ?_ | refine ent_drop ?_)))
    | some i =>
      have hne : t.free ≠ [] := fun e => by rw [e] at hl; cases hl
      have hfl : 0 < t.free.length := List.length_pos_iff.2 hne
      have hi := hT.free i (List.mem_of_getLast? hl)
      have hrm : t.room (none : Option Nat) = ⟨t.kind, t.slots, t.free.dropLast⟩ := by unfold Tb.room; rw [hl]
      have hn0 : t.nx = i.toNat := by unfold Tb.nx; rw [hl]
      have hgl : t.free[((t.free.length : Int) - 1).toNat]? = some i := by
        rw [show ((t.free.length : Int) - 1).toNat = t.free.length - 1 from by omega]
        rw [List.getLast?_eq_getElem?] at hl; exact hl
      refine X_cond rfl (fun _ => ?_) (fun hh => by rw [decide_eq_true (by omega)] at hh; cases hh)
      refine X_slopen (E' := eI .i64) (a := a2) (c := c2) (xs := t.free) (by exact FDs) hfl ?_
      rintro fb fo rfl
      refine X_fact (A := Sl (eI .i64) (some ⟨fb, fo, none⟩) c2 t.free) (by exact FDs) Sl.cap (fun hcap => ?_)
      (repeat refine Z ?_)
      refine XO_dv0 dv_store (hk := ?_)
      rintro _ _ rfl
      (repeat refine Z ?_)
      rw [show ((t.free.length : Int) - 1).toNat = t.free.dropLast.length from by rw [List.length_dropLast]; omega]
      refine XE_conv (fun _ => SL_take (E' := eI .i64) (a := some ⟨fb, fo, none⟩) (c := c2) (xs := t.free) (t.free.length - 1) (by exact FDs)) ?_
      rw [← List.dropLast_eq_take, hrm, hn0, show (i.toNat : Int) = i from by omega]
      exact X_meet ((a1, c1), (some ⟨fb, fo, none⟩, c2)) trivial (by exact SBs) (by ((try simp only [List.cons_append, List.nil_append]); repeat (first | exact ent_nil | exact ent_refl | refine ent_take (by repeat (first | exact Find.here | apply Find.there)) ?_ | refine ent_drop ?_)))
  rintro ⟨⟨a1, c1⟩, a2, c2⟩ -
  dsimp only
  generalize hxs : (t.room (none : Option Nat)).slots = xs at hrl hrg hae ⊢
  have hgx : xs[t.nx]? = some xs[t.nx] := List.getElem?_eq_getElem hrl
  refine X_slopen (E' := eSlt eTR) (a := a1) (c := c1) (xs := xs) (by exact FDs) (by omega) ?_
  rintro qb o rfl
  (repeat refine Z ?_)
  (repeat refine ZD ?_)
  refine XD_one (h := ?_)
  refine XDa_dvk0 (dv_putEl (E' := eSlt eTR) (i := t.nx) (s := (eSlt eTR).sz) (f := 0) (xs := xs) (vs := eTR.cells v) (v, xs[t.nx].2.1, xs[t.nx].2.2) (by exact FDs) rfl rfl rfl (eTR.one v) rfl rfl hrl (by rw [eTR.len]; decide) rfl) (K := _) (hk := ?_)
  rintro _ _ rfl
  refine ⟨by exact KP, ?_⟩
  have hrl2 : t.nx < (xs.set t.nx (v, xs[t.nx].2.1, xs[t.nx].2.2)).length := by rw [List.length_set]; exact hrl
  (repeat refine ZD ?_)
  refine XD_one (h := ?_)
  refine XDa_dvk0 (dv_putEl (E' := eSlt eTR) (i := t.nx) (s := (eSlt eTR).sz) (f := eTR.sz) (xs := xs.set t.nx (v, xs[t.nx].2.1, xs[t.nx].2.2)) (vs := [.bool true]) (v, true, xs[t.nx].2.2) (by exact FDs) rfl rfl rfl (fun u hu => by simp at hu; subst hu; rfl) rfl rfl hrl2 (by decide) (by rw [List.getElem_set_self]; rfl)) (K := _) (hk := ?_)
  rintro _ _ rfl
  refine ⟨by exact KP, ?_⟩
  (refine XD_end (h := ?_); (repeat refine Z ?_))
  rw [List.set_set, hrg]
  have hc := thandleR b (t.add v) hTa t.nx (by rw [hae]; show t.nx < (xs.set _ _).length; rw [List.length_set]; exact hrl) (some ⟨qb, o, none⟩) c1 a2 (t.room (none : Option Nat)).free.length c2
  rw [hag, hae] at hc
  dsimp only at hc
  rw [List.length_set] at hc
  (repeat refine Z ?_)
  refine XO_call hc (hk := ?_)
  rintro _ _ ⟨rfl, rfl⟩
  (repeat refine Z ?_)
  rw [hae]
  refine XE_fold (by exact FAs) (Tbl.fold (eV := eTR) (T := 224) (b := b) (t := ⟨t.kind, xs.set t.nx (v, true, t.genAt t.nx), (t.room (none : Option Nat)).free⟩) (a1 := some ⟨qb, o, none⟩) (n1 := xs.length) (c1 := c1) (a2 := a2) (n2 := (t.room (none : Option Nat)).free.length) (c2 := c2) (by show _ = (xs.set _ _).length; rw [List.length_set]) rfl) ?_
  refine XE_ret (.inl rfl) (tells_tmps rfl rfl) ⟨_, ⟨rfl, rfl⟩, by exact EN⟩
theorem tdropR (b : Nat) (t : Tb (Option Nat)) {N : Nat} (hT : TbOk N t) (h : Int) (h0 : 0 ≤ h) (h1 : h ≤ 18446744073709551615) : Spec Tryz.prog 99 [.pointer (some ⟨b, 0, none⟩), .int .u64 h] [TblR b t]
    (fun u L => u = .bool (t.spot h).isSome ∧ L = [TblR b (t.drop none h)]) := by
  have hlen := hT.len
  have hkd := hT.kd
  have hfl2 := hT.fl
  have hN := hT.hN
  refine Spec.intro (IsEnt.out) Tryz.func99 rfl Tryz.ntmps99 (by simp) (fun w0 F => ?_)
  simp only [envOf, List.zipIdx, List.map, List.cons_append, List.nil_append, Nat.zero_add, Nat.reduceAdd]
  refine X_open (A := TblR b t) (by exact FDs) Tbl.open ?_
  rintro ⟨⟨a1, c1⟩, a2, c2⟩ -
  dsimp only [List.cons_append, List.nil_append]
  (repeat refine Z ?_)
  refine XO_call (tliveR b t hT h h0 h1 a1 c1 a2 t.free.length c2) (hk := ?_)
  rintro _ _ ⟨rfl, rfl⟩
  cases hs : t.spot h with
  | none =>
    rw [show slotA a1 (eSlt eTR).sz none = none from by cases a1 <;> rfl, show t.drop none h = t from by unfold Tb.drop; rw [hs]]
    (repeat refine Z ?_)
    (refine X_cond rfl (fun _ => ?_) (fun h => by cases h))
    (repeat refine Z ?_)
    refine XE_fold (by exact FAs) (Tbl.fold (eV := eTR) (t := t) (a1 := a1) (n1 := t.slots.length) (c1 := c1) (a2 := a2) (n2 := t.free.length) (c2 := c2) rfl rfl) ?_
    refine XE_ret (.inl rfl) (tells_tmps rfl rfl) ⟨_, ⟨rfl, rfl⟩, by exact EN⟩
  | some i =>
    obtain ⟨hk0, hu, hkk, hgg, hsl, hi⟩ := Tb.spot_some hs
    have hgn := hT.gen i
    have hgi : t.slots[i].2.2 = t.genAt i := by unfold Tb.genAt; rw [List.getElem?_eq_getElem hi]
    have hget : t.slots[i]? = some t.slots[i] := List.getElem?_eq_getElem hi
    have hde : t.drop none h = ⟨t.kind, t.slots.set i (none, false, nextI (t.genAt i)), t.free ++ [(i : Int)]⟩ := by unfold Tb.drop; rw [hs]
    refine XO_slopen (E' := eSlt eTR) (a := a1) (c := c1) (xs := t.slots) (by exact FDs) (by omega) ?_
    rintro qb o rfl
    rw [show slotA (some ⟨qb, o, none⟩) (eSlt eTR).sz (some i) = some ⟨qb, o + i * (eSlt eTR).sz, none⟩ from rfl]
    (repeat refine Z ?_)
    (refine X_cond rfl (fun h => by cases h) (fun _ => ?_))
    (repeat refine Z ?_)
    refine XO_call (unpack_spec h h0 h1) (hk := ?_)
    rintro _ _ ⟨rfl, rfl⟩
    unfold unpV
    rw [if_neg hk0, show hSlot h = (i : Int) from by have h2 : 0 ≤ hSlot h := Int.emod_nonneg _ (by decide); omega]
    (repeat refine Z ?_)
    rw [hgi]
    refine XO_call (next_spec (t.genAt i) (by omega) (by omega)) (hk := ?_)
    rintro _ _ ⟨rfl, rfl⟩
    refine XO_pv (pv_buildG (eTR.cells none ++ [.bool false, .int .i64 (nextI (t.genAt i))])) (hk := ?_)
    (repeat refine Z ?_)
    refine XO_dv0 (dv_putElW (E' := eSlt eTR) (i := i) (xs := t.slots) (s := (eSlt eTR).sz) (none, false, nextI (t.genAt i))) (hk := ?_)
    rintro _ _ rfl
    (repeat refine Z ?_)
    refine XO_lit (E' := eI .i64) [(i : Int)] (hk := ?_)
    intro lb
    (repeat refine Z ?_)
    refine XO_dv (dv_append (E' := eI .i64) (xs := t.free) (ys := [(i : Int)]) (hv := Sl.view) (hb := by simp; omega)) (hk := ?_)
    rintro _ _ ⟨a', c', rfl, rfl⟩
    (repeat refine Z ?_)
    refine XO_dv0 dv_store (hk := ?_)
    rintro _ _ rfl
    (repeat refine Z ?_)
    rw [hde]
    refine XE_fold (by exact FAs) (Tbl.fold (eV := eTR) (T := 224) (b := b) (t := ⟨t.kind, t.slots.set i (none, false, nextI (t.genAt i)), t.free ++ [(i : Int)]⟩) (a1 := some ⟨qb, o, none⟩) (n1 := t.slots.length) (c1 := c1) (a2 := a') (n2 := (t.free ++ [(i : Int)]).length) (c2 := c') (by show _ = (t.slots.set _ _).length; rw [List.length_set]) rfl) ?_
    refine XE_ret (.inl rfl) (tells_tmps rfl rfl) ⟨_, ⟨rfl, rfl⟩, by exact EN⟩
theorem tsetR (b : Nat) (t : Tb (Option Nat)) {N : Nat} (hT : TbOk N t) (h : Int) (h0 : 0 ≤ h) (h1 : h ≤ 18446744073709551615) (v : Option Nat) : Spec Tryz.prog 92 [.pointer (some ⟨b, 0, none⟩), .int .u64 h, tvalR v] [TblR b t]
    (fun u L => u = .bool (t.spot h).isSome ∧ L = [TblR b (t.put h v)]) := by
  refine Spec.intro (IsEnt.out) Tryz.func92 rfl Tryz.ntmps92 (by simp) (fun w0 F => ?_)
  simp only [envOf, List.zipIdx, List.map, List.cons_append, List.nil_append, Nat.zero_add, Nat.reduceAdd]
  refine X_open (A := TblR b t) (by exact FDs) Tbl.open ?_
  rintro ⟨⟨a1, c1⟩, a2, c2⟩ -
  dsimp only [List.cons_append, List.nil_append]
  (repeat refine Z ?_)
  refine XO_call (tliveR b t hT h h0 h1 a1 c1 a2 t.free.length c2) (hk := ?_)
  rintro _ _ ⟨rfl, rfl⟩
  cases hs : t.spot h with
  | none =>
    rw [show slotA a1 (eSlt eTR).sz none = none from by cases a1 <;> rfl, show t.put h v = t from by unfold Tb.put; rw [hs]]
    (repeat refine Z ?_)
    (refine X_cond rfl (fun _ => ?_) (fun h => by cases h))
    (repeat refine Z ?_)
    refine XE_fold (by exact FAs) (Tbl.fold (eV := eTR) (t := t) (a1 := a1) (n1 := t.slots.length) (c1 := c1) (a2 := a2) (n2 := t.free.length) (c2 := c2) rfl rfl) ?_
    refine XE_ret (.inl rfl) (tells_tmps rfl rfl) ⟨_, ⟨rfl, rfl⟩, by exact EN⟩
  | some i =>
    obtain ⟨hk0, hu, hkk, hgg, hsl, hi⟩ := Tb.spot_some hs
    have hget : t.slots[i]? = some t.slots[i] := List.getElem?_eq_getElem hi
    have hgi : t.slots[i] = (t.slots[i].1, true, t.genAt i) := by
      have e1 : t.slots[i].2.1 = true := by unfold Tb.usedAt at hu; rw [hget] at hu; exact hu
      have e2 : t.slots[i].2.2 = t.genAt i := by unfold Tb.genAt; rw [hget]
      rw [← e1, ← e2]
    have hpe : t.put h v = ⟨t.kind, t.slots.set i (v, true, t.genAt i), t.free⟩ := by unfold Tb.put; rw [hs]
    refine XO_slopen (E' := eSlt eTR) (a := a1) (c := c1) (xs := t.slots) (by exact FDs) (by omega) ?_
    rintro qb o rfl
    rw [show slotA (some ⟨qb, o, none⟩) (eSlt eTR).sz (some i) = some ⟨qb, o + i * (eSlt eTR).sz, none⟩ from rfl]
    (repeat refine Z ?_)
    (refine X_cond rfl (fun h => by cases h) (fun _ => ?_))
    (repeat refine Z ?_)
    refine XO_dv0 (dv_putEl (E' := eSlt eTR) (i := i) (s := (eSlt eTR).sz) (f := 0) (xs := t.slots) (vs := eTR.cells v) (v, true, t.genAt i) (by exact FDs) rfl rfl rfl (eTR.one v) rfl rfl hi (by rw [eTR.len]; decide) (by rw [hgi]; rfl)) (hk := ?_)
    rintro _ _ rfl
    (repeat refine Z ?_)
    rw [hpe]
    refine XE_fold (by exact FAs) (Tbl.fold (eV := eTR) (T := 224) (b := b) (t := ⟨t.kind, t.slots.set i (v, true, t.genAt i), t.free⟩) (a1 := some ⟨qb, o, none⟩) (n1 := t.slots.length) (c1 := c1) (a2 := a2) (n2 := t.free.length) (c2 := c2) (by show _ = (t.slots.set _ _).length; rw [List.length_set]) rfl) ?_
    refine XE_ret (.inl rfl) (tells_tmps rfl rfl) ⟨_, ⟨rfl, rfl⟩, by exact EN⟩
theorem thandlesR (b : Nat) (t : Tb (Option Nat)) {N : Nat} (hT : TbOk N t) : Spec Tryz.prog 103 [.pointer (some ⟨b, 0, none⟩)] [TblR b t]
    (fun u L => ∃ a c, u = .slice a t.handles.length c ∧ L = [TblR b t, Sl (eI .u64) a c t.handles]) := by
  have hlen := hT.len
  have hN := hT.hN
  have hhl : ∀ k, (t.handlesTo k).length ≤ k := by
    intro k
    induction k with
    | zero => exact Nat.le_refl _
    | succ k ih => unfold Tb.handlesTo; split <;> simp <;> omega
  refine Spec.intro (IsEnt.out) Tryz.func103 rfl Tryz.ntmps103 (by simp) (fun w0 F => ?_)
  simp only [envOf, List.zipIdx, List.map, List.cons_append, List.nil_append, Nat.zero_add, Nat.reduceAdd]
  refine X_open (A := TblR b t) (by exact FDs) Tbl.open ?_
  rintro ⟨⟨a1, c1⟩, a2, c2⟩ -
  dsimp only [List.cons_append, List.nil_append]
  (repeat refine Z ?_)
  (refine X_cond rfl (fun h => by cases h) (fun _ => ?_))
  (repeat refine Z ?_)
  refine X_conv (fun _ h => SL_nilSl (eI .u64) h) ?_
  refine X_loop (ι := Nat × Option Addr × Nat) (fun y => y.1 ≤ t.slots.length) (fun y => [(0, .pointer (some ⟨b, 0, none⟩)), (3, .slice y.2.1 (t.handlesTo y.1).length y.2.2), (11, .slice a1 t.slots.length c1), (12, .int .i64 (t.slots.length : Int)), (13, .int .i64 (y.1 : Int))])
    (fun y => Sl (eI .u64) y.2.1 y.2.2 (t.handlesTo y.1) :: pt b (.cells (tbRow t.kind a1 t.slots.length c1 a2 t.free.length c2).toArray 224 (0, 0)) :: Sl (eSlt eTR) a1 c1 t.slots :: Sl (eI .i64) a2 c2 t.free :: F) (fun y => t.slots.length - y.1) (0, none, 0) (Nat.zero_le _) ?_ (by exact EN) ?_
  · exact SBs
  rintro ⟨k, a, c⟩ hk
  dsimp only at hk ⊢
  have hhk := hhl k
  (repeat refine Z ?_)
  refine X_cond rfl (fun hc => ?_) (fun hc => ?_) <;> simp only [decide_eq_true_eq, decide_eq_false_iff_not] at hc
  · have hkl : k < t.slots.length := by omega
    have hget : t.slots[k]? = some t.slots[k] := List.getElem?_eq_getElem hkl
    have huk : t.slots[k].2.1 = t.usedAt k := by unfold Tb.usedAt; rw [hget]
    refine X_slopen (E' := eSlt eTR) (a := a1) (c := c1) (xs := t.slots) (by exact FDs) (by omega) ?_
    rintro qb o rfl
    (repeat refine Z ?_)
    refine XO_dv (dv_alloc (row := (eSlt eTR).cells (none, false, 0))) (hk := ?_)
    rintro _ _ ⟨sb, rfl, rfl⟩
    (repeat refine Z ?_)
    refine XO_dv0 (dv_storeW (vs := (eSlt eTR).cells t.slots[k])) (hk := ?_)
    rintro _ _ rfl
    clear hget
    (repeat refine Z ?_)
    refine X_cond rfl (fun hu => ?_) (fun hu => ?_)
    · have hu2 : t.usedAt k = true := by rw [← huk]; exact hu
      have hte : t.handlesTo (k + 1) = t.handlesTo k ++ [t.hAt k] := by conv => lhs; unfold Tb.handlesTo; rw [if_pos hu2]
      (repeat refine Z ?_)
      refine XO_call (thandleR b t hT k hkl (some ⟨qb, o, none⟩) c1 a2 t.free.length c2) (hk := ?_)
      rintro _ _ ⟨rfl, rfl⟩
      (repeat refine Z ?_)
      refine XO_lit (E' := eI .u64) [t.hAt k] (hk := ?_)
      intro lb
      (repeat refine Z ?_)
      refine XO_dv (dv_append (E' := eI .u64) (xs := t.handlesTo k) (ys := [t.hAt k]) (hv := Sl.view) (hb := by simp; omega)) (hk := ?_)
      rintro _ _ ⟨a', c', rfl, rfl⟩
      (repeat refine Z ?_)
      rw [← hte]
      exact X_round (k + 1, a', c') (by show k + 1 ≤ _; omega) (by show t.slots.length - (k + 1) < t.slots.length - k; omega) (by exact SBs) (by exact EN)
    · have hu2 : t.usedAt k = false := by rw [← huk]; exact hu
      have hte : t.handlesTo (k + 1) = t.handlesTo k := by conv => lhs; unfold Tb.handlesTo; rw [if_neg (by rw [hu2]; simp), List.append_nil]
      (repeat refine Z ?_)
      rw [← hte]
      exact X_round (k + 1, a, c) (by show k + 1 ≤ _; omega) (by show t.slots.length - (k + 1) < t.slots.length - k; omega) (by exact SBs) (by exact EN)
  obtain rfl : k = t.slots.length := by omega
  (repeat refine Z ?_)
  refine XE_fold (by exact FAs) (Tbl.fold (eV := eTR) (t := t) (a1 := a1) (n1 := t.slots.length) (c1 := c1) (a2 := a2) (n2 := t.free.length) (c2 := c2) rfl rfl) ?_
  refine XE_ret (.inl rfl) (tells_tmps rfl rfl) ⟨_, ⟨a, c, rfl, rfl⟩, by exact EN⟩
end Go.Proofs.YtamecmklcnohjaaGreat.Sep
namespace Go.Proofs.YtamecmklcnohjaaGreat.Sep
open Go.RowKit
set_option linter.unusedSimpArgs false
set_option linter.unusedVariables false
def eTO : E (Int × Int × Int) := ⟨3, true, fun v => [.int .u64 v.1, .int .u64 v.2.1, .int .u64 v.2.2], fun _ => rfl, fun _ _ h => by simp at h; rcases h with rfl | rfl | rfl <;> rfl, by decide, fun h => by cases h⟩
abbrev tvalO (v : Int × Int × Int) : Value := (.agg #[.int .u64 v.1, .int .u64 v.2.1, .int .u64 v.2.2])
abbrev TblO (b : Nat) (t : Tb (Int × Int × Int)) : HP := Tbl eTO 227 b t
set_option maxHeartbeats 8000000
attribute [local irreducible] X XE XO XD XDi XDa PV RV DV pt base Spec Sl Mp Keeps
attribute [local irreducible] Tbl
instance teq_tmO : TEq Tryz.prog 282 [.i64, .i64] := ⟨_, Tryz.underlying282, by kernel_rfl, by kernel_rfl, ⟨by decide, rfl, Tryz.underlying3, by decide, rfl, Tryz.underlying3, trivial⟩⟩
theorem tnewO (k : Int) : Spec Tryz.prog 86 [.int .i64 k] [] (fun v L => ∃ b, v = .pointer (some ⟨b, 0, none⟩) ∧ L = [TblO b ⟨k, [], []⟩]) := by
  refine Spec.intro (IsEnt.out) Tryz.func86 rfl Tryz.ntmps86 (by simp) (fun w0 F => ?_)
  simp only [envOf, List.zipIdx, List.map, List.cons_append, List.nil_append, Nat.zero_add, Nat.reduceAdd]
  (repeat refine Z ?_)
  refine XO_pv (pv_buildG [.int .i64 k, .slice none 0 0, .slice none 0 0]) (hk := ?_)
  (repeat refine Z ?_)
  refine XO_dv dv_box (hk := ?_)
  rintro _ _ ⟨b, rfl, rfl⟩
  (repeat refine Z ?_)
  refine XE_conv (fun _ h => SL_nilSl (eSlt eTO) h) ?_
  refine XE_conv (fun _ h => SL_nilSl (eI .i64) h) ?_
  refine XE_ret (.inl rfl) (tells_tmps rfl rfl) ⟨_, ⟨b, rfl, rfl⟩, ?_⟩
  simp only [List.cons_append, List.nil_append]
  refine ent_fold (by exact FAs) (Tbl.fold (eV := eTO) (t := ⟨k, [], []⟩) (a1 := none) (n1 := 0) (c1 := 0) (a2 := none) (n2 := 0) (c2 := 0) rfl rfl) ?_
  exact EN
theorem thandleO (b : Nat) (t : Tb (Int × Int × Int)) {N : Nat} (hT : TbOk N t) (i : Nat) (hi : i < t.slots.length) (a1 : Option Addr) (c1 : Nat) (a2 : Option Addr) (n2 c2 : Nat) : Spec Tryz.prog 141 [.pointer (some ⟨b, 0, none⟩), .int .i64 i] [pt b (.cells (tbRow t.kind a1 t.slots.length c1 a2 n2 c2).toArray 227 (0, 0)), Sl (eSlt eTO) a1 c1 t.slots]
    (fun v L => v = .int .u64 (t.hAt i) ∧ L = [pt b (.cells (tbRow t.kind a1 t.slots.length c1 a2 n2 c2).toArray 227 (0, 0)), Sl (eSlt eTO) a1 c1 t.slots]) := by
  have hlen := hT.len
  have hN := hT.hN
  have hgn := hT.gen i
  have hkd := hT.kd
  refine Spec.intro (IsEnt.out) Tryz.func141 rfl Tryz.ntmps141 (by simp) (fun w0 F => ?_)
  simp only [envOf, List.zipIdx, List.map, List.cons_append, List.nil_append, Nat.zero_add, Nat.reduceAdd]
  have hget : t.slots[i]? = some t.slots[i] := List.getElem?_eq_getElem hi
  have hgg : t.genAt i = t.slots[i].2.2 := by unfold Tb.genAt; rw [hget]
  unfold Tb.hAt
  rw [hgg] at hgn ⊢
  generalize t.slots[i] = q at hget hgg hgn ⊢
  refine X_slopen (E' := eSlt eTO) (a := a1) (c := c1) (xs := t.slots) (by exact FDs) (by omega) ?_
  rintro qb o rfl
  (repeat refine Z ?_)
  (repeat refine ZD ?_)
  refine XD_one (h := ?_)
  refine XDa_dvA (dv_call (pack_spec t.kind i q.2.2 ⟨by omega, by omega⟩ ⟨by omega, by omega⟩ ⟨by omega, by omega⟩)) (hk := ?_)
  (rintro _ _ ⟨_, ⟨rfl, rfl⟩, rfl⟩; refine ⟨by exact KP, ?_⟩)
  (repeat refine ZD ?_)
  (refine XD_one (h := ?_); refine XDa_dvA (dv_of_rv (rv_of_pv pv_assign)) (hk := ?_); rintro _ _ ⟨rfl, rfl⟩; refine ⟨by exact KP, ?_⟩)
  (refine XD_end (h := ?_); (repeat refine Z ?_))
  refine XE_ret (.inl rfl) (tells_tmps rfl rfl) ⟨_, ⟨rfl, rfl⟩, by exact EN⟩
theorem tliveO (b : Nat) (t : Tb (Int × Int × Int)) {N : Nat} (hT : TbOk N t) (h : Int) (h0 : 0 ≤ h) (h1 : h ≤ 18446744073709551615) (a1 : Option Addr) (c1 : Nat) (a2 : Option Addr) (n2 c2 : Nat) : Spec Tryz.prog 173 [.pointer (some ⟨b, 0, none⟩), .int .u64 h] [pt b (.cells (tbRow t.kind a1 t.slots.length c1 a2 n2 c2).toArray 227 (0, 0)), Sl (eSlt eTO) a1 c1 t.slots]
    (fun v L => v = .pointer (slotA a1 (eSlt eTO).sz (t.spot h)) ∧ L = [pt b (.cells (tbRow t.kind a1 t.slots.length c1 a2 n2 c2).toArray 227 (0, 0)), Sl (eSlt eTO) a1 c1 t.slots]) := by
  have hlen := hT.len
  have hN := hT.hN
  have hs0 : 0 ≤ hSlot h := Int.emod_nonneg _ (by decide)
  have hs1 : hSlot h < 4294967296 := Int.emod_lt_of_pos _ (by decide)
  refine Spec.intro (IsEnt.out) Tryz.func173 rfl Tryz.ntmps173 (by simp) (fun w0 F => ?_)
  simp only [envOf, List.zipIdx, List.map, List.cons_append, List.nil_append, Nat.zero_add, Nat.reduceAdd]
  (repeat refine Z ?_)
  refine XO_call (unpack_spec h h0 h1) (hk := ?_)
  rintro _ _ ⟨rfl, rfl⟩
  unfold unpV
  by_cases hk : hKind h = 0
  · rw [if_pos hk, show t.spot h = none from if_neg (fun hh => hh.1 hk), show slotA a1 (eSlt eTO).sz none = none from by cases a1 <;> rfl]
    (repeat refine Z ?_)
    (repeat refine ZD ?_)
    (refine XD_end (h := ?_); (repeat refine Z ?_))
    (refine X_cond rfl (fun _ => ?_) (fun h => by cases h))
    (repeat refine Z ?_)
    refine XE_ret (.inl rfl) (tells_tmps rfl rfl) ⟨_, ⟨rfl, rfl⟩, by exact EN⟩
  rw [if_neg hk]
  (repeat refine Z ?_)
  (repeat refine ZD ?_)
  by_cases hi : (hSlot h).toNat < t.slots.length
  case neg =>
    rw [show decide ((t.slots.length : Int) ≤ hSlot h) = true from decide_eq_true (by omega), show t.spot h = none from if_neg (fun hh => hi (Tb.usedAt_lt hh.2.1)), show slotA a1 (eSlt eTO).sz none = none from by cases a1 <;> rfl]
    (repeat refine ZD ?_)
    (refine XD_end (h := ?_); (repeat refine Z ?_))
    (refine X_cond rfl (fun _ => ?_) (fun h => by cases h))
    (repeat refine Z ?_)
    refine XE_ret (.inl rfl) (tells_tmps rfl rfl) ⟨_, ⟨rfl, rfl⟩, by exact EN⟩
  rw [show decide ((t.slots.length : Int) ≤ hSlot h) = false from decide_eq_false (by omega)]
  have hget : t.slots[(hSlot h).toNat]? = some t.slots[(hSlot h).toNat] := List.getElem?_eq_getElem hi
  have hsp : t.spot h = if t.slots[(hSlot h).toNat].2.1 = true ∧ hKind h = t.kind ∧ hGen h = t.slots[(hSlot h).toNat].2.2 then some (hSlot h).toNat else none := by
    unfold Tb.spot Tb.usedAt Tb.genAt
    rw [hget]
    simp only [ne_eq, hk, not_false_eq_true, true_and]
  rw [hsp]
  generalize t.slots[(hSlot h).toNat] = q at hget ⊢
  refine XDi_view (E' := eSlt eTO) (a := a1) (xs := t.slots) (hV := Sl.view) (hp := by omega) (h := ?_)
  rintro qb o rfl
  (repeat refine ZD ?_)
  obtain ⟨v, u, g⟩ := q
  dsimp only at hget ⊢
  cases u with
  | false =>
    rw [if_neg (fun hh => by cases hh.1), show slotA (some ⟨qb, o, none⟩) (eSlt eTO).sz none = none from rfl]
    (repeat refine ZD ?_)
    (refine XD_end (h := ?_); (repeat refine Z ?_))
    (refine X_cond rfl (fun _ => ?_) (fun h => by cases h))
    (repeat refine Z ?_)
    refine XE_ret (.inl rfl) (tells_tmps rfl rfl) ⟨_, ⟨rfl, rfl⟩, by exact EN⟩
  | true =>
    (repeat refine ZD ?_)
    refine Dp (pv_neRec [hKind h, hGen h] [t.kind, g]) ?_
    (repeat refine ZD ?_)
    (refine XD_end (h := ?_); (repeat refine Z ?_))
    by_cases he : hKind h = t.kind ∧ hGen h = g
    · rw [if_pos ⟨rfl, he⟩]
      refine X_cond rfl (fun hh => by simp [he.1, he.2] at hh) (fun _ => ?_)
      (repeat refine Z ?_)
      refine XE_ret (.inl rfl) (tells_tmps rfl rfl) ⟨_, ⟨rfl, rfl⟩, by exact EN⟩
    · rw [if_neg (fun hh => he hh.2), show slotA (some ⟨qb, o, none⟩) (eSlt eTO).sz none = none from rfl]
      refine X_cond rfl (fun _ => ?_) (fun hh => by simp at hh; exact absurd hh he)
      (repeat refine Z ?_)
      refine XE_ret (.inl rfl) (tells_tmps rfl rfl) ⟨_, ⟨rfl, rfl⟩, by exact EN⟩
theorem tgetO (b : Nat) (t : Tb (Int × Int × Int)) {N : Nat} (hT : TbOk N t) (h : Int) (h0 : 0 ≤ h) (h1 : h ≤ 18446744073709551615) : Spec Tryz.prog 151 [.pointer (some ⟨b, 0, none⟩), .int .u64 h] [TblO b t]
    (fun v L => v = .tuple #[tvalO ((t.get h).getD (0, 0, 0)), .bool (t.get h).isSome] ∧ L = [TblO b t]) := by
  refine Spec.intro (IsEnt.out) Tryz.func151 rfl Tryz.ntmps151 (by simp) (fun w0 F => ?_)
  simp only [envOf, List.zipIdx, List.map, List.cons_append, List.nil_append, Nat.zero_add, Nat.reduceAdd]
  refine X_open (A := TblO b t) (by exact FDs) Tbl.open ?_
  rintro ⟨⟨a1, c1⟩, a2, c2⟩ -
  dsimp only [List.cons_append, List.nil_append]
  (repeat refine Z ?_)
  refine XO_dv dv_alloc (hk := ?_)
  rintro _ _ ⟨rb, rfl, rfl⟩
  (repeat refine Z ?_)
  refine XO_call (tliveO b t hT h h0 h1 a1 c1 a2 t.free.length c2) (hk := ?_)
  rintro _ _ ⟨rfl, rfl⟩
  cases hs : t.spot h with
  | none =>
    rw [show slotA a1 (eSlt eTO).sz none = none from by cases a1 <;> rfl, show t.get h = none from by unfold Tb.get; rw [hs]; rfl]
    (repeat refine Z ?_)
    (refine X_cond rfl (fun _ => ?_) (fun h => by cases h))
    (repeat refine Z ?_)
    refine XO_dv dv_alloc (hk := ?_)
    rintro _ _ ⟨nb, rfl, rfl⟩
    (repeat refine Z ?_)
    refine XO_dv0 dv_storeW (hk := ?_)
    rintro _ _ rfl
    (repeat refine Z ?_)
    refine XE_fold (by exact FAs) (Tbl.fold (eV := eTO) (t := t) (a1 := a1) (n1 := t.slots.length) (c1 := c1) (a2 := a2) (n2 := t.free.length) (c2 := c2) rfl rfl) ?_
    refine XE_ret (.inl rfl) (tells_many (vs := [tvalO (0, 0, 0), .bool false]) rfl ⟨told_cell, told_tmp, trivial⟩) ⟨_, ⟨rfl, rfl⟩, by exact EN⟩
  | some i =>
    obtain ⟨_, hu, _, _, _, hi⟩ := Tb.spot_some hs
    have hget : t.slots[i]? = some t.slots[i] := List.getElem?_eq_getElem hi
    have hg2 : t.get h = some t.slots[i].1 := by unfold Tb.get; rw [hs]; show Option.map _ _ = _; rw [hget]; rfl
    rw [hg2]
    refine XO_slopen (E' := eSlt eTO) (a := a1) (c := c1) (xs := t.slots) (by exact FDs) (by omega) ?_
    rintro qb o rfl
    rw [show slotA (some ⟨qb, o, none⟩) (eSlt eTO).sz (some i) = some ⟨qb, o + i * (eSlt eTO).sz, none⟩ from rfl]
    (repeat refine Z ?_)
    (refine X_cond rfl (fun h => by cases h) (fun _ => ?_))
    (repeat refine Z ?_)
    refine XO_rv (rv_elS (E' := eSlt eTO) (xs := t.slots) i 0 (vs := eTO.cells t.slots[i].1)) (hk := ?_)
    (repeat refine Z ?_)
    refine XO_dv0 dv_storeW (hk := ?_)
    rintro _ _ rfl
    (repeat refine Z ?_)
    trace_state
    refine XE_fold (by exact FAs) (Tbl.fold (eV := eTO) (t := t) (a1 := some ⟨qb, o, none⟩) (n1 := t.slots.length) (c1 := c1) (a2 := a2) (n2 := t.free.length) (c2 := c2) rfl rfl) ?_
    refine XE_ret (.inl rfl) (tells_many (vs := [tvalO t.slots[i].1, .bool true]) rfl ⟨told_cell, told_tmp, trivial⟩) ⟨_, ⟨rfl, rfl⟩, by exact EN⟩
theorem taddO (b : Nat) (t : Tb (Int × Int × Int)) {N : Nat} (hT : TbOk N t) (hN : N + 1 ≤ 1000000) (v : Int × Int × Int) : Spec Tryz.prog 95 [.pointer (some ⟨b, 0, none⟩), tvalO v] [TblO b t]
    (fun u L => u = .int .u64 t.addH ∧ L = [TblO b (t.add v)]) := by
  have hlen := hT.len
  have hkd := hT.kd
  have hnx := hT.nx_le
  refine Spec.intro (IsEnt.out) Tryz.func95 rfl Tryz.ntmps95 (by simp) (fun w0 F => ?_)
  simp only [envOf, List.zipIdx, List.map, List.cons_append, List.nil_append, Nat.zero_add, Nat.reduceAdd]
  refine X_open (A := TblO b t) (by exact FDs) Tbl.open ?_
  rintro ⟨⟨a1, c1⟩, a2, c2⟩ -
  dsimp only [List.cons_append, List.nil_append]
  (repeat refine Z ?_)
  refine XO_dv (dv_box (row := eTO.cells v)) (hk := ?_)
  rintro _ _ ⟨vb, rfl, rfl⟩
  (repeat refine Z ?_)
  refine XO_call (pack_spec t.kind 0 0 ⟨by omega, by omega⟩ ⟨by omega, by omega⟩ ⟨by omega, by omega⟩) (hk := ?_)
  rintro _ _ ⟨rfl, rfl⟩
  have hpk : (packI t.kind 0 0 == 0) = false := by rw [beq_eq_false_iff_ne]; exact pack_ne ⟨hkd.1, hkd.2, by decide, by decide⟩
  (repeat refine Z ?_)
  refine X_cond rfl (fun hh => by rw [hpk] at hh; cases hh) (fun _ => ?_)
  refine X_skip ?_
  refine XE_code ?_
  refine X_seq ?_
  refine X_region ?_
  (repeat (first | refine Zq ?_ | refine Zs ?_ | refine ZT ?_ | refine ZF ?_ | refine XO_gU (hk := ?_)))
  have hfl2 := hT.fl
  have hrl := Tb.room_lt hT ((0, 0, 0) : Int × Int × Int)
  have hrg := Tb.room_gen hT ((0, 0, 0) : Int × Int × Int) hrl
  have hae := Tb.add_eq hT ((0, 0, 0) : Int × Int × Int) v
  have hTa := hT.add hN v
  have hag : (t.add v).hAt t.nx = t.addH := by unfold Tb.addH Tb.hAt; rw [Tb.add_gen hT v, show (t.add v).kind = t.kind from by rw [hae]]
  refine XO_nil ?_
  refine XE_code ?_
  refine X_seq ?_
  refine X_join (ι := (Option Addr × Nat) × (Option Addr × Nat)) (fun _ => True) (fun _ => [(0, .pointer (some ⟨b, 0, none⟩)),
 (3, .pointer (some ⟨vb, 0, none⟩)),
    (5, .int .i64 (t.nx : Int))]) (fun y => [
  pt vb (.cells (eTO.cells v).toArray 156 (0, 0)),
    pt b (.cells (tbRow t.kind y.1.1 (t.room ((0, 0, 0) : Int × Int × Int)).slots.length y.1.2 y.2.1 (t.room ((0, 0, 0) : Int × Int × Int)).free.length y.2.2).toArray 227 (0, 0)), Sl (eSlt eTO) y.1.1 y.1.2 (t.room ((0, 0, 0) : Int × Int × Int)).slots, Sl (eI .i64) y.2.1 y.2.2 (t.room ((0, 0, 0) : Int × Int × Int)).free] ++ F) ?_ ?_
  · (repeat refine Z ?_)
    cases hl : t.free.getLast? with
    | none =>
      have hf0 : t.free = [] := List.getLast?_eq_none_iff.1 hl
      have hf1 : t.free.length = 0 := by rw [hf0]; rfl
      have hrm : t.room ((0, 0, 0) : Int × Int × Int) = ⟨t.kind, t.slots ++ [((0, 0, 0), false, 0)], t.free⟩ := by unfold Tb.room; rw [hl]
      have hn0 : t.nx = t.slots.length := by unfold Tb.nx; rw [hl]
      refine X_cond rfl (fun hh => by simp at hh; omega) (fun _ => ?_)
      (repeat refine Z ?_)
      refine XO_lit (E' := eSlt eTO) [(((0, 0, 0) : Int × Int × Int), false, (0 : Int))] (hk := ?_)
      intro lb
      (repeat refine Z ?_)
      refine XO_dv (dv_append (E' := eSlt eTO) (xs := t.slots) (ys := [(((0, 0, 0) : Int × Int × Int), false, (0 : Int))]) (hv := Sl.view) (hb := by simp; omega)) (hk := ?_)
      rintro _ _ ⟨a', c', rfl, rfl⟩
      (repeat refine Z ?_)
      refine XO_dv0 dv_store (hk := ?_)
      rintro _ _ rfl
      (repeat refine Z ?_)
      rw [hrm, hn0]
      exact X_meet ((a', c'), (a2, c2)) trivial (by exact SBs) (by ((try simp only [List.cons_append, List.nil_append]); repeat (first | exact ent_nil | exact ent_refl | refine ent_take (by repeat (first | exact Find.here | apply Find.there)) ?_ | refine ent_drop ?_)))
    | some i =>
      have hne : t.free ≠ [] := fun e => by rw [e] at hl; cases hl
      have hfl : 0 < t.free.length := List.length_pos_iff.2 hne
      have hi := hT.free i (List.mem_of_getLast? hl)
      have hrm : t.room ((0, 0, 0) : Int × Int × Int) = ⟨t.kind, t.slots, t.free.dropLast⟩ := by unfold Tb.room; rw [hl]
      have hn0 : t.nx = i.toNat := by unfold Tb.nx; rw [hl]
      have hgl : t.free[((t.free.length : Int) - 1).toNat]? = some i := by
        rw [show ((t.free.length : Int) - 1).toNat = t.free.length - 1 from by omega]
        rw [List.getLast?_eq_getElem?] at hl; exact hl
      refine X_cond rfl (fun _ => ?_) (fun hh => by rw [decide_eq_true (by omega)] at hh; cases hh)
      refine X_slopen (E' := eI .i64) (a := a2) (c := c2) (xs := t.free) (by exact FDs) hfl ?_
      rintro fb fo rfl
      refine X_fact (A := Sl (eI .i64) (some ⟨fb, fo, none⟩) c2 t.free) (by exact FDs) Sl.cap (fun hcap => ?_)
      (repeat refine Z ?_)
      refine XO_dv0 dv_store (hk := ?_)
      rintro _ _ rfl
      (repeat refine Z ?_)
      rw [show ((t.free.length : Int) - 1).toNat = t.free.dropLast.length from by rw [List.length_dropLast]; omega]
      refine XE_conv (fun _ => SL_take (E' := eI .i64) (a := some ⟨fb, fo, none⟩) (c := c2) (xs := t.free) (t.free.length - 1) (by exact FDs)) ?_
      rw [← List.dropLast_eq_take, hrm, hn0, show (i.toNat : Int) = i from by omega]
      exact X_meet ((a1, c1), (some ⟨fb, fo, none⟩, c2)) trivial (by exact SBs) (by ((try simp only [List.cons_append, List.nil_append]); repeat (first | exact ent_nil | exact ent_refl | refine ent_take (by repeat (first | exact Find.here | apply Find.there)) ?_ | refine ent_drop ?_)))
  rintro ⟨⟨a1, c1⟩, a2, c2⟩ -
  dsimp only
  generalize hxs : (t.room ((0, 0, 0) : Int × Int × Int)).slots = xs at hrl hrg hae ⊢
  have hgx : xs[t.nx]? = some xs[t.nx] := List.getElem?_eq_getElem hrl
  refine X_slopen (E' := eSlt eTO) (a := a1) (c := c1) (xs := xs) (by exact FDs) (by omega) ?_
  rintro qb o rfl
  (repeat refine Z ?_)
  (repeat refine ZD ?_)
  refine XD_one (h := ?_)
  refine XDa_dvk0 (dv_putEl (E' := eSlt eTO) (i := t.nx) (s := (eSlt eTO).sz) (f := 0) (xs := xs) (vs := eTO.cells v) (v, xs[t.nx].2.1, xs[t.nx].2.2) (by exact FDs) rfl rfl rfl (eTO.one v) rfl rfl hrl (by rw [eTO.len]; decide) rfl) (K := _) (hk := ?_)
  rintro _ _ rfl
  refine ⟨by exact KP, ?_⟩
  have hrl2 : t.nx < (xs.set t.nx (v, xs[t.nx].2.1, xs[t.nx].2.2)).length := by rw [List.length_set]; exact hrl
  (repeat refine ZD ?_)
  refine XD_one (h := ?_)
  refine XDa_dvk0 (dv_putEl (E' := eSlt eTO) (i := t.nx) (s := (eSlt eTO).sz) (f := eTO.sz) (xs := xs.set t.nx (v, xs[t.nx].2.1, xs[t.nx].2.2)) (vs := [.bool true]) (v, true, xs[t.nx].2.2) (by exact FDs) rfl rfl rfl (fun u hu => by simp at hu; subst hu; rfl) rfl rfl hrl2 (by decide) (by rw [List.getElem_set_self]; rfl)) (K := _) (hk := ?_)
  rintro _ _ rfl
  refine ⟨by exact KP, ?_⟩
  (refine XD_end (h := ?_); (repeat refine Z ?_))
  rw [List.set_set, hrg]
  have hc := thandleO b (t.add v) hTa t.nx (by rw [hae]; show t.nx < (xs.set _ _).length; rw [List.length_set]; exact hrl) (some ⟨qb, o, none⟩) c1 a2 (t.room ((0, 0, 0) : Int × Int × Int)).free.length c2
  rw [hag, hae] at hc
  dsimp only at hc
  rw [List.length_set] at hc
  (repeat refine Z ?_)
  refine XO_call hc (hk := ?_)
  rintro _ _ ⟨rfl, rfl⟩
  (repeat refine Z ?_)
  rw [hae]
  refine XE_fold (by exact FAs) (Tbl.fold (eV := eTO) (T := 227) (b := b) (t := ⟨t.kind, xs.set t.nx (v, true, t.genAt t.nx), (t.room ((0, 0, 0) : Int × Int × Int)).free⟩) (a1 := some ⟨qb, o, none⟩) (n1 := xs.length) (c1 := c1) (a2 := a2) (n2 := (t.room ((0, 0, 0) : Int × Int × Int)).free.length) (c2 := c2) (by show _ = (xs.set _ _).length; rw [List.length_set]) rfl) ?_
  refine XE_ret (.inl rfl) (tells_tmps rfl rfl) ⟨_, ⟨rfl, rfl⟩, by exact EN⟩
theorem tdropO (b : Nat) (t : Tb (Int × Int × Int)) {N : Nat} (hT : TbOk N t) (h : Int) (h0 : 0 ≤ h) (h1 : h ≤ 18446744073709551615) : Spec Tryz.prog 144 [.pointer (some ⟨b, 0, none⟩), .int .u64 h] [TblO b t]
    (fun u L => u = .bool (t.spot h).isSome ∧ L = [TblO b (t.drop (0, 0, 0) h)]) := by
  have hlen := hT.len
  have hkd := hT.kd
  have hfl2 := hT.fl
  have hN := hT.hN
  refine Spec.intro (IsEnt.out) Tryz.func144 rfl Tryz.ntmps144 (by simp) (fun w0 F => ?_)
  simp only [envOf, List.zipIdx, List.map, List.cons_append, List.nil_append, Nat.zero_add, Nat.reduceAdd]
  refine X_open (A := TblO b t) (by exact FDs) Tbl.open ?_
  rintro ⟨⟨a1, c1⟩, a2, c2⟩ -
  dsimp only [List.cons_append, List.nil_append]
  (repeat refine Z ?_)
  refine XO_call (tliveO b t hT h h0 h1 a1 c1 a2 t.free.length c2) (hk := ?_)
  rintro _ _ ⟨rfl, rfl⟩
  cases hs : t.spot h with
  | none =>
    rw [show slotA a1 (eSlt eTO).sz none = none from by cases a1 <;> rfl, show t.drop (0, 0, 0) h = t from by unfold Tb.drop; rw [hs]]
    (repeat refine Z ?_)
    (refine X_cond rfl (fun _ => ?_) (fun h => by cases h))
    (repeat refine Z ?_)
    refine XE_fold (by exact FAs) (Tbl.fold (eV := eTO) (t := t) (a1 := a1) (n1 := t.slots.length) (c1 := c1) (a2 := a2) (n2 := t.free.length) (c2 := c2) rfl rfl) ?_
    refine XE_ret (.inl rfl) (tells_tmps rfl rfl) ⟨_, ⟨rfl, rfl⟩, by exact EN⟩
  | some i =>
    obtain ⟨hk0, hu, hkk, hgg, hsl, hi⟩ := Tb.spot_some hs
    have hgn := hT.gen i
    have hgi : t.slots[i].2.2 = t.genAt i := by unfold Tb.genAt; rw [List.getElem?_eq_getElem hi]
    have hget : t.slots[i]? = some t.slots[i] := List.getElem?_eq_getElem hi
    have hde : t.drop (0, 0, 0) h = ⟨t.kind, t.slots.set i ((0, 0, 0), false, nextI (t.genAt i)), t.free ++ [(i : Int)]⟩ := by unfold Tb.drop; rw [hs]
    refine XO_slopen (E' := eSlt eTO) (a := a1) (c := c1) (xs := t.slots) (by exact FDs) (by omega) ?_
    rintro qb o rfl
    rw [show slotA (some ⟨qb, o, none⟩) (eSlt eTO).sz (some i) = some ⟨qb, o + i * (eSlt eTO).sz, none⟩ from rfl]
    (repeat refine Z ?_)
    (refine X_cond rfl (fun h => by cases h) (fun _ => ?_))
    (repeat refine Z ?_)
    refine XO_call (unpack_spec h h0 h1) (hk := ?_)
    rintro _ _ ⟨rfl, rfl⟩
    unfold unpV
    rw [if_neg hk0, show hSlot h = (i : Int) from by have h2 : 0 ≤ hSlot h := Int.emod_nonneg _ (by decide); omega]
    (repeat refine Z ?_)
    rw [hgi]
    refine XO_call (next_spec (t.genAt i) (by omega) (by omega)) (hk := ?_)
    rintro _ _ ⟨rfl, rfl⟩
    refine XO_pv (pv_buildG (eTO.cells (0, 0, 0) ++ [.bool false, .int .i64 (nextI (t.genAt i))])) (hk := ?_)
    (repeat refine Z ?_)
    refine XO_dv0 (dv_putElW (E' := eSlt eTO) (i := i) (xs := t.slots) (s := (eSlt eTO).sz) ((0, 0, 0), false, nextI (t.genAt i))) (hk := ?_)
    rintro _ _ rfl
    (repeat refine Z ?_)
    refine XO_lit (E' := eI .i64) [(i : Int)] (hk := ?_)
    intro lb
    (repeat refine Z ?_)
    refine XO_dv (dv_append (E' := eI .i64) (xs := t.free) (ys := [(i : Int)]) (hv := Sl.view) (hb := by simp; omega)) (hk := ?_)
    rintro _ _ ⟨a', c', rfl, rfl⟩
    (repeat refine Z ?_)
    refine XO_dv0 dv_store (hk := ?_)
    rintro _ _ rfl
    (repeat refine Z ?_)
    rw [hde]
    refine XE_fold (by exact FAs) (Tbl.fold (eV := eTO) (T := 227) (b := b) (t := ⟨t.kind, t.slots.set i ((0, 0, 0), false, nextI (t.genAt i)), t.free ++ [(i : Int)]⟩) (a1 := some ⟨qb, o, none⟩) (n1 := t.slots.length) (c1 := c1) (a2 := a') (n2 := (t.free ++ [(i : Int)]).length) (c2 := c') (by show _ = (t.slots.set _ _).length; rw [List.length_set]) rfl) ?_
    refine XE_ret (.inl rfl) (tells_tmps rfl rfl) ⟨_, ⟨rfl, rfl⟩, by exact EN⟩
theorem thandlesO (b : Nat) (t : Tb (Int × Int × Int)) {N : Nat} (hT : TbOk N t) : Spec Tryz.prog 109 [.pointer (some ⟨b, 0, none⟩)] [TblO b t]
    (fun u L => ∃ a c, u = .slice a t.handles.length c ∧ L = [TblO b t, Sl (eI .u64) a c t.handles]) := by
  have hlen := hT.len
  have hN := hT.hN
  have hhl : ∀ k, (t.handlesTo k).length ≤ k := by
    intro k
    induction k with
    | zero => exact Nat.le_refl _
    | succ k ih => unfold Tb.handlesTo; split <;> simp <;> omega
  refine Spec.intro (IsEnt.out) Tryz.func109 rfl Tryz.ntmps109 (by simp) (fun w0 F => ?_)
  simp only [envOf, List.zipIdx, List.map, List.cons_append, List.nil_append, Nat.zero_add, Nat.reduceAdd]
  refine X_open (A := TblO b t) (by exact FDs) Tbl.open ?_
  rintro ⟨⟨a1, c1⟩, a2, c2⟩ -
  dsimp only [List.cons_append, List.nil_append]
  (repeat refine Z ?_)
  (refine X_cond rfl (fun h => by cases h) (fun _ => ?_))
  (repeat refine Z ?_)
  refine X_conv (fun _ h => SL_nilSl (eI .u64) h) ?_
  refine X_loop (ι := Nat × Option Addr × Nat) (fun y => y.1 ≤ t.slots.length) (fun y => [(0, .pointer (some ⟨b, 0, none⟩)), (3, .slice y.2.1 (t.handlesTo y.1).length y.2.2), (11, .slice a1 t.slots.length c1), (12, .int .i64 (t.slots.length : Int)), (13, .int .i64 (y.1 : Int))])
    (fun y => Sl (eI .u64) y.2.1 y.2.2 (t.handlesTo y.1) :: pt b (.cells (tbRow t.kind a1 t.slots.length c1 a2 t.free.length c2).toArray 227 (0, 0)) :: Sl (eSlt eTO) a1 c1 t.slots :: Sl (eI .i64) a2 c2 t.free :: F) (fun y => t.slots.length - y.1) (0, none, 0) (Nat.zero_le _) ?_ (by exact EN) ?_
  · exact SBs
  rintro ⟨k, a, c⟩ hk
  dsimp only at hk ⊢
  have hhk := hhl k
  (repeat refine Z ?_)
  refine X_cond rfl (fun hc => ?_) (fun hc => ?_) <;> simp only [decide_eq_true_eq, decide_eq_false_iff_not] at hc
  · have hkl : k < t.slots.length := by omega
    have hget : t.slots[k]? = some t.slots[k] := List.getElem?_eq_getElem hkl
    have huk : t.slots[k].2.1 = t.usedAt k := by unfold Tb.usedAt; rw [hget]
    refine X_slopen (E' := eSlt eTO) (a := a1) (c := c1) (xs := t.slots) (by exact FDs) (by omega) ?_
    rintro qb o rfl
    (repeat refine Z ?_)
    refine XO_dv (dv_alloc (row := (eSlt eTO).cells ((0, 0, 0), false, 0))) (hk := ?_)
    rintro _ _ ⟨sb, rfl, rfl⟩
    (repeat refine Z ?_)
    refine XO_dv0 (dv_storeW (vs := (eSlt eTO).cells t.slots[k])) (hk := ?_)
    rintro _ _ rfl
    clear hget
    (repeat refine Z ?_)
    refine X_cond rfl (fun hu => ?_) (fun hu => ?_)
    · have hu2 : t.usedAt k = true := by rw [← huk]; exact hu
      have hte : t.handlesTo (k + 1) = t.handlesTo k ++ [t.hAt k] := by conv => lhs; unfold Tb.handlesTo; rw [if_pos hu2]
      (repeat refine Z ?_)
      refine XO_call (thandleO b t hT k hkl (some ⟨qb, o, none⟩) c1 a2 t.free.length c2) (hk := ?_)
      rintro _ _ ⟨rfl, rfl⟩
      (repeat refine Z ?_)
      refine XO_lit (E' := eI .u64) [t.hAt k] (hk := ?_)
      intro lb
      (repeat refine Z ?_)
      refine XO_dv (dv_append (E' := eI .u64) (xs := t.handlesTo k) (ys := [t.hAt k]) (hv := Sl.view) (hb := by simp; omega)) (hk := ?_)
      rintro _ _ ⟨a', c', rfl, rfl⟩
      (repeat refine Z ?_)
      rw [← hte]
      exact X_round (k + 1, a', c') (by show k + 1 ≤ _; omega) (by show t.slots.length - (k + 1) < t.slots.length - k; omega) (by exact SBs) (by exact EN)
    · have hu2 : t.usedAt k = false := by rw [← huk]; exact hu
      have hte : t.handlesTo (k + 1) = t.handlesTo k := by conv => lhs; unfold Tb.handlesTo; rw [if_neg (by rw [hu2]; simp), List.append_nil]
      (repeat refine Z ?_)
      rw [← hte]
      exact X_round (k + 1, a, c) (by show k + 1 ≤ _; omega) (by show t.slots.length - (k + 1) < t.slots.length - k; omega) (by exact SBs) (by exact EN)
  obtain rfl : k = t.slots.length := by omega
  (repeat refine Z ?_)
  refine XE_fold (by exact FAs) (Tbl.fold (eV := eTO) (t := t) (a1 := a1) (n1 := t.slots.length) (c1 := c1) (a2 := a2) (n2 := t.free.length) (c2 := c2) rfl rfl) ?_
  refine XE_ret (.inl rfl) (tells_tmps rfl rfl) ⟨_, ⟨a, c, rfl, rfl⟩, by exact EN⟩
end Go.Proofs.YtamecmklcnohjaaGreat.Sep
namespace Go.Proofs.YtamecmklcnohjaaGreat.Sep
open Go.RowKit
set_option linter.unusedSimpArgs false
set_option linter.unusedVariables false
structure MkT where
  mc : Int
  ml : Int
  at_ : Int
  ob : Int
  pd : Int
  of_ : Int
  tr : Int
abbrev mkRow (v : MkT) : List Value := [.int .i64 v.mc, .int .i64 v.ml, .int .u64 v.at_, .int .u64 v.ob, .int .u64 v.pd, .int .u64 v.of_, .int .i64 v.tr]
def eTM : E MkT := ⟨7, true, fun v => mkRow v, fun _ => rfl, fun _ _ h => by simp at h; rcases h with rfl | rfl | rfl | rfl | rfl | rfl | rfl <;> rfl, by decide, fun h => by cases h⟩
abbrev tvalM (v : MkT) : Value := (.agg (mkRow v).toArray)
abbrev TblM (b : Nat) (t : Tb (MkT)) : HP := Tbl eTM 230 b t
set_option maxHeartbeats 8000000
attribute [local irreducible] X XE XO XD XDi XDa PV RV DV pt base Spec Sl Mp Keeps
attribute [local irreducible] Tbl
instance teq_tmM : TEq Tryz.prog 282 [.i64, .i64] := ⟨_, Tryz.underlying282, by kernel_rfl, by kernel_rfl, ⟨by decide, rfl, Tryz.underlying3, by decide, rfl, Tryz.underlying3, trivial⟩⟩
theorem tnewM (k : Int) : Spec Tryz.prog 87 [.int .i64 k] [] (fun v L => ∃ b, v = .pointer (some ⟨b, 0, none⟩) ∧ L = [TblM b ⟨k, [], []⟩]) := by
  refine Spec.intro (IsEnt.out) Tryz.func87 rfl Tryz.ntmps87 (by simp) (fun w0 F => ?_)
  simp only [envOf, List.zipIdx, List.map, List.cons_append, List.nil_append, Nat.zero_add, Nat.reduceAdd]
  (repeat refine Z ?_)
  refine XO_pv (pv_buildG [.int .i64 k, .slice none 0 0, .slice none 0 0]) (hk := ?_)
  (repeat refine Z ?_)
  refine XO_dv dv_box (hk := ?_)
  rintro _ _ ⟨b, rfl, rfl⟩
  (repeat refine Z ?_)
  refine XE_conv (fun _ h => SL_nilSl (eSlt eTM) h) ?_
  refine XE_conv (fun _ h => SL_nilSl (eI .i64) h) ?_
  refine XE_ret (.inl rfl) (tells_tmps rfl rfl) ⟨_, ⟨b, rfl, rfl⟩, ?_⟩
  simp only [List.cons_append, List.nil_append]
  refine ent_fold (by exact FAs) (Tbl.fold (eV := eTM) (t := ⟨k, [], []⟩) (a1 := none) (n1 := 0) (c1 := 0) (a2 := none) (n2 := 0) (c2 := 0) rfl rfl) ?_
  exact EN
theorem thandleM (b : Nat) (t : Tb (MkT)) {N : Nat} (hT : TbOk N t) (i : Nat) (hi : i < t.slots.length) (a1 : Option Addr) (c1 : Nat) (a2 : Option Addr) (n2 c2 : Nat) : Spec Tryz.prog 152 [.pointer (some ⟨b, 0, none⟩), .int .i64 i] [pt b (.cells (tbRow t.kind a1 t.slots.length c1 a2 n2 c2).toArray 230 (0, 0)), Sl (eSlt eTM) a1 c1 t.slots]
    (fun v L => v = .int .u64 (t.hAt i) ∧ L = [pt b (.cells (tbRow t.kind a1 t.slots.length c1 a2 n2 c2).toArray 230 (0, 0)), Sl (eSlt eTM) a1 c1 t.slots]) := by
  have hlen := hT.len
  have hN := hT.hN
  have hgn := hT.gen i
  have hkd := hT.kd
  refine Spec.intro (IsEnt.out) Tryz.func152 rfl Tryz.ntmps152 (by simp) (fun w0 F => ?_)
  simp only [envOf, List.zipIdx, List.map, List.cons_append, List.nil_append, Nat.zero_add, Nat.reduceAdd]
  have hget : t.slots[i]? = some t.slots[i] := List.getElem?_eq_getElem hi
  have hgg : t.genAt i = t.slots[i].2.2 := by unfold Tb.genAt; rw [hget]
  unfold Tb.hAt
  rw [hgg] at hgn ⊢
  generalize t.slots[i] = q at hget hgg hgn ⊢
  refine X_slopen (E' := eSlt eTM) (a := a1) (c := c1) (xs := t.slots) (by exact FDs) (by omega) ?_
  rintro qb o rfl
  (repeat refine Z ?_)
  (repeat refine ZD ?_)
  refine XD_one (h := ?_)
  refine XDa_dvA (dv_call (pack_spec t.kind i q.2.2 ⟨by omega, by omega⟩ ⟨by omega, by omega⟩ ⟨by omega, by omega⟩)) (hk := ?_)
  (rintro _ _ ⟨_, ⟨rfl, rfl⟩, rfl⟩; refine ⟨by exact KP, ?_⟩)
  (repeat refine ZD ?_)
  (refine XD_one (h := ?_); refine XDa_dvA (dv_of_rv (rv_of_pv pv_assign)) (hk := ?_); rintro _ _ ⟨rfl, rfl⟩; refine ⟨by exact KP, ?_⟩)
  (refine XD_end (h := ?_); (repeat refine Z ?_))
  refine XE_ret (.inl rfl) (tells_tmps rfl rfl) ⟨_, ⟨rfl, rfl⟩, by exact EN⟩
theorem tliveM (b : Nat) (t : Tb (MkT)) {N : Nat} (hT : TbOk N t) (h : Int) (h0 : 0 ≤ h) (h1 : h ≤ 18446744073709551615) (a1 : Option Addr) (c1 : Nat) (a2 : Option Addr) (n2 c2 : Nat) : Spec Tryz.prog 153 [.pointer (some ⟨b, 0, none⟩), .int .u64 h] [pt b (.cells (tbRow t.kind a1 t.slots.length c1 a2 n2 c2).toArray 230 (0, 0)), Sl (eSlt eTM) a1 c1 t.slots]
    (fun v L => v = .pointer (slotA a1 (eSlt eTM).sz (t.spot h)) ∧ L = [pt b (.cells (tbRow t.kind a1 t.slots.length c1 a2 n2 c2).toArray 230 (0, 0)), Sl (eSlt eTM) a1 c1 t.slots]) := by
  have hlen := hT.len
  have hN := hT.hN
  have hs0 : 0 ≤ hSlot h := Int.emod_nonneg _ (by decide)
  have hs1 : hSlot h < 4294967296 := Int.emod_lt_of_pos _ (by decide)
  refine Spec.intro (IsEnt.out) Tryz.func153 rfl Tryz.ntmps153 (by simp) (fun w0 F => ?_)
  simp only [envOf, List.zipIdx, List.map, List.cons_append, List.nil_append, Nat.zero_add, Nat.reduceAdd]
  (repeat refine Z ?_)
  refine XO_call (unpack_spec h h0 h1) (hk := ?_)
  rintro _ _ ⟨rfl, rfl⟩
  unfold unpV
  by_cases hk : hKind h = 0
  · rw [if_pos hk, show t.spot h = none from if_neg (fun hh => hh.1 hk), show slotA a1 (eSlt eTM).sz none = none from by cases a1 <;> rfl]
    (repeat refine Z ?_)
    (repeat refine ZD ?_)
    (refine XD_end (h := ?_); (repeat refine Z ?_))
    (refine X_cond rfl (fun _ => ?_) (fun h => by cases h))
    (repeat refine Z ?_)
    refine XE_ret (.inl rfl) (tells_tmps rfl rfl) ⟨_, ⟨rfl, rfl⟩, by exact EN⟩
  rw [if_neg hk]
  (repeat refine Z ?_)
  (repeat refine ZD ?_)
  by_cases hi : (hSlot h).toNat < t.slots.length
  case neg =>
    rw [show decide ((t.slots.length : Int) ≤ hSlot h) = true from decide_eq_true (by omega), show t.spot h = none from if_neg (fun hh => hi (Tb.usedAt_lt hh.2.1)), show slotA a1 (eSlt eTM).sz none = none from by cases a1 <;> rfl]
    (repeat refine ZD ?_)
    (refine XD_end (h := ?_); (repeat refine Z ?_))
    (refine X_cond rfl (fun _ => ?_) (fun h => by cases h))
    (repeat refine Z ?_)
    refine XE_ret (.inl rfl) (tells_tmps rfl rfl) ⟨_, ⟨rfl, rfl⟩, by exact EN⟩
  rw [show decide ((t.slots.length : Int) ≤ hSlot h) = false from decide_eq_false (by omega)]
  have hget : t.slots[(hSlot h).toNat]? = some t.slots[(hSlot h).toNat] := List.getElem?_eq_getElem hi
  have hsp : t.spot h = if t.slots[(hSlot h).toNat].2.1 = true ∧ hKind h = t.kind ∧ hGen h = t.slots[(hSlot h).toNat].2.2 then some (hSlot h).toNat else none := by
    unfold Tb.spot Tb.usedAt Tb.genAt
    rw [hget]
    simp only [ne_eq, hk, not_false_eq_true, true_and]
  rw [hsp]
  generalize t.slots[(hSlot h).toNat] = q at hget ⊢
  refine XDi_view (E' := eSlt eTM) (a := a1) (xs := t.slots) (hV := Sl.view) (hp := by omega) (h := ?_)
  rintro qb o rfl
  (repeat refine ZD ?_)
  obtain ⟨v, u, g⟩ := q
  dsimp only at hget ⊢
  cases u with
  | false =>
    rw [if_neg (fun hh => by cases hh.1), show slotA (some ⟨qb, o, none⟩) (eSlt eTM).sz none = none from rfl]
    (repeat refine ZD ?_)
    (refine XD_end (h := ?_); (repeat refine Z ?_))
    (refine X_cond rfl (fun _ => ?_) (fun h => by cases h))
    (repeat refine Z ?_)
    refine XE_ret (.inl rfl) (tells_tmps rfl rfl) ⟨_, ⟨rfl, rfl⟩, by exact EN⟩
  | true =>
    (repeat refine ZD ?_)
    refine Dp (pv_neRec [hKind h, hGen h] [t.kind, g]) ?_
    (repeat refine ZD ?_)
    (refine XD_end (h := ?_); (repeat refine Z ?_))
    by_cases he : hKind h = t.kind ∧ hGen h = g
    · rw [if_pos ⟨rfl, he⟩]
      refine X_cond rfl (fun hh => by simp [he.1, he.2] at hh) (fun _ => ?_)
      (repeat refine Z ?_)
      refine XE_ret (.inl rfl) (tells_tmps rfl rfl) ⟨_, ⟨rfl, rfl⟩, by exact EN⟩
    · rw [if_neg (fun hh => he hh.2), show slotA (some ⟨qb, o, none⟩) (eSlt eTM).sz none = none from rfl]
      refine X_cond rfl (fun _ => ?_) (fun hh => by simp at hh; exact absurd hh he)
      (repeat refine Z ?_)
      refine XE_ret (.inl rfl) (tells_tmps rfl rfl) ⟨_, ⟨rfl, rfl⟩, by exact EN⟩
theorem tgetM (b : Nat) (t : Tb (MkT)) {N : Nat} (hT : TbOk N t) (h : Int) (h0 : 0 ≤ h) (h1 : h ≤ 18446744073709551615) : Spec Tryz.prog 106 [.pointer (some ⟨b, 0, none⟩), .int .u64 h] [TblM b t]
    (fun v L => v = .tuple #[tvalM ((t.get h).getD ⟨0, 0, 0, 0, 0, 0, 0⟩), .bool (t.get h).isSome] ∧ L = [TblM b t]) := by
  refine Spec.intro (IsEnt.out) Tryz.func106 rfl Tryz.ntmps106 (by simp) (fun w0 F => ?_)
  simp only [envOf, List.zipIdx, List.map, List.cons_append, List.nil_append, Nat.zero_add, Nat.reduceAdd]
  refine X_open (A := TblM b t) (by exact FDs) Tbl.open ?_
  rintro ⟨⟨a1, c1⟩, a2, c2⟩ -
  dsimp only [List.cons_append, List.nil_append]
  (repeat refine Z ?_)
  refine XO_dv dv_alloc (hk := ?_)
  rintro _ _ ⟨rb, rfl, rfl⟩
  (repeat refine Z ?_)
  refine XO_call (tliveM b t hT h h0 h1 a1 c1 a2 t.free.length c2) (hk := ?_)
  rintro _ _ ⟨rfl, rfl⟩
  cases hs : t.spot h with
  | none =>
    rw [show slotA a1 (eSlt eTM).sz none = none from by cases a1 <;> rfl, show t.get h = none from by unfold Tb.get; rw [hs]; rfl]
    (repeat refine Z ?_)
    (refine X_cond rfl (fun _ => ?_) (fun h => by cases h))
    (repeat refine Z ?_)
    refine XO_dv dv_alloc (hk := ?_)
    rintro _ _ ⟨nb, rfl, rfl⟩
    (repeat refine Z ?_)
    refine XO_dv0 dv_storeW (hk := ?_)
    rintro _ _ rfl
    (repeat refine Z ?_)
    refine XE_fold (by exact FAs) (Tbl.fold (eV := eTM) (t := t) (a1 := a1) (n1 := t.slots.length) (c1 := c1) (a2 := a2) (n2 := t.free.length) (c2 := c2) rfl rfl) ?_
    refine XE_ret (.inl rfl) (tells_many (vs := [tvalM ⟨0, 0, 0, 0, 0, 0, 0⟩, .bool false]) rfl ⟨told_cell, told_tmp, trivial⟩) ⟨_, ⟨rfl, rfl⟩, by exact EN⟩
  | some i =>
    obtain ⟨_, hu, _, _, _, hi⟩ := Tb.spot_some hs
    have hget : t.slots[i]? = some t.slots[i] := List.getElem?_eq_getElem hi
    have hg2 : t.get h = some t.slots[i].1 := by unfold Tb.get; rw [hs]; show Option.map _ _ = _; rw [hget]; rfl
    rw [hg2]
    refine XO_slopen (E' := eSlt eTM) (a := a1) (c := c1) (xs := t.slots) (by exact FDs) (by omega) ?_
    rintro qb o rfl
    rw [show slotA (some ⟨qb, o, none⟩) (eSlt eTM).sz (some i) = some ⟨qb, o + i * (eSlt eTM).sz, none⟩ from rfl]
    (repeat refine Z ?_)
    (refine X_cond rfl (fun h => by cases h) (fun _ => ?_))
    (repeat refine Z ?_)
    refine XO_rv (rv_elS (E' := eSlt eTM) (xs := t.slots) i 0 (vs := eTM.cells t.slots[i].1)) (hk := ?_)
    (repeat refine Z ?_)
    refine XO_dv0 dv_storeW (hk := ?_)
    rintro _ _ rfl
    (repeat refine Z ?_)
    trace_state
    refine XE_fold (by exact FAs) (Tbl.fold (eV := eTM) (t := t) (a1 := some ⟨qb, o, none⟩) (n1 := t.slots.length) (c1 := c1) (a2 := a2) (n2 := t.free.length) (c2 := c2) rfl rfl) ?_
    refine XE_ret (.inl rfl) (tells_many (vs := [tvalM t.slots[i].1, .bool true]) rfl ⟨told_cell, told_tmp, trivial⟩) ⟨_, ⟨rfl, rfl⟩, by exact EN⟩
theorem taddM (b : Nat) (t : Tb (MkT)) {N : Nat} (hT : TbOk N t) (hN : N + 1 ≤ 1000000) (v : MkT) : Spec Tryz.prog 104 [.pointer (some ⟨b, 0, none⟩), tvalM v] [TblM b t]
    (fun u L => u = .int .u64 t.addH ∧ L = [TblM b (t.add v)]) := by
  have hlen := hT.len
  have hkd := hT.kd
  have hnx := hT.nx_le
  refine Spec.intro (IsEnt.out) Tryz.func104 rfl Tryz.ntmps104 (by simp) (fun w0 F => ?_)
  simp only [envOf, List.zipIdx, List.map, List.cons_append, List.nil_append, Nat.zero_add, Nat.reduceAdd]
  refine X_open (A := TblM b t) (by exact FDs) Tbl.open ?_
  rintro ⟨⟨a1, c1⟩, a2, c2⟩ -
  dsimp only [List.cons_append, List.nil_append]
  (repeat refine Z ?_)
  refine XO_dv (dv_box (row := eTM.cells v)) (hk := ?_)
  rintro _ _ ⟨vb, rfl, rfl⟩
  (repeat refine Z ?_)
  refine XO_call (pack_spec t.kind 0 0 ⟨by omega, by omega⟩ ⟨by omega, by omega⟩ ⟨by omega, by omega⟩) (hk := ?_)
  rintro _ _ ⟨rfl, rfl⟩
  have hpk : (packI t.kind 0 0 == 0) = false := by rw [beq_eq_false_iff_ne]; exact pack_ne ⟨hkd.1, hkd.2, by decide, by decide⟩
  (repeat refine Z ?_)
  refine X_cond rfl (fun hh => by rw [hpk] at hh; cases hh) (fun _ => ?_)
  refine X_skip ?_
  refine XE_code ?_
  refine X_seq ?_
  refine X_region ?_
  (repeat (first | refine Zq ?_ | refine Zs ?_ | refine ZT ?_ | refine ZF ?_ | refine XO_gU (hk := ?_)))
  have hfl2 := hT.fl
  have hrl := Tb.room_lt hT (⟨0, 0, 0, 0, 0, 0, 0⟩ : MkT)
  have hrg := Tb.room_gen hT (⟨0, 0, 0, 0, 0, 0, 0⟩ : MkT) hrl
  have hae := Tb.add_eq hT (⟨0, 0, 0, 0, 0, 0, 0⟩ : MkT) v
  have hTa := hT.add hN v
  have hag : (t.add v).hAt t.nx = t.addH := by unfold Tb.addH Tb.hAt; rw [Tb.add_gen hT v, show (t.add v).kind = t.kind from by rw [hae]]
  refine XO_nil ?_
  refine XE_code ?_
  refine X_seq ?_
  refine X_join (ι := (Option Addr × Nat) × (Option Addr × Nat)) (fun _ => True) (fun _ => [(0, .pointer (some ⟨b, 0, none⟩)),
 (3, .pointer (some ⟨vb, 0, none⟩)),
    (5, .int .i64 (t.nx : Int))]) (fun y => [
  pt vb (.cells (eTM.cells v).toArray 160 (0, 0)),
    pt b (.cells (tbRow t.kind y.1.1 (t.room (⟨0, 0, 0, 0, 0, 0, 0⟩ : MkT)).slots.length y.1.2 y.2.1 (t.room (⟨0, 0, 0, 0, 0, 0, 0⟩ : MkT)).free.length y.2.2).toArray 230 (0, 0)), Sl (eSlt eTM) y.1.1 y.1.2 (t.room (⟨0, 0, 0, 0, 0, 0, 0⟩ : MkT)).slots, Sl (eI .i64) y.2.1 y.2.2 (t.room (⟨0, 0, 0, 0, 0, 0, 0⟩ : MkT)).free] ++ F) ?_ ?_
  · (repeat refine Z ?_)
    cases hl : t.free.getLast? with
    | none =>
      have hf0 : t.free = [] := List.getLast?_eq_none_iff.1 hl
      have hf1 : t.free.length = 0 := by rw [hf0]; rfl
      have hrm : t.room (⟨0, 0, 0, 0, 0, 0, 0⟩ : MkT) = ⟨t.kind, t.slots ++ [(⟨0, 0, 0, 0, 0, 0, 0⟩, false, 0)], t.free⟩ := by unfold Tb.room; rw [hl]
      have hn0 : t.nx = t.slots.length := by unfold Tb.nx; rw [hl]
      refine X_cond rfl (fun hh => by simp at hh; omega) (fun _ => ?_)
      (repeat refine Z ?_)
      refine XO_lit (E' := eSlt eTM) [((⟨0, 0, 0, 0, 0, 0, 0⟩ : MkT), false, (0 : Int))] (hk := ?_)
      intro lb
      (repeat refine Z ?_)
      refine XO_dv (dv_append (E' := eSlt eTM) (xs := t.slots) (ys := [((⟨0, 0, 0, 0, 0, 0, 0⟩ : MkT), false, (0 : Int))]) (hv := Sl.view) (hb := by simp; omega)) (hk := ?_)
      rintro _ _ ⟨a', c', rfl, rfl⟩
      (repeat refine Z ?_)
      refine XO_dv0 dv_store (hk := ?_)
      rintro _ _ rfl
      (repeat refine Z ?_)
      rw [hrm, hn0]
      exact X_meet ((a', c'), (a2, c2)) trivial (by exact SBs) (by ((try simp only [List.cons_append, List.nil_append]); repeat (first | exact ent_nil | exact ent_refl | refine ent_take (by repeat (first | exact Find.here | apply Find.there)) ?_ | refine ent_drop ?_)))
    | some i =>
      have hne : t.free ≠ [] := fun e => by rw [e] at hl; cases hl
      have hfl : 0 < t.free.length := List.length_pos_iff.2 hne
      have hi := hT.free i (List.mem_of_getLast? hl)
      have hrm : t.room (⟨0, 0, 0, 0, 0, 0, 0⟩ : MkT) = ⟨t.kind, t.slots, t.free.dropLast⟩ := by unfold Tb.room; rw [hl]
      have hn0 : t.nx = i.toNat := by unfold Tb.nx; rw [hl]
      have hgl : t.free[((t.free.length : Int) - 1).toNat]? = some i := by
        rw [show ((t.free.length : Int) - 1).toNat = t.free.length - 1 from by omega]
        rw [List.getLast?_eq_getElem?] at hl; exact hl
      refine X_cond rfl (fun _ => ?_) (fun hh => by rw [decide_eq_true (by omega)] at hh; cases hh)
      refine X_slopen (E' := eI .i64) (a := a2) (c := c2) (xs := t.free) (by exact FDs) hfl ?_
      rintro fb fo rfl
      refine X_fact (A := Sl (eI .i64) (some ⟨fb, fo, none⟩) c2 t.free) (by exact FDs) Sl.cap (fun hcap => ?_)
      (repeat refine Z ?_)
      refine XO_dv0 dv_store (hk := ?_)
      rintro _ _ rfl
      (repeat refine Z ?_)
      rw [show ((t.free.length : Int) - 1).toNat = t.free.dropLast.length from by rw [List.length_dropLast]; omega]
      refine XE_conv (fun _ => SL_take (E' := eI .i64) (a := some ⟨fb, fo, none⟩) (c := c2) (xs := t.free) (t.free.length - 1) (by exact FDs)) ?_
      rw [← List.dropLast_eq_take, hrm, hn0, show (i.toNat : Int) = i from by omega]
      exact X_meet ((a1, c1), (some ⟨fb, fo, none⟩, c2)) trivial (by exact SBs) (by ((try simp only [List.cons_append, List.nil_append]); repeat (first | exact ent_nil | exact ent_refl | refine ent_take (by repeat (first | exact Find.here | apply Find.there)) ?_ | refine ent_drop ?_)))
  rintro ⟨⟨a1, c1⟩, a2, c2⟩ -
  dsimp only
  generalize hxs : (t.room (⟨0, 0, 0, 0, 0, 0, 0⟩ : MkT)).slots = xs at hrl hrg hae ⊢
  have hgx : xs[t.nx]? = some xs[t.nx] := List.getElem?_eq_getElem hrl
  refine X_slopen (E' := eSlt eTM) (a := a1) (c := c1) (xs := xs) (by exact FDs) (by omega) ?_
  rintro qb o rfl
  (repeat refine Z ?_)
  (repeat refine ZD ?_)
  refine XD_one (h := ?_)
  refine XDa_dvk0 (dv_putEl (E' := eSlt eTM) (i := t.nx) (s := (eSlt eTM).sz) (f := 0) (xs := xs) (vs := eTM.cells v) (v, xs[t.nx].2.1, xs[t.nx].2.2) (by exact FDs) rfl rfl rfl (eTM.one v) rfl rfl hrl (by rw [eTM.len]; decide) rfl) (K := _) (hk := ?_)
  rintro _ _ rfl
  refine ⟨by exact KP, ?_⟩
  have hrl2 : t.nx < (xs.set t.nx (v, xs[t.nx].2.1, xs[t.nx].2.2)).length := by rw [List.length_set]; exact hrl
  (repeat refine ZD ?_)
  refine XD_one (h := ?_)
  refine XDa_dvk0 (dv_putEl (E' := eSlt eTM) (i := t.nx) (s := (eSlt eTM).sz) (f := eTM.sz) (xs := xs.set t.nx (v, xs[t.nx].2.1, xs[t.nx].2.2)) (vs := [.bool true]) (v, true, xs[t.nx].2.2) (by exact FDs) rfl rfl rfl (fun u hu => by simp at hu; subst hu; rfl) rfl rfl hrl2 (by decide) (by rw [List.getElem_set_self]; rfl)) (K := _) (hk := ?_)
  rintro _ _ rfl
  refine ⟨by exact KP, ?_⟩
  (refine XD_end (h := ?_); (repeat refine Z ?_))
  rw [List.set_set, hrg]
  have hc := thandleM b (t.add v) hTa t.nx (by rw [hae]; show t.nx < (xs.set _ _).length; rw [List.length_set]; exact hrl) (some ⟨qb, o, none⟩) c1 a2 (t.room (⟨0, 0, 0, 0, 0, 0, 0⟩ : MkT)).free.length c2
  rw [hag, hae] at hc
  dsimp only at hc
  rw [List.length_set] at hc
  (repeat refine Z ?_)
  refine XO_call hc (hk := ?_)
  rintro _ _ ⟨rfl, rfl⟩
  (repeat refine Z ?_)
  rw [hae]
  refine XE_fold (by exact FAs) (Tbl.fold (eV := eTM) (T := 230) (b := b) (t := ⟨t.kind, xs.set t.nx (v, true, t.genAt t.nx), (t.room (⟨0, 0, 0, 0, 0, 0, 0⟩ : MkT)).free⟩) (a1 := some ⟨qb, o, none⟩) (n1 := xs.length) (c1 := c1) (a2 := a2) (n2 := (t.room (⟨0, 0, 0, 0, 0, 0, 0⟩ : MkT)).free.length) (c2 := c2) (by show _ = (xs.set _ _).length; rw [List.length_set]) rfl) ?_
  refine XE_ret (.inl rfl) (tells_tmps rfl rfl) ⟨_, ⟨rfl, rfl⟩, by exact EN⟩
theorem tdropM (b : Nat) (t : Tb (MkT)) {N : Nat} (hT : TbOk N t) (h : Int) (h0 : 0 ≤ h) (h1 : h ≤ 18446744073709551615) : Spec Tryz.prog 145 [.pointer (some ⟨b, 0, none⟩), .int .u64 h] [TblM b t]
    (fun u L => u = .bool (t.spot h).isSome ∧ L = [TblM b (t.drop ⟨0, 0, 0, 0, 0, 0, 0⟩ h)]) := by
  have hlen := hT.len
  have hkd := hT.kd
  have hfl2 := hT.fl
  have hN := hT.hN
  refine Spec.intro (IsEnt.out) Tryz.func145 rfl Tryz.ntmps145 (by simp) (fun w0 F => ?_)
  simp only [envOf, List.zipIdx, List.map, List.cons_append, List.nil_append, Nat.zero_add, Nat.reduceAdd]
  refine X_open (A := TblM b t) (by exact FDs) Tbl.open ?_
  rintro ⟨⟨a1, c1⟩, a2, c2⟩ -
  dsimp only [List.cons_append, List.nil_append]
  (repeat refine Z ?_)
  refine XO_call (tliveM b t hT h h0 h1 a1 c1 a2 t.free.length c2) (hk := ?_)
  rintro _ _ ⟨rfl, rfl⟩
  cases hs : t.spot h with
  | none =>
    rw [show slotA a1 (eSlt eTM).sz none = none from by cases a1 <;> rfl, show t.drop ⟨0, 0, 0, 0, 0, 0, 0⟩ h = t from by unfold Tb.drop; rw [hs]]
    (repeat refine Z ?_)
    (refine X_cond rfl (fun _ => ?_) (fun h => by cases h))
    (repeat refine Z ?_)
    refine XE_fold (by exact FAs) (Tbl.fold (eV := eTM) (t := t) (a1 := a1) (n1 := t.slots.length) (c1 := c1) (a2 := a2) (n2 := t.free.length) (c2 := c2) rfl rfl) ?_
    refine XE_ret (.inl rfl) (tells_tmps rfl rfl) ⟨_, ⟨rfl, rfl⟩, by exact EN⟩
  | some i =>
    obtain ⟨hk0, hu, hkk, hgg, hsl, hi⟩ := Tb.spot_some hs
    have hgn := hT.gen i
    have hgi : t.slots[i].2.2 = t.genAt i := by unfold Tb.genAt; rw [List.getElem?_eq_getElem hi]
    have hget : t.slots[i]? = some t.slots[i] := List.getElem?_eq_getElem hi
    have hde : t.drop ⟨0, 0, 0, 0, 0, 0, 0⟩ h = ⟨t.kind, t.slots.set i (⟨0, 0, 0, 0, 0, 0, 0⟩, false, nextI (t.genAt i)), t.free ++ [(i : Int)]⟩ := by unfold Tb.drop; rw [hs]
    refine XO_slopen (E' := eSlt eTM) (a := a1) (c := c1) (xs := t.slots) (by exact FDs) (by omega) ?_
    rintro qb o rfl
    rw [show slotA (some ⟨qb, o, none⟩) (eSlt eTM).sz (some i) = some ⟨qb, o + i * (eSlt eTM).sz, none⟩ from rfl]
    (repeat refine Z ?_)
    (refine X_cond rfl (fun h => by cases h) (fun _ => ?_))
    (repeat refine Z ?_)
    refine XO_call (unpack_spec h h0 h1) (hk := ?_)
    rintro _ _ ⟨rfl, rfl⟩
    unfold unpV
    rw [if_neg hk0, show hSlot h = (i : Int) from by have h2 : 0 ≤ hSlot h := Int.emod_nonneg _ (by decide); omega]
    (repeat refine Z ?_)
    rw [hgi]
    refine XO_call (next_spec (t.genAt i) (by omega) (by omega)) (hk := ?_)
    rintro _ _ ⟨rfl, rfl⟩
    refine XO_pv (pv_buildG (eTM.cells ⟨0, 0, 0, 0, 0, 0, 0⟩ ++ [.bool false, .int .i64 (nextI (t.genAt i))])) (hk := ?_)
    (repeat refine Z ?_)
    refine XO_dv0 (dv_putElW (E' := eSlt eTM) (i := i) (xs := t.slots) (s := (eSlt eTM).sz) (⟨0, 0, 0, 0, 0, 0, 0⟩, false, nextI (t.genAt i))) (hk := ?_)
    rintro _ _ rfl
    (repeat refine Z ?_)
    refine XO_lit (E' := eI .i64) [(i : Int)] (hk := ?_)
    intro lb
    (repeat refine Z ?_)
    refine XO_dv (dv_append (E' := eI .i64) (xs := t.free) (ys := [(i : Int)]) (hv := Sl.view) (hb := by simp; omega)) (hk := ?_)
    rintro _ _ ⟨a', c', rfl, rfl⟩
    (repeat refine Z ?_)
    refine XO_dv0 dv_store (hk := ?_)
    rintro _ _ rfl
    (repeat refine Z ?_)
    rw [hde]
    refine XE_fold (by exact FAs) (Tbl.fold (eV := eTM) (T := 230) (b := b) (t := ⟨t.kind, t.slots.set i (⟨0, 0, 0, 0, 0, 0, 0⟩, false, nextI (t.genAt i)), t.free ++ [(i : Int)]⟩) (a1 := some ⟨qb, o, none⟩) (n1 := t.slots.length) (c1 := c1) (a2 := a') (n2 := (t.free ++ [(i : Int)]).length) (c2 := c') (by show _ = (t.slots.set _ _).length; rw [List.length_set]) rfl) ?_
    refine XE_ret (.inl rfl) (tells_tmps rfl rfl) ⟨_, ⟨rfl, rfl⟩, by exact EN⟩
theorem thandlesM (b : Nat) (t : Tb (MkT)) {N : Nat} (hT : TbOk N t) : Spec Tryz.prog 110 [.pointer (some ⟨b, 0, none⟩)] [TblM b t]
    (fun u L => ∃ a c, u = .slice a t.handles.length c ∧ L = [TblM b t, Sl (eI .u64) a c t.handles]) := by
  have hlen := hT.len
  have hN := hT.hN
  have hhl : ∀ k, (t.handlesTo k).length ≤ k := by
    intro k
    induction k with
    | zero => exact Nat.le_refl _
    | succ k ih => unfold Tb.handlesTo; split <;> simp <;> omega
  refine Spec.intro (IsEnt.out) Tryz.func110 rfl Tryz.ntmps110 (by simp) (fun w0 F => ?_)
  simp only [envOf, List.zipIdx, List.map, List.cons_append, List.nil_append, Nat.zero_add, Nat.reduceAdd]
  refine X_open (A := TblM b t) (by exact FDs) Tbl.open ?_
  rintro ⟨⟨a1, c1⟩, a2, c2⟩ -
  dsimp only [List.cons_append, List.nil_append]
  (repeat refine Z ?_)
  (refine X_cond rfl (fun h => by cases h) (fun _ => ?_))
  (repeat refine Z ?_)
  refine X_conv (fun _ h => SL_nilSl (eI .u64) h) ?_
  refine X_loop (ι := Nat × Option Addr × Nat) (fun y => y.1 ≤ t.slots.length) (fun y => [(0, .pointer (some ⟨b, 0, none⟩)), (3, .slice y.2.1 (t.handlesTo y.1).length y.2.2), (11, .slice a1 t.slots.length c1), (12, .int .i64 (t.slots.length : Int)), (13, .int .i64 (y.1 : Int))])
    (fun y => Sl (eI .u64) y.2.1 y.2.2 (t.handlesTo y.1) :: pt b (.cells (tbRow t.kind a1 t.slots.length c1 a2 t.free.length c2).toArray 230 (0, 0)) :: Sl (eSlt eTM) a1 c1 t.slots :: Sl (eI .i64) a2 c2 t.free :: F) (fun y => t.slots.length - y.1) (0, none, 0) (Nat.zero_le _) ?_ (by exact EN) ?_
  · exact SBs
  rintro ⟨k, a, c⟩ hk
  dsimp only at hk ⊢
  have hhk := hhl k
  (repeat refine Z ?_)
  refine X_cond rfl (fun hc => ?_) (fun hc => ?_) <;> simp only [decide_eq_true_eq, decide_eq_false_iff_not] at hc
  · have hkl : k < t.slots.length := by omega
    have hget : t.slots[k]? = some t.slots[k] := List.getElem?_eq_getElem hkl
    have huk : t.slots[k].2.1 = t.usedAt k := by unfold Tb.usedAt; rw [hget]
    refine X_slopen (E' := eSlt eTM) (a := a1) (c := c1) (xs := t.slots) (by exact FDs) (by omega) ?_
    rintro qb o rfl
    (repeat refine Z ?_)
    refine XO_dv (dv_alloc (row := (eSlt eTM).cells (⟨0, 0, 0, 0, 0, 0, 0⟩, false, 0))) (hk := ?_)
    rintro _ _ ⟨sb, rfl, rfl⟩
    (repeat refine Z ?_)
    refine XO_dv0 (dv_storeW (vs := (eSlt eTM).cells t.slots[k])) (hk := ?_)
    rintro _ _ rfl
    clear hget
    (repeat refine Z ?_)
    refine X_cond rfl (fun hu => ?_) (fun hu => ?_)
    · have hu2 : t.usedAt k = true := by rw [← huk]; exact hu
      have hte : t.handlesTo (k + 1) = t.handlesTo k ++ [t.hAt k] := by conv => lhs; unfold Tb.handlesTo; rw [if_pos hu2]
      (repeat refine Z ?_)
      refine XO_call (thandleM b t hT k hkl (some ⟨qb, o, none⟩) c1 a2 t.free.length c2) (hk := ?_)
      rintro _ _ ⟨rfl, rfl⟩
      (repeat refine Z ?_)
      refine XO_lit (E' := eI .u64) [t.hAt k] (hk := ?_)
      intro lb
      (repeat refine Z ?_)
      refine XO_dv (dv_append (E' := eI .u64) (xs := t.handlesTo k) (ys := [t.hAt k]) (hv := Sl.view) (hb := by simp; omega)) (hk := ?_)
      rintro _ _ ⟨a', c', rfl, rfl⟩
      (repeat refine Z ?_)
      rw [← hte]
      exact X_round (k + 1, a', c') (by show k + 1 ≤ _; omega) (by show t.slots.length - (k + 1) < t.slots.length - k; omega) (by exact SBs) (by exact EN)
    · have hu2 : t.usedAt k = false := by rw [← huk]; exact hu
      have hte : t.handlesTo (k + 1) = t.handlesTo k := by conv => lhs; unfold Tb.handlesTo; rw [if_neg (by rw [hu2]; simp), List.append_nil]
      (repeat refine Z ?_)
      rw [← hte]
      exact X_round (k + 1, a, c) (by show k + 1 ≤ _; omega) (by show t.slots.length - (k + 1) < t.slots.length - k; omega) (by exact SBs) (by exact EN)
  obtain rfl : k = t.slots.length := by omega
  (repeat refine Z ?_)
  refine XE_fold (by exact FAs) (Tbl.fold (eV := eTM) (t := t) (a1 := a1) (n1 := t.slots.length) (c1 := c1) (a2 := a2) (n2 := t.free.length) (c2 := c2) rfl rfl) ?_
  refine XE_ret (.inl rfl) (tells_tmps rfl rfl) ⟨_, ⟨a, c, rfl, rfl⟩, by exact EN⟩
end Go.Proofs.YtamecmklcnohjaaGreat.Sep
