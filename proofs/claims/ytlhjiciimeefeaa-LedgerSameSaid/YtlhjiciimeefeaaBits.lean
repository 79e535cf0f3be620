import Derived.Test.YtlhjiciimeefeaaSepT
import Derived.Test.YtlhjiciimeefeaaSepF
namespace Go.Proofs.Ytlhjiciimeefeaa.Sep
open Go.RowKit
set_option linter.unusedSimpArgs false
set_option linter.unusedVariables false
set_option maxHeartbeats 8000000
attribute [local irreducible] X XE XO XD XDi XDa PV RV DV pt base Spec Sl Mp Keeps

def powB (n : Int) : Bool := decide (n.toNat ≠ 0 ∧ n.toNat &&& (n.toNat - 1) = 0)
def addI (a b : Int) : Option Int := if a + b < 18446744073709551616 then some (a + b) else none
def upI (n a : Int) : Option Int := if powB a then addI n ((-n) % a) else none
theorem powB_iff {n : Int} (h : 0 ≤ n) : powB n = true ↔ ∃ k : Nat, n = ((2 ^ k : Nat) : Int) := by
  unfold powB
  rw [decide_eq_true_iff]
  constructor
  · rintro ⟨h1, h2⟩
    obtain ⟨k, hk⟩ := pow_two_of h1 h2
    exact ⟨k, by omega⟩
  · rintro ⟨k, rfl⟩
    have := Nat.two_pow_pos k
    rw [Int.toNat_natCast]
    exact ⟨by omega, pow_two_and k⟩
theorem mask_neg {n a : Int} (hn : 0 ≤ n) (hn' : n ≤ 18446744073709551615) (ha : powB a = true) (ha0 : 0 ≤ a) (ha' : a ≤ 18446744073709551615) :
    bitop .and .u64 (IntKind.u64.wrap (0 - n)) (a - 1) = (-n) % a := by
  obtain ⟨k, rfl⟩ := (powB_iff ha0).1 ha
  have hp := Nat.two_pow_pos k
  have hk : k < 64 := by
    rcases Nat.lt_or_ge k 64 with h | h
    · exact h
    · have := Nat.pow_le_pow_right (by decide : 0 < 2) h; omega
  rw [wrap_u64_eq]
  have e1 : (0 - n) % 18446744073709551616 = (((0 - n) % 18446744073709551616).toNat : Int) := by omega
  have e2 : ((2 ^ k : Nat) : Int) - 1 = ((2 ^ k - 1 : Nat) : Int) := by omega
  rw [e1, e2, bitop_and_u64 (by omega) (by omega), and_mask]
  rw [Int.natCast_emod, ← e1]
  have hd : ((2 ^ k : Nat) : Int) ∣ 18446744073709551616 := by
    refine ⟨((2 ^ (64 - k) : Nat) : Int), ?_⟩
    rw [← Int.natCast_mul, ← Nat.pow_add, show k + (64 - k) = 64 from by omega]; decide
  rw [Int.emod_emod_of_dvd _ hd]
  congr 1; omega
theorem pow_spec (n : Int) (h0 : 0 ≤ n) (h1 : n ≤ 18446744073709551615) : Spec Try.prog 48 [.int .u64 n] [] (fun v L => v = .bool (powB n) ∧ L = []) := by
  refine Spec.intro (IsEnt.out) Try.func48 rfl Try.ntmps48 (by simp) (fun w0 F => ?_)
  simp only [envOf, List.zipIdx, List.map, List.cons_append, List.nil_append, Nat.zero_add, Nat.reduceAdd]
  repeat (first | refine Zp pv_move ?_ | refine Zp pv_assign ?_ | refine Zp pv_cmp ?_ | refine X_seq ?_ | refine X_region ?_ | refine XO_nil ?_ | refine XE_code ?_)
  refine XO_either (hT := fun h => ?_) (hF := fun h => ?_)
  · have hn : n ≠ 0 := by simpa using h
    have e1 : (bitop .and .u64 n (n - 1) == 0) = powB n := by
      have e2 : bitop .and .u64 n (n - 1) = ((n.toNat &&& (n.toNat - 1) : Nat) : Int) := by
        have := bitop_and_u64 (a := n.toNat) (b := n.toNat - 1) (by omega) (by omega)
        rwa [show ((n.toNat : Nat) : Int) = n from by omega, show ((n.toNat - 1 : Nat) : Int) = n - 1 from by omega] at this
      rw [e2]
      unfold powB
      have : n.toNat ≠ 0 := by omega
      simp [this, Bool.beq_eq_decide_eq]
    repeat (first | refine ZT ?_ | refine Zp pv_move ?_ | refine Zp pv_assign ?_ | refine Zp pv_cmp ?_ | refine Zp pv_arith ?_ | refine Zp pv_pickT ?_ | refine Zp pv_bits ?_ | refine X_ret ?_ | refine XO_nil ?_ | refine XE_code ?_)
    rw [e1]
    refine XE_ret (.inl rfl) (tells_tmps rfl rfl) ⟨_, ⟨rfl, rfl⟩, by ((try simp only [List.cons_append, List.nil_append]); repeat (first | exact ent_refl | refine ent_take (by repeat (first | exact Find.here | apply Find.there)) ?_ | refine ent_drop ?_))⟩
  · have hn : n = 0 := by simpa using h
    subst hn
    repeat (first | refine ZF ?_ | refine Zp pv_assign ?_ | refine Zp pv_pickF ?_ | refine X_ret ?_ | refine XO_nil ?_ | refine XE_code ?_)
    refine XE_ret (.inl rfl) (tells_tmps rfl rfl) ⟨_, ⟨rfl, rfl⟩, by ((try simp only [List.cons_append, List.nil_append]); repeat (first | exact ent_refl | refine ent_take (by repeat (first | exact Find.here | apply Find.there)) ?_ | refine ent_drop ?_))⟩
theorem add_spec (a b : Int) (h0 : 0 ≤ a) (h1 : a ≤ 18446744073709551615) (h2 : 0 ≤ b) (h3 : b ≤ 18446744073709551615) : Spec Try.prog 34 [.int .u64 a, .int .u64 b] [] (fun v L => v = .tuple #[.int .u64 ((addI a b).getD 0), .bool (addI a b).isSome] ∧ L = []) := by
  refine Spec.intro (IsEnt.out) Try.func34 rfl Try.ntmps34 (by simp) (fun w0 F => ?_)
  simp only [envOf, List.zipIdx, List.map, List.cons_append, List.nil_append, Nat.zero_add, Nat.reduceAdd]
  repeat (first | refine Zp pv_move ?_ | refine Zp pv_assign ?_ | refine Zp pv_cmp ?_ | refine Zp pv_arith ?_ | refine X_seq ?_ | refine X_region ?_ | refine XO_nil ?_ | refine XE_code ?_)
  have hw := wrap_u64_eq (a + b)
  refine X_cond rfl (fun h => ?_) (fun h => ?_) <;> simp only [decide_eq_true_eq, decide_eq_false_iff_not] at h
  · have : a + b < 18446744073709551616 := by omega
    rw [show IntKind.u64.wrap (a + b) = a + b from by omega]
    repeat (first | refine Zp pv_move ?_ | refine Zp pv_assign ?_ | refine X_seq ?_ | refine X_region ?_ | refine X_ret ?_ | refine XO_nil ?_ | refine XE_code ?_ | refine XE_code_ret ?_)
    unfold addI
    rw [if_pos this]
    refine XE_ret (.inl rfl) (tells_tmps rfl rfl) ⟨_, ⟨rfl, rfl⟩, by ((try simp only [List.cons_append, List.nil_append]); repeat (first | exact ent_refl | refine ent_take (by repeat (first | exact Find.here | apply Find.there)) ?_ | refine ent_drop ?_))⟩
  · have : ¬ a + b < 18446744073709551616 := by omega
    repeat (first | refine Zp pv_assign ?_ | refine X_seq ?_ | refine X_region ?_ | refine X_skip ?_ | refine X_ret ?_ | refine XO_nil ?_ | refine XE_code ?_)
    unfold addI
    rw [if_neg this]
    refine XE_ret (.inl rfl) (tells_tmps rfl rfl) ⟨_, ⟨rfl, rfl⟩, by ((try simp only [List.cons_append, List.nil_append]); repeat (first | exact ent_refl | refine ent_take (by repeat (first | exact Find.here | apply Find.there)) ?_ | refine ent_drop ?_))⟩
theorem add_le {a b s : Int} (h : addI a b = some s) : s = a + b ∧ a + b < 18446744073709551616 := by
  unfold addI at h
  split at h
  · exact ⟨(Option.some.inj h).symm, by assumption⟩
  · cases h
theorem up_spec (n a : Int) (h0 : 0 ≤ n) (h1 : n ≤ 18446744073709551615) (h2 : 0 ≤ a) (h3 : a ≤ 18446744073709551615) : Spec Try.prog 33 [.int .u64 n, .int .u64 a] [] (fun v L => v = .tuple #[.int .u64 ((upI n a).getD 0), .bool (upI n a).isSome] ∧ L = []) := by
  refine Spec.intro (IsEnt.out) Try.func33 rfl Try.ntmps33 (by simp) (fun w0 F => ?_)
  simp only [envOf, List.zipIdx, List.map, List.cons_append, List.nil_append, Nat.zero_add, Nat.reduceAdd]
  repeat (first | refine Zp pv_move ?_ | refine Zp pv_assign ?_ | refine X_seq ?_ | refine X_region ?_ | refine XO_nil ?_ | refine XE_code ?_)
  refine XO_call (pow_spec a h2 h3) (hk := ?_)
  rintro _ _ ⟨rfl, rfl⟩
  repeat (first | refine Zp pv_not ?_ | refine XO_nil ?_ | refine XE_code ?_)
  refine X_cond rfl (fun h => ?_) (fun h => ?_) <;> simp only [Bool.not_eq_true', Bool.not_eq_false'] at h
  · repeat (first | refine Zp pv_assign ?_ | refine X_seq ?_ | refine X_region ?_ | refine X_ret ?_ | refine XO_nil ?_ | refine XE_code ?_ | refine XE_code_ret ?_)
    unfold upI
    rw [h, if_neg Bool.false_ne_true]
    refine XE_ret (.inl rfl) (tells_tmps rfl rfl) ⟨_, ⟨rfl, rfl⟩, by ((try simp only [List.cons_append, List.nil_append]); repeat (first | exact ent_refl | refine ent_take (by repeat (first | exact Find.here | apply Find.there)) ?_ | refine ent_drop ?_))⟩
  · have ha := (powB_iff h2).1 h
    have ha0 : 0 < a := by obtain ⟨k, rfl⟩ := ha; have := Nat.two_pow_pos k; omega
    have hm := mask_neg h0 h1 h h2 h3
    have hr0 := Int.emod_nonneg (-n) (show a ≠ 0 by omega)
    have hr1 := Int.emod_lt_of_pos (-n) ha0
    repeat (first | refine Zp pv_move ?_ | refine Zp pv_assign ?_ | refine Zp pv_arith ?_ | refine Zp pv_bits ?_ | refine Zp pv_neg ?_ | refine X_seq ?_ | refine X_region ?_ | refine X_skip ?_ | refine XO_nil ?_ | refine XE_code ?_)
    rw [hm]
    refine XO_call (add_spec n ((-n) % a) h0 h1 hr0 (by omega)) (hk := ?_)
    rintro _ _ ⟨rfl, rfl⟩
    have hu : upI n a = addI n ((-n) % a) := by unfold upI; rw [if_pos h]
    rw [← hu]
    repeat (first | refine Zp pv_move ?_ | refine Zp pv_assign ?_ | refine Zp pv_extract ?_ | refine X_seq ?_ | refine X_region ?_ | refine X_ret ?_ | refine XO_nil ?_ | refine XE_code ?_)
    refine XE_ret (.inl rfl) (tells_tmps rfl rfl) ⟨_, ⟨rfl, rfl⟩, by ((try simp only [List.cons_append, List.nil_append]); repeat (first | exact ent_refl | refine ent_take (by repeat (first | exact Find.here | apply Find.there)) ?_ | refine ent_drop ?_))⟩
theorem pages_spec (n : Int) (h0 : 0 ≤ n) (h1 : n ≤ 18446744073709551615) : Spec Try.prog 35 [.int .u64 n] [] (fun v L => v = .int .u64 ((n + 4095) / 4096) ∧ L = []) := by
  refine Spec.intro (IsEnt.out) Try.func35 rfl Try.ntmps35 (by simp) (fun w0 F => ?_)
  simp only [envOf, List.zipIdx, List.map, List.cons_append, List.nil_append, Nat.zero_add, Nat.reduceAdd]
  repeat (first | refine Zp pv_move ?_ | refine Zp pv_assign ?_ | refine Zp pv_cmp ?_ | refine Zp pv_bits ?_ | refine Zp pv_shr12 ?_ | refine X_seq ?_ | refine X_region ?_ | refine XO_nil ?_ | refine XE_code ?_)
  have hb : bitop .and .u64 n 4095 = n % 4096 := by
    have := bitop_and_u64 (a := n.toNat) (b := 4095) (by omega) (by omega)
    rw [show (4095 : Nat) = 2 ^ 12 - 1 from rfl, and_mask] at this
    rw [show ((n.toNat : Nat) : Int) = n from by omega] at this
    rw [show (4095 : Int) = ((2 ^ 12 - 1 : Nat) : Int) from rfl, this]
    omega
  rw [hb]
  refine X_cond rfl (fun h => ?_) (fun h => ?_)
  · have : n % 4096 ≠ 0 := by simpa using h
    repeat (first | refine Zp pv_move ?_ | refine Zp pv_assign ?_ | refine Zp pv_arith ?_ | refine X_seq ?_ | refine X_region ?_ | refine X_ret ?_ | refine XO_nil ?_ | refine XE_code ?_)
    rw [show n / 4096 + 1 = (n + 4095) / 4096 from by omega]
    refine XE_ret (.inl rfl) (tells_tmps rfl rfl) ⟨_, ⟨rfl, rfl⟩, by ((try simp only [List.cons_append, List.nil_append]); repeat (first | exact ent_refl | refine ent_take (by repeat (first | exact Find.here | apply Find.there)) ?_ | refine ent_drop ?_))⟩
  · have : n % 4096 = 0 := by simpa using h
    repeat (first | refine Zp pv_move ?_ | refine Zp pv_assign ?_ | refine X_seq ?_ | refine X_region ?_ | refine X_skip ?_ | refine X_ret ?_ | refine XO_nil ?_ | refine XE_code ?_)
    rw [show n / 4096 = (n + 4095) / 4096 from by omega]
    refine XE_ret (.inl rfl) (tells_tmps rfl rfl) ⟨_, ⟨rfl, rfl⟩, by ((try simp only [List.cons_append, List.nil_append]); repeat (first | exact ent_refl | refine ent_take (by repeat (first | exact Find.here | apply Find.there)) ?_ | refine ent_drop ?_))⟩
end Go.Proofs.Ytlhjiciimeefeaa.Sep
