import Derived.Test.YtlhjiciimeefeaaLedC
namespace Go.Proofs.Ytlhjiciimeefeaa.Sep
open Go.RowKit
set_option linter.unusedSimpArgs false
set_option linter.unusedVariables false
attribute [local irreducible] Core Shd
set_option maxHeartbeats 8000000
attribute [local irreducible] X XE XO XD XDi XDa PV RV DV pt base Spec Sl Mp Keeps Pg Kc

def shRow (a a' : Option Addr) (m m' c c' : Nat) (obj pad : Int) : List Value := [.slice a m c, .slice a' m' c', .int .u64 obj, .int .u64 pad]
def madeV (b : Nat) (a a' : Option Addr) (m m' c c' : Nat) (obj pad size at_ : Int) (A : Int → HP) : Option (Int × Int × Int) → Value → List HP → Prop
  | none => fun v L => v = .bool false ∧ L = [pt b (.cells [.slice a m c, .slice a' m' c', .int .u64 obj, .int .u64 pad].toArray 58 (0, 0)), A at_]
  | some q => fun v L => v = .bool true ∧ L = [pt b (.cells [.slice a m c, .slice a' m' c', .int .u64 (IntKind.u64.wrap (obj + size)), .int .u64 (IntKind.u64.wrap (pad + q.2.2))].toArray 58 (0, 0)), A q.2.1]
theorem made_spec (b cb o : Nat) (en : Int) (A : Int → HP) (hA : Cur Try.prog cb o en A) (a a' : Option Addr) (m m' c c' : Nat) (obj pad at_ size align : Int) (g0 : 0 ≤ at_) (g1 : at_ ≤ 18446744073709551615) (g2 : 0 ≤ en) (g3 : en ≤ 18446744073709551615) (h0 : 0 ≤ size) (h1 : size ≤ 18446744073709551615) (h2 : 0 ≤ align) (h3 : align ≤ 18446744073709551615) :
    Spec Try.prog 19 [.pointer (some ⟨b, 0, none⟩), .pointer (some ⟨cb, o, none⟩), .int .u64 size, .int .u64 align] [pt b (.cells [.slice a m c, .slice a' m' c', .int .u64 obj, .int .u64 pad].toArray 58 (0, 0)), A at_]
      (madeV b a a' m m' c c' obj pad size at_ A (fitI at_ en size align)) := by
  refine Spec.intro (IsEnt.out) Try.func19 rfl Try.ntmps19 (by simp) (fun w0 F => ?_)
  simp only [envOf, List.zipIdx, List.map, List.cons_append, List.nil_append, Nat.zero_add, Nat.reduceAdd]
  repeat (first | refine Zp pv_move ?_ | refine Zp pv_assign ?_ | refine Zp pv_nil_ptr ?_ | refine X_seq ?_ | refine X_region ?_ | refine XO_nil ?_ | refine XE_code ?_)
  refine XO_rv (hA.load (by (repeat (first | exact Find.here | apply Find.there))) rfl) (hk := ?_)
  repeat (first | refine Zp pv_move ?_)
  refine XO_call (fit_spec at_ en size align g0 g1 g2 g3 h0 h1 h2 h3) (hk := ?_)
  rintro _ _ ⟨rfl, rfl⟩
  cases hf : fitI at_ en size align with
  | none =>
    repeat (first | refine Zp pv_move ?_ | refine Zp pv_extract ?_)
    (refine XO_dv dv_alloc (hk := ?_); rintro _ _ ⟨cb, rfl, rfl⟩; (repeat (first | refine Zp pv_assign ?_)); refine XO_dv0 dv_storeW (hk := ?_); rintro _ _ rfl; (repeat (first | refine Zp pv_move ?_ | refine Zp pv_assign ?_ | refine X_seq ?_ | refine X_region ?_ | refine XO_nil ?_ | refine XE_code ?_)))
    refine X_cond rfl (fun h => by cases h) (fun _ => ?_)
    repeat (first | refine Zp pv_move ?_ | refine Zp pv_assign ?_ | refine X_seq ?_ | refine X_region ?_ | refine X_skip ?_ | refine X_ret ?_ | refine XO_nil ?_ | refine XE_code ?_)
    refine XE_ret (.inl rfl) (tells_tmps rfl rfl) ⟨_, ⟨rfl, rfl⟩, by ((try simp only [List.cons_append, List.nil_append]); repeat (first | exact ent_refl | refine ent_take (by repeat (first | exact Find.here | apply Find.there)) ?_ | refine ent_drop ?_))⟩
  | some q =>
    obtain ⟨st, e2, p⟩ := q
    repeat (first | refine Zp pv_move ?_ | refine Zp pv_extract ?_)
    (refine XO_dv dv_alloc (hk := ?_); rintro _ _ ⟨cb, rfl, rfl⟩; (repeat (first | refine Zp pv_assign ?_)); refine XO_dv0 dv_storeW (hk := ?_); rintro _ _ rfl; (repeat (first | refine Zp pv_move ?_ | refine Zp pv_assign ?_ | refine X_seq ?_ | refine X_region ?_ | refine XO_nil ?_ | refine XE_code ?_)))
    refine X_cond rfl (fun _ => ?_) (fun h => by cases h)
    repeat (first | refine Zp pv_move ?_ | refine Zp pv_nil_ptr ?_ | refine Zr rv_loadW ?_ | refine X_seq ?_ | refine X_region ?_)
    refine XO_dv0 (hA.store (a' := e2) (by (repeat (first | exact Find.here | apply Find.there))) rfl rfl) (hk := ?_)
    rintro _ _ rfl
    repeat (first | refine Zp pv_move ?_ | refine Zp pv_nil_ptr ?_ | refine Zp pv_arith ?_ | refine Zp pv_field ?_ | refine Zr rv_load ?_ | refine X_seq ?_ | refine X_region ?_ | refine XO_nil ?_ | refine XE_code ?_)
    refine XO_dv0 dv_store (hk := ?_)
    rintro _ _ rfl
    repeat (first | refine Zp pv_move ?_ | refine Zp pv_nil_ptr ?_ | refine Zp pv_arith ?_ | refine Zp pv_field ?_ | refine Zr rv_load ?_ | refine X_region ?_ | refine XO_nil ?_ | refine XE_code ?_)
    refine XO_dv0 dv_store (hk := ?_)
    rintro _ _ rfl
    repeat (first | refine Zp pv_move ?_ | refine Zp pv_assign ?_ | refine X_seq ?_ | refine X_region ?_ | refine X_ret ?_ | refine XO_nil ?_ | refine XE_code ?_)
    refine XE_ret (.inl rfl) (tells_tmps rfl rfl) ⟨_, ⟨rfl, rfl⟩, by ((try simp only [List.cons_append, List.nil_append]); repeat (first | exact ent_refl | refine ent_take (by repeat (first | exact Find.here | apply Find.there)) ?_ | refine ent_drop ?_))⟩
end Go.Proofs.Ytlhjiciimeefeaa.Sep
