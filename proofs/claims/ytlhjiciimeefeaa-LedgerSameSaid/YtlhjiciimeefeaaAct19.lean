import Derived.Test.YtlhjiciimeefeaaAwake
import Derived.Test.YtlhjiciimeefeaaRowF
namespace Go.Proofs.Ytlhjiciimeefeaa.Sep
open Go.RowKit
set_option linter.unusedSimpArgs false
set_option linter.unusedVariables false
/-! what the laws of chapter 19 share -/
section
variable {P : Program} {w0 : World} {n : Nat} {Q : Exit → Act → World → Prop} {k : List KI} {e : Env} {L R : List HP} {all : Array Oper} {rest : List Oper} {ty : TypeId}
theorem rv_velfG {α : Type} {E' : E α} {T : TypeId} {x : Operand} {A : HP} {b o s : Nat} {xs : List α} {v : Value} {dd : TypeDesc} (i f : Nat) (x' : α) [hu : TU P T dd] (hV : View A E' (some ⟨b, o, none⟩) xs) (hf : Find L A R := by repeat (first | exact Find.here | apply Find.there)) (hx : ev e x = some (.pointer (some ⟨b, o + i * s + f, none⟩)) := by rfl)
    (hg : aggD dd = false := by rfl) (hs : E'.sz = s := by rfl) (hv : (E'.cells x')[f]? = some v := by rfl) (hget : xs[i]? = some x') : RV P w0 (.load T x) ty e L v := by
  obtain ⟨hl, rfl⟩ := List.getElem?_eq_some_iff.1 hget
  exact rv_velf hV hf hx hg hs hl hv
end
def actKs : List IntKind := [.u8, .u64, .u64, .u8, .i64, .i64, .u64, .u64, .u64]
theorem flat_mark : FlatT Try.prog 29 [.i64, .i64, .u64, .u64, .u64] := flat_struct Try.underlying29 [[.i64], [.i64], [.u64], [.u64], [.u64]] ⟨rfl, flat_int Try.underlying3 (by kernel_rfl), rfl, flat_int Try.underlying3 (by kernel_rfl), rfl, flat_int Try.underlying27 (by kernel_rfl), rfl, flat_int Try.underlying27 (by kernel_rfl), rfl, flat_int Try.underlying27 (by kernel_rfl), trivial⟩ (by kernel_rfl)
theorem flat_act : FlatT Try.prog 31 (.u8 :: actKs) := flat_struct Try.underlying31 [[.u8], [.u8], [.u64], [.u64], [.u8], [.i64, .i64, .u64, .u64, .u64]] ⟨rfl, flat_int Try.underlying5 (by kernel_rfl), rfl, flat_int Try.underlying5 (by kernel_rfl), rfl, flat_int Try.underlying27 (by kernel_rfl), rfl, flat_int Try.underlying27 (by kernel_rfl), rfl, flat_int Try.underlying5 (by kernel_rfl), rfl, flat_mark, trivial⟩ (by kernel_rfl)
theorem wf_act {x : List Int} (h : WfR (.u8 :: actKs) x) : ∃ d i sz al kk m1 m2 m3 m4 m5, x = [d, i, sz, al, kk, m1, m2, m3, m4, m5] ∧ (0 ≤ d ∧ d ≤ 255) ∧ (0 ≤ i ∧ i ≤ 255) ∧ (0 ≤ sz ∧ sz ≤ 18446744073709551615) ∧ (0 ≤ al ∧ al ≤ 18446744073709551615) ∧ (0 ≤ kk ∧ kk ≤ 255) := by
  unfold actKs at h
  match x, h with
  | [d, i, sz, al, kk, m1, m2, m3, m4, m5], h => exact ⟨d, i, sz, al, kk, m1, m2, m3, m4, m5, rfl, wf_u8 h.1, wf_u8 h.2.1, wf_u64 h.2.2.1, wf_u64 h.2.2.2.1, wf_u8 h.2.2.2.2.1⟩
theorem lk_some_len {α : Type} {l : List (Int × α)} {k : Int} {v : α} (h : lk l k = some v) : 1 ≤ l.length := by
  obtain ⟨l1, l2, rfl, _⟩ := lk_split h
  simp; omega
theorem lk_mem_key {α : Type} {l : List (Int × α)} {k : Int} (h : lk l k = none) : ∀ q ∈ l, q.1 ≠ k := fun q hq he => (lk_none.1 h) (List.mem_map.2 ⟨q, hq, he⟩)
theorem mem_del {α : Type} {l : List (Int × α)} {k : Int} {q : Int × α} (h : q ∈ del l k) : q.1 ∈ l.map (·.1) := (del_sub l k).mem (List.mem_map.2 ⟨q, h, rfl⟩)
theorem mem_ins {α : Type} {l : List (Int × α)} {k : Int} {v : α} {q : Int × α} (hk : k ∈ l.map (·.1)) (h : q ∈ ins l k v) : q.1 ∈ l.map (·.1) := by
  have : q.1 ∈ (ins l k v).map (·.1) := List.mem_map.2 ⟨q, h, rfl⟩
  rw [keys_ins, if_pos hk] at this
  exact this
theorem lk_key {α : Type} {l : List (Int × α)} {k : Int} {v : α} (h : lk l k = some v) : k ∈ l.map (·.1) := by
  obtain ⟨l1, l2, rfl, _⟩ := lk_split h
  simp
theorem part_le_s {B : Nat} {C : Co} {rg : List (Int × Sh)} {id : Int} {s : Sh} (h : LInv B C rg) (hk : lk rg id = some s) : SInv C.P B s ∧ ∀ x, cC x C + cS x s ≤ 1 := by
  obtain ⟨l1, l2, rfl, hn⟩ := lk_split hk
  refine ⟨h.sh (id, s) (by simp), fun x => ?_⟩
  have := h.part x
  rw [sumF_append] at this
  simp only [sumF] at this
  have h1 := sumF_nn (cS_nn x) l1
  have h2 := sumF_nn (cS_nn x) l2
  have h3 := part_le (x := x) (P := C.P)
  omega
theorem alloc_P {B : Nat} {C : Co} {rg : List (Int × Sh)} {id size align : Int} {s : Sh} (h : LInv B C rg) (hk : lk rg id = some s) (h0 : 0 ≤ size) (h2 : 0 ≤ align) : (allocS C s size align).1.1.P = C.P := by
  obtain ⟨h3, h4⟩ := part_le_s h hk
  exact (alloc_inv h.ci h3 h4 h0 h2).2.1
theorem ends_P {B : Nat} {C : Co} {rg : List (Int × Sh)} {id : Int} {s : Sh} (h : LInv B C rg) (hk : lk rg id = some s) : (putsC C s 0 0).P = C.P := by
  obtain ⟨h3, h4⟩ := part_le_s h hk
  exact (ends_inv h.ci h3 h4).2.1
end Go.Proofs.Ytlhjiciimeefeaa.Sep
