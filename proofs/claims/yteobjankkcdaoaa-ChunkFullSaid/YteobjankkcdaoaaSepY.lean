import Derived.Test.YteobjankkcdaoaaSepH
namespace Go.Proofs.Yteobjankkcdaoaa.Sep
open Go.RowKit
set_option linter.unusedSimpArgs false
set_option linter.unusedVariables false
set_option linter.unusedSectionVars false
/-! copying into a part of a slice -/
section
variable {P : Program} {w0 : World} {n : Nat} {Q : Exit → Act → World → Prop} {k : List KI} {e : Env} {L R : List HP} {all : Array Oper} {rest : List Oper} {ty : TypeId} {pos : String} {aft : Array Edge} {d : Nat}
variable {α : Type} {E' : E α}
theorem flat_take : ∀ (xs : List α) (m : Nat), flat E' (xs.take m) = (flat E' xs).take (m * E'.sz)
  | [], m => by simp
  | x :: xs, 0 => by simp
  | x :: xs, m + 1 => by
    rw [List.take_succ_cons, flat_cons, flat_cons, flat_take xs m, show (m + 1) * E'.sz = (E'.cells x).length + m * E'.sz from by rw [E'.len, Nat.add_mul]; omega, List.take_length_add_append]
/-- copy(x[i:..], y) -/
theorem dv_copyAt {dT sT el s by' : Nat} {x y : Operand} {a2 : Option Addr} {b o c m m1 c1 c2 : Nat} (i : Nat) {xs ys : List α} {A : HP} {z : Value} [hu : TU P dT (.slice el)] [hux : TU P sT (.slice el)] [hi : TI P el z s by'] (hx : ev e x = some (.slice (some ⟨b, o + i * s, none⟩) m1 c1)) (hy : ev e y = some (.slice a2 m c2))
    (hv : View A E' a2 ys) (hn : ys.length = min m m1) (hm1 : i + m1 ≤ xs.length) (hf : FindAll L [Sl E' (some ⟨b, o, none⟩) c xs, A] R := by repeat (first | exact FindAll.nil | exact Find.here | apply Find.there | apply FindAll.cons)) (hs : E'.sz = s := by rfl) :
    DV P w0 (.call ⟨.builtin .copy, #[x, y], #[dT, sT]⟩) ty e L (fun v L' => v = .int .i64 (ys.length : Int) ∧ L' = Sl E' (some ⟨b, o, none⟩) c (xs.take i ++ (ys ++ xs.drop (i + ys.length))) :: A :: R) := dv_of_run fun tm w pos aft h2 h3 => by
  subst hs
  have h3' := h3.findAll hf
  obtain ⟨i', hinf, hzero, hsz, hbytes⟩ := hi.out
  obtain ⟨H1, hA1, hle1⟩ := (Sat.drop h3').atom
  have hsrc := (src_of_view (P := P) (tx := sT) (c := c2) hv hA1 hle1 hux.out).cells
  have hsrc' : (Builtin.firstCells E'.sz ys.length (.slice a2 m c2)).run P w = .ok (flat E' ys).toArray w := by
    cases a2 <;> exact hsrc
  obtain ⟨H0, hA0, hle0⟩ := h3'.atom
  obtain ⟨hc, hsp, row, T, hrow, pre, post, hr, hp, hq⟩ := hA0
  simp only at hp hrow
  have hrw := hle0 _ _ hrow
  have hle : ys.length ≤ m1 := by rw [hn]; exact Nat.min_le_right _ _
  have hrl : row.size = o + xs.length * E'.sz + post.length := by rw [← Array.length_toList, hr]; simp [flat_length, hp]; omega
  have hge : i * E'.sz + ys.length * E'.sz ≤ xs.length * E'.sz := by rw [← Nat.add_mul]; exact Nat.mul_le_mul_right _ (by omega)
  have hst := run_storeCells_at P b (o + i * E'.sz) T (flat E' ys) 0 row w hrw (by rw [flat_length, hrl]; omega) (flat_one E' ys)
  simp only [Nat.add_zero] at hst
  have hrun : (Builtin.copy_ #[dT, sT] ty #[.slice (some ⟨b, o + i * E'.sz, none⟩) m1 c1, .slice a2 m c2]).run P w = .ok (.int .i64 (ys.length : Int)) (w.setRow b (row.toList.take (o + i * E'.sz) ++ flat E' ys ++ row.toList.drop (o + i * E'.sz + (flat E' ys).length)).toArray) := by
    have hn' : min m1 m = ys.length := by rw [hn, Nat.min_comm]
    simp [Builtin.copy_, run_und hu.out, Builtin.lenOf, sizeOf, typeInfo, hinf, hsz, ← hn, hsrc', hst, goInt]
  refine ⟨_, _, _, by simp [execOp, resolve, invoke, builtin, ev_sound h2 hx, ev_sound h2 hy, hrun]; rfl, ⟨rfl, rfl⟩, ?_⟩
  refine Sat.turn1 (b := b) h3' (fun H hH => ?_) rfl rfl rfl (setRow_at hrw) (fun k hk => setRow_ne hk) (fun H hH => ?_)
  · obtain ⟨_, _, row, T, hb, _⟩ := hH
    rw [hb]; simp
  · have hlen : (xs.take i ++ (ys ++ xs.drop (i + ys.length))).length = xs.length := by simp; omega
    refine ⟨by rw [hlen]; exact hc, rfl, _, T, by simp; rfl, pre, post, ?_, hp, by rw [hlen]; exact hq⟩
    have e1 : row.toList.take (o + i * E'.sz) = pre ++ flat E' (xs.take i) := by
      rw [hr, List.append_assoc, ← hp, List.take_length_add_append, flat_take, List.take_append_of_le_length (by rw [flat_length]; omega)]
    have e2 : row.toList.drop (o + i * E'.sz + (flat E' ys).length) = flat E' (xs.drop (i + ys.length)) ++ post := by
      rw [hr, flat_length, flat_drop, List.append_assoc, Nat.add_assoc, ← List.drop_drop, List.drop_left' hp, List.drop_append_of_le_length (by rw [flat_length]; exact hge), Nat.add_mul]
    rw [e1, e2, flat_append, flat_append]
    simp [List.append_assoc]
end
end Go.Proofs.Yteobjankkcdaoaa.Sep
