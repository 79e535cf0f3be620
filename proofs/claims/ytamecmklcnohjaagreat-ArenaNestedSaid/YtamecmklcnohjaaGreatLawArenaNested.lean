import Derived.Test.YtamecmklcnohjaaGreatRows
import Derived.Test.YtamecmklcnohjaaGreatBn2
import Derived.Test.YtamecmklcnohjaaGreatLaw18N
/- The law LawArenaNested: it answers true whatever it is given, and what was there stays. No conditions. -/
namespace Go.Proofs.YtamecmklcnohjaaGreat.arenaNested
open Go.ChangeShapes Go.WideShapes Go.ChangeAt Go.RowKit Go.Deep
set_option linter.unusedVariables false
theorem own : ownKnob Tryz.prog.godebug = none := by kernel_rfl
theorem laid : laidOutB Tryz.prog = true := by kernel_rfl
set_option maxRecDepth 100000 in
theorem lifted (os : Os) (started : os.Started) (H : Type) (enc : TypeId × Value → H) :
    ReturnsInHanded {} Tryz.checked os 4 .any (Rows.arenaNestedSpec.pre6 enc Tryz.prog Tryz.f4 Rows.arenaNestedRow.domain false) (Rows.arenaNestedSpec.post enc Tryz.prog Tryz.f4 false true false false) := by
  refine returnsInHanded_of_change_sized (C := Tryz.checked) own started (by kernel_rfl) Tryz.func4
    (ChangeSpec.witness6 (enc := enc) (C := Tryz.checked) false ⟨#[], #[.slice none 0 0, .int .u8 0], []⟩ 8 (by kernel_rfl) (by kernel_rfl) (by kernel_rfl) (by kernel_rfl)) ?_
  intro W base args ds gs before hval0 hW hcnd hsz0 _
  have hval : ∀ (j : Nat) t v, Tryz.f4.params[j]? = some t → args[j]? = some v → Value.okWide Tryz.prog W .any base t v := hval0
  have hW' := hW
  obtain ⟨p, q, hA0, hV, rfl, hfz, hnd⟩ := hW
  have hA : DataW.TrodAll enc Tryz.prog W 0 (fun _ => true) true Tryz.f4.params.toList args.toList ds p := hA0
  rw [Tryz.params4] at hA hval
  obtain ⟨v0, vs0, d0, ds0, p0, q0, hargs, rfl, rfl, h0, r0⟩ := trodAll_cons hA
  obtain ⟨v1, vs1, d1, ds1, p1, q1, rfl, rfl, rfl, h1, r1⟩ := trodAll_cons r0
  obtain ⟨rfl, rfl, rfl⟩ := trodAll_nil r1
  obtain rfl : args = #[v0, v1] := by cases args; simp_all
  obtain ⟨rfl, rfl⟩ := trodVars_none hV
  have hlt : ∀ x ∈ (p0 ++ (p1 ++ [])), x.block < W.heap.size := fun x hx => hW'.lt x (by simpa using hx)
  have hkeep : ∀ W1 : World, Below W.heap.size W W1 → DataW.TrodAll enc Tryz.prog W1 0 (fun b => decide (b < W.heap.size)) true [56, 5] [v0, v1] [d0, d1] (p0 ++ (p1 ++ [])) := fun W1 hb =>
    (trodAll_cons_mk (Below.trod laid (by kernel_rfl) (of_decide_eq_true (by kernel_rfl)) h0 hb (fun x hx => hlt x (by simp [hx]))) (trodAll_cons_mk (Below.trod laid (by kernel_rfl) (of_decide_eq_true (by kernel_rfl)) h1 hb (fun x hx => hlt x (by simp [hx]))) trodAll_mk0))
  obtain ⟨A0, c0, l0, rfl, V0, w0, m0⟩ := Sep.open_nums Tryz.underlying56 Tryz.underlying5 (by kernel_rfl) (hval 0 56 v0 rfl rfl) h0
  obtain ⟨a1, rfl, -, -, w1⟩ := open_int Tryz.underlying5 (hval 1 5 v1 rfl rfl) h1
  refine (Sep.nested18 A0 c0 l0 a1 w0 m0 (Sep.wf_u8 w1) W V0).mono fun e W' ⟨he, bel⟩ => ?_
  subst he
  exact ⟨_, rfl, _, _, _, [], _, [], hW', trodAll_mk1 (shut_bool Tryz.underlying4 _), hkeep W' bel, rfl, bel.frame _, fun h => by cases h⟩
theorem over : Rows.arenaNestedRow.holds Tryz.pinned (OpenSpec.ofChange Rows.arenaNestedSpec) :=
  OpenClaim.holds_of_wide 4 Tryz.f4 rfl rfl rfl rfl rfl rfl rfl ⟨rfl, rfl, rfl, rfl, rfl⟩ rfl rfl rfl rfl rfl (by kernel_rfl) Tryz.func4 (by kernel_rfl)
    (of_decide_eq_true (by kernel_rfl)) (by unfold Func.isWrapper; first | (rw [if_pos (by decide +kernel)]; kernel_rfl) | (rw [if_neg (by decide +kernel)]; exact ⟨rfl, rfl⟩))
    (fun os started H enc _ => lifted os started H enc)
end Go.Proofs.YtamecmklcnohjaaGreat.arenaNested
namespace Go.Proofs.YtamecmklcnohjaaGreat
theorem arenaNested_holds : Rows.ArenaNestedSaid := arenaNested.over
#print axioms arenaNested_holds
end Go.Proofs.YtamecmklcnohjaaGreat
