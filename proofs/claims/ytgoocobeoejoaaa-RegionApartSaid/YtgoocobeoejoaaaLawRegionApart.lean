import Derived.Test.YtgoocobeoejoaaaRows
import Derived.Test.YtgoocobeoejoaaaBn2
import Derived.Test.YtgoocobeoejoaaaLaw15P
/- The law LawRegionApart: it answers true whatever it is given, and what was there stays. No conditions. -/
namespace Go.Proofs.Ytgoocobeoejoaaa.regionApart
open Go.ChangeShapes Go.WideShapes Go.ChangeAt Go.RowKit Go.Deep
set_option linter.unusedVariables false
theorem own : ownKnob Try.prog.godebug = none := by kernel_rfl
theorem laid : laidOutB Try.prog = true := by kernel_rfl
set_option maxRecDepth 100000 in
theorem lifted (os : Os) (started : os.Started) (H : Type) (enc : TypeId × Value → H) :
    ReturnsInHanded {} Try.checked os 3 .any (Rows.regionApartSpec.pre6 enc Try.prog Try.f3 Rows.regionApartRow.domain false) (Rows.regionApartSpec.post enc Try.prog Try.f3 false true false false) := by
  refine returnsInHanded_of_change_sized (C := Try.checked) own started (by kernel_rfl) Try.func3
    (ChangeSpec.witness6 (enc := enc) (C := Try.checked) false ⟨#[], #[.slice none 0 0], []⟩ 8 (by kernel_rfl) (by kernel_rfl) (by kernel_rfl) (by kernel_rfl)) ?_
  intro W base args ds gs before hval0 hW hcnd hsz0 _
  have hval : ∀ (j : Nat) t v, Try.f3.params[j]? = some t → args[j]? = some v → Value.okWide Try.prog W .any base t v := hval0
  have hW' := hW
  obtain ⟨p, q, hA0, hV, rfl, hfz, hnd⟩ := hW
  have hA : DataW.TrodAll enc Try.prog W 0 (fun _ => true) true Try.f3.params.toList args.toList ds p := hA0
  rw [Try.params3] at hA hval
  obtain ⟨v0, vs0, d0, ds0, p0, q0, hargs, rfl, rfl, h0, r0⟩ := trodAll_cons hA
  obtain ⟨rfl, rfl, rfl⟩ := trodAll_nil r0
  obtain rfl : args = #[v0] := by cases args; simp_all
  obtain ⟨rfl, rfl⟩ := trodVars_none hV
  have hlt : ∀ x ∈ (p0 ++ []), x.block < W.heap.size := fun x hx => hW'.lt x (by simpa using hx)
  have hkeep : ∀ W1 : World, Below W.heap.size W W1 → DataW.TrodAll enc Try.prog W1 0 (fun b => decide (b < W.heap.size)) true [22] [v0] [d0] (p0 ++ []) := fun W1 hb =>
    (trodAll_cons_mk (Below.trod laid (by kernel_rfl) (of_decide_eq_true (by kernel_rfl)) h0 hb (fun x hx => hlt x (by simp [hx]))) trodAll_mk0)
  obtain ⟨A0, c0, l0, rfl, V0, w0, m0⟩ := Sep.open_flatV Sep.eAct Sep.OkA Try.underlying22 Sep.flat_act15 rfl Sep.parts_act (hval 0 22 v0 rfl rfl) h0
  refine (Sep.apart15 A0 c0 l0 w0 m0 W V0).mono fun e W' ⟨he, bel⟩ => ?_
  subst he
  exact ⟨_, rfl, _, _, _, [], _, [], hW', trodAll_mk1 (shut_bool Try.underlying4 _), hkeep W' bel, rfl, bel.frame _, fun h => by cases h⟩
theorem over : Rows.regionApartRow.holds Try.pinned (OpenSpec.ofChange Rows.regionApartSpec) :=
  OpenClaim.holds_of_wide 3 Try.f3 rfl rfl rfl rfl rfl rfl rfl ⟨rfl, rfl, rfl, rfl, rfl⟩ rfl rfl rfl rfl rfl (by kernel_rfl) Try.func3 (by kernel_rfl)
    (of_decide_eq_true (by kernel_rfl)) (by unfold Func.isWrapper; first | (rw [if_pos (by decide +kernel)]; kernel_rfl) | (rw [if_neg (by decide +kernel)]; exact ⟨rfl, rfl⟩))
    (fun os started H enc _ => lifted os started H enc)
end Go.Proofs.Ytgoocobeoejoaaa.regionApart
namespace Go.Proofs.Ytgoocobeoejoaaa
theorem regionApart_holds : Rows.RegionApartSaid := regionApart.over
#print axioms regionApart_holds
end Go.Proofs.Ytgoocobeoejoaaa
