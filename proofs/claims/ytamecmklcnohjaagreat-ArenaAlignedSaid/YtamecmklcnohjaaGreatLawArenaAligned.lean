import Derived.Test.YtamecmklcnohjaaGreatRows
import Derived.Test.YtamecmklcnohjaaGreatBn2
import Derived.Test.YtamecmklcnohjaaGreatLaw18L
/- The law LawArenaAligned: it answers true whatever it is given, and what was there stays. No conditions. -/
namespace Go.Proofs.YtamecmklcnohjaaGreat.arenaAligned
open Go.ChangeShapes Go.WideShapes Go.ChangeAt Go.RowKit Go.Deep
set_option linter.unusedVariables false
theorem own : ownKnob Tryz.prog.godebug = none := by kernel_rfl
theorem laid : laidOutB Tryz.prog = true := by kernel_rfl
set_option maxRecDepth 100000 in
theorem lifted (os : Os) (started : os.Started) (H : Type) (enc : TypeId × Value → H) :
    ReturnsInHanded {} Tryz.checked os 12 .any (Rows.arenaAlignedSpec.pre6 enc Tryz.prog Tryz.f12 Rows.arenaAlignedRow.domain false) (Rows.arenaAlignedSpec.post enc Tryz.prog Tryz.f12 false true false false) := by
  refine returnsInHanded_of_change_sized (C := Tryz.checked) own started (by kernel_rfl) Tryz.func12
    (ChangeSpec.witness6 (enc := enc) (C := Tryz.checked) false ⟨#[], #[.slice none 0 0, .slice none 0 0], []⟩ 8 (by kernel_rfl) (by kernel_rfl) (by kernel_rfl) (by kernel_rfl)) ?_
  intro W base args ds gs before hval0 hW hcnd hsz0 _
  have hval : ∀ (j : Nat) t v, Tryz.f12.params[j]? = some t → args[j]? = some v → Value.okWide Tryz.prog W .any base t v := hval0
  have hW' := hW
  obtain ⟨p, q, hA0, hV, rfl, hfz, hnd⟩ := hW
  have hA : DataW.TrodAll enc Tryz.prog W 0 (fun _ => true) true Tryz.f12.params.toList args.toList ds p := hA0
  rw [Tryz.params12] at hA hval
  obtain ⟨v0, vs0, d0, ds0, p0, q0, hargs, rfl, rfl, h0, r0⟩ := trodAll_cons hA
  obtain ⟨v1, vs1, d1, ds1, p1, q1, rfl, rfl, rfl, h1, r1⟩ := trodAll_cons r0
  obtain ⟨rfl, rfl, rfl⟩ := trodAll_nil r1
  obtain rfl : args = #[v0, v1] := by cases args; simp_all
  obtain ⟨rfl, rfl⟩ := trodVars_none hV
  have hlt : ∀ x ∈ (p0 ++ (p1 ++ [])), x.block < W.heap.size := fun x hx => hW'.lt x (by simpa using hx)
  have hkeep : ∀ W1 : World, Below W.heap.size W W1 → DataW.TrodAll enc Tryz.prog W1 0 (fun b => decide (b < W.heap.size)) true [93, 56] [v0, v1] [d0, d1] (p0 ++ (p1 ++ [])) := fun W1 hb =>
    (trodAll_cons_mk (Below.trod laid (by kernel_rfl) (of_decide_eq_true (by kernel_rfl)) h0 hb (fun x hx => hlt x (by simp [hx]))) (trodAll_cons_mk (Below.trod laid (by kernel_rfl) (of_decide_eq_true (by kernel_rfl)) h1 hb (fun x hx => hlt x (by simp [hx]))) trodAll_mk0))
  obtain ⟨A0, c0, l0, rfl, V0, w0, m0⟩ := Sep.open_nums Tryz.underlying93 Tryz.underlying94 (by kernel_rfl) (hval 0 93 v0 rfl rfl) h0
  obtain ⟨A1, c1, l1, rfl, V1, w1, m1⟩ := Sep.open_nums Tryz.underlying56 Tryz.underlying5 (by kernel_rfl) (hval 1 56 v1 rfl rfl) h1
  refine (Sep.aligned18 A0 A1 c0 c1 l0 l1 w0 w1 m0 m1 W V0 V1).mono fun e W' ⟨he, bel⟩ => ?_
  subst he
  exact ⟨_, rfl, _, _, _, [], _, [], hW', trodAll_mk1 (shut_bool Tryz.underlying4 _), hkeep W' bel, rfl, bel.frame _, fun h => by cases h⟩
theorem over : Rows.arenaAlignedRow.holds Tryz.pinned (OpenSpec.ofChange Rows.arenaAlignedSpec) :=
  OpenClaim.holds_of_wide 12 Tryz.f12 rfl rfl rfl rfl rfl rfl rfl ⟨rfl, rfl, rfl, rfl, rfl⟩ rfl rfl rfl rfl rfl (by kernel_rfl) Tryz.func12 (by kernel_rfl)
    (of_decide_eq_true (by kernel_rfl)) (by unfold Func.isWrapper; first | (rw [if_pos (by decide +kernel)]; kernel_rfl) | (rw [if_neg (by decide +kernel)]; exact ⟨rfl, rfl⟩))
    (fun os started H enc _ => lifted os started H enc)
end Go.Proofs.YtamecmklcnohjaaGreat.arenaAligned
namespace Go.Proofs.YtamecmklcnohjaaGreat
theorem arenaAligned_holds : Rows.ArenaAlignedSaid := arenaAligned.over
#print axioms arenaAligned_holds
end Go.Proofs.YtamecmklcnohjaaGreat
