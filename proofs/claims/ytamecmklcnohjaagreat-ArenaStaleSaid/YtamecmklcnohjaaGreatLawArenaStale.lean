import Derived.Test.YtamecmklcnohjaaGreatRows
import Derived.Test.YtamecmklcnohjaaGreatBn2
import Derived.Test.YtamecmklcnohjaaGreatLaw18S
namespace Go.Proofs.YtamecmklcnohjaaGreat.arenaStale
open Go.ChangeShapes Go.WideShapes Go.ChangeAt Go.RowKit Go.Deep
set_option linter.unusedVariables false
theorem own : ownKnob Tryz.prog.godebug = none := by kernel_rfl
theorem laid : laidOutB Tryz.prog = true := by kernel_rfl
set_option maxRecDepth 100000 in
theorem lifted (os : Os) (started : os.Started) (H : Type) (enc : TypeId × Value → H) :
  ReturnsInHanded {} Tryz.checked os 7 .any (Rows.arenaStaleSpec.pre6 enc Tryz.prog Tryz.f7 Rows.arenaStaleRow.domain false) (Rows.arenaStaleSpec.post enc Tryz.prog Tryz.f7 false true false false) := by
 refine returnsInHanded_of_change_sized (C := Tryz.checked) own started (by kernel_rfl) Tryz.func7
  (ChangeSpec.witness6 (enc := enc) (C := Tryz.checked) false ⟨#[], #[.slice none 0 0], []⟩ 8 (by kernel_rfl) (by kernel_rfl) (by kernel_rfl) (by kernel_rfl)) ?_
 intro W base args ds gs before hval0 hW hcnd hsz0 _
 have hval : ∀ (j : Nat) t v, Tryz.f7.params[j]? = some t → args[j]? = some v → Value.okWide Tryz.prog W .any base t v := hval0
 have hW' := hW
 obtain ⟨p, q, hA0, hV, rfl, hfz, hnd⟩ := hW
 have hA : DataW.TrodAll enc Tryz.prog W 0 (fun _ => true) true Tryz.f7.params.toList args.toList ds p := hA0
 rw [Tryz.params7] at hA hval
 obtain ⟨v0, vs0, d0, ds0, p0, q0, hargs, rfl, rfl, h0, r0⟩ := trodAll_cons hA
 obtain ⟨rfl, rfl, rfl⟩ := trodAll_nil r0
 obtain rfl : args = #[v0] := by cases args; simp_all
 obtain ⟨rfl, rfl⟩ := trodVars_none hV
 have hlt : ∀ x ∈ (p0 ++ []), x.block < W.heap.size := fun x hx => hW'.lt x (by simpa using hx)
 have hkeep : ∀ W1 : World, Below W.heap.size W W1 → DataW.TrodAll enc Tryz.prog W1 0 (fun b => decide (b < W.heap.size)) true [69] [v0] [d0] (p0 ++ []) := fun W1 hb =>
  (trodAll_cons_mk (Below.trod laid (by kernel_rfl) (of_decide_eq_true (by kernel_rfl)) h0 hb (fun x hx => hlt x (by simp [hx]))) trodAll_mk0)
 obtain ⟨A0, c0, l0, rfl, V0, w0, m0⟩ := Sep.open_flatW Sep.eA18 (Sep.OkA18 W) Tryz.underlying69 (Sep.flat_a18 W) rfl (Sep.parts_a18 W) (hval 0 69 v0 rfl rfl) h0
 refine (Sep.stale18 A0 c0 l0 W w0 m0 V0).mono fun e W' ⟨he, bel⟩ => ?_
 subst he
 exact ⟨_, rfl, _, _, _, [], _, [], hW', trodAll_mk1 (shut_bool Tryz.underlying4 _), hkeep W' bel, rfl, bel.frame _, fun h => by cases h⟩
theorem over : Rows.arenaStaleRow.holds Tryz.pinned (OpenSpec.ofChange Rows.arenaStaleSpec) :=
 OpenClaim.holds_of_wide 7 Tryz.f7 rfl rfl rfl rfl rfl rfl rfl ⟨rfl, rfl, rfl, rfl, rfl⟩ rfl rfl rfl rfl rfl (by kernel_rfl) Tryz.func7 (by kernel_rfl)
  (of_decide_eq_true (by kernel_rfl)) (by unfold Func.isWrapper; first | (rw [if_pos (by decide +kernel)]; kernel_rfl) | (rw [if_neg (by decide +kernel)]; exact ⟨rfl, rfl⟩))
  (fun os started H enc _ => lifted os started H enc)
end Go.Proofs.YtamecmklcnohjaaGreat.arenaStale
namespace Go.Proofs.YtamecmklcnohjaaGreat
theorem arenaStale_holds : Rows.ArenaStaleSaid := arenaStale.over
#print axioms arenaStale_holds
end Go.Proofs.YtamecmklcnohjaaGreat
