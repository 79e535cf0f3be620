import Derived.Test.YtmndddegnfbaaaaRows
import Derived.Test.YtmndddegnfbaaaaBn2
import Derived.Test.YtmndddegnfbaaaaLaw15B
/- The law LawRegionBack: it answers true whatever it is given, and what was there stays. No conditions. -/
namespace Go.Proofs.Ytmndddegnfbaaaa.regionBack
open Go.ChangeShapes Go.WideShapes Go.ChangeAt Go.RowKit Go.Deep
set_option linter.unusedVariables false
theorem own : ownKnob Try.prog.godebug = none := by kernel_rfl
theorem laid : laidOutB Try.prog = true := by kernel_rfl
set_option maxRecDepth 100000 in
theorem lifted (os : Os) (started : os.Started) (H : Type) (enc : TypeId × Value → H) :
    ReturnsInHanded {} Try.checked os 7 .any (Rows.regionBackSpec.pre6 enc Try.prog Try.f7 Rows.regionBackRow.domain false) (Rows.regionBackSpec.post enc Try.prog Try.f7 false true false false) := by
  refine returnsInHanded_of_change_sized (C := Try.checked) own started (by kernel_rfl) Try.func7
    (ChangeSpec.witness6 (enc := enc) (C := Try.checked) false ⟨#[], #[.slice none 0 0, .slice none 0 0, .int .u16 0, .int .u8 0], []⟩ 8 (by kernel_rfl) (by kernel_rfl) (by kernel_rfl) (by kernel_rfl)) ?_
  intro W base args ds gs before hval0 hW hcnd hsz0 _
  have hval : ∀ (j : Nat) t v, Try.f7.params[j]? = some t → args[j]? = some v → Value.okWide Try.prog W .any base t v := hval0
  have hW' := hW
  obtain ⟨p, q, hA0, hV, rfl, hfz, hnd⟩ := hW
  have hA : DataW.TrodAll enc Try.prog W 0 (fun _ => true) true Try.f7.params.toList args.toList ds p := hA0
  rw [Try.params7] at hA hval
  obtain ⟨v0, vs0, d0, ds0, p0, q0, hargs, rfl, rfl, h0, r0⟩ := trodAll_cons hA
  obtain ⟨v1, vs1, d1, ds1, p1, q1, rfl, rfl, rfl, h1, r1⟩ := trodAll_cons r0
  obtain ⟨v2, vs2, d2, ds2, p2, q2, rfl, rfl, rfl, h2, r2⟩ := trodAll_cons r1
  obtain ⟨v3, vs3, d3, ds3, p3, q3, rfl, rfl, rfl, h3, r3⟩ := trodAll_cons r2
  obtain ⟨rfl, rfl, rfl⟩ := trodAll_nil r3
  obtain rfl : args = #[v0, v1, v2, v3] := by cases args; simp_all
  obtain ⟨rfl, rfl⟩ := trodVars_none hV
  have hlt : ∀ x ∈ (p0 ++ (p1 ++ (p2 ++ (p3 ++ [])))), x.block < W.heap.size := fun x hx => hW'.lt x (by simpa using hx)
  have hkeep : ∀ W1 : World, Below W.heap.size W W1 → DataW.TrodAll enc Try.prog W1 0 (fun b => decide (b < W.heap.size)) true [55, 55, 70, 5] [v0, v1, v2, v3] [d0, d1, d2, d3] (p0 ++ (p1 ++ (p2 ++ (p3 ++ [])))) := fun W1 hb =>
    (trodAll_cons_mk (Below.trod laid (by kernel_rfl) (of_decide_eq_true (by kernel_rfl)) h0 hb (fun x hx => hlt x (by simp [hx]))) (trodAll_cons_mk (Below.trod laid (by kernel_rfl) (of_decide_eq_true (by kernel_rfl)) h1 hb (fun x hx => hlt x (by simp [hx]))) (trodAll_cons_mk (Below.trod laid (by kernel_rfl) (of_decide_eq_true (by kernel_rfl)) h2 hb (fun x hx => hlt x (by simp [hx]))) (trodAll_cons_mk (Below.trod laid (by kernel_rfl) (of_decide_eq_true (by kernel_rfl)) h3 hb (fun x hx => hlt x (by simp [hx]))) trodAll_mk0))))
  obtain ⟨A0, c0, l0, rfl, V0, w0, m0⟩ := Sep.open_flatV Sep.eAct Sep.OkA Try.underlying55 Sep.flat_act15 rfl Sep.parts_act (hval 0 55 v0 rfl rfl) h0
  obtain ⟨A1, c1, l1, rfl, V1, w1, m1⟩ := Sep.open_flatV Sep.eAct Sep.OkA Try.underlying55 Sep.flat_act15 rfl Sep.parts_act (hval 1 55 v1 rfl rfl) h1
  obtain ⟨a2, rfl, -, -, w2⟩ := open_int Try.underlying70 (hval 2 70 v2 rfl rfl) h2
  obtain ⟨a3, rfl, -, -, w3⟩ := open_int Try.underlying5 (hval 3 5 v3 rfl rfl) h3
  refine (Sep.back15 A0 c0 l0 A1 c1 l1 a2 a3 w0 w1 m0 m1 (Sep.wf_u16 w2) (Sep.wf_u8 w3) W V0 V1).mono fun e W' ⟨he, bel⟩ => ?_
  subst he
  exact ⟨_, rfl, _, _, _, [], _, [], hW', trodAll_mk1 (shut_bool Try.underlying4 _), hkeep W' bel, rfl, bel.frame _, fun h => by cases h⟩
theorem over : Rows.regionBackRow.holds Try.pinned (OpenSpec.ofChange Rows.regionBackSpec) :=
  OpenClaim.holds_of_wide 7 Try.f7 rfl rfl rfl rfl rfl rfl rfl ⟨rfl, rfl, rfl, rfl, rfl⟩ rfl rfl rfl rfl rfl (by kernel_rfl) Try.func7 (by kernel_rfl)
    (of_decide_eq_true (by kernel_rfl)) (by unfold Func.isWrapper; first | (rw [if_pos (by decide +kernel)]; kernel_rfl) | (rw [if_neg (by decide +kernel)]; exact ⟨rfl, rfl⟩))
    (fun os started H enc _ => lifted os started H enc)
end Go.Proofs.Ytmndddegnfbaaaa.regionBack
namespace Go.Proofs.Ytmndddegnfbaaaa
theorem regionBack_holds : Rows.RegionBackSaid := regionBack.over
#print axioms regionBack_holds
end Go.Proofs.Ytmndddegnfbaaaa
